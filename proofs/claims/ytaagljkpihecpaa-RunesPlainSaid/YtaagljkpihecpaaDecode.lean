/- 'decode' and Decode of package runes. No condition beyond each theorem's own premises. -/
import Derived.Test.YtaagljkpihecpaaFirst
import Derived.Deep.LoopGhost
import Derived.Deep.DeepCutAuto
namespace Go.Proofs.Ytaagljkpihecpaa
open Go.RowKit
namespace Ru
theorem info21 : (Try.prog.info? 21).map (fun i => (i.zero, i.size, i.bytes)) = some (some (.int .i32 0), 1, 4) := by kernel_rfl

/-- The cells of a row of characters. -/
def rs (l : List Nat) : List Value := l.map fun r : Nat => .int .i32 (r : Int)
theorem rs_length (l : List Nat) : (rs l).length = l.length * 1 := by simp [rs]
theorem rs_snoc (l : List Nat) (x : Nat) : rs (l ++ [x]) = rs l ++ [.int .i32 (x : Int)] := by simp [rs]
theorem rs_append (a b : List Nat) : rs (a ++ b) = rs a ++ rs b := by simp [rs]
theorem rs_one (l : List Nat) : ∀ u ∈ rs l, u.oneCell' = true := by
  intro u hu
  obtain ⟨_, _, rfl⟩ := List.mem_map.1 hu
  rfl
theorem nb_extract (s : ByteArray) (n : Nat) : nb (s.extract n s.size) = (nb s).drop n := by
  have h : (s.extract n s.size).data.toList = s.data.toList.drop n := by
    rw [ByteArray.data_extract, Array.toList_extract, List.extract_eq_take_drop]
    apply List.take_of_length_le
    simp
  unfold nb
  rw [h, List.map_drop]
theorem nb_append (s t : ByteArray) : nb (s ++ t) = nb s ++ nb t := by simp [nb]
theorem nb_empty : nb ByteArray.empty = [] := rfl
theorem nb_eq_nil {s : ByteArray} : nb s = [] ↔ s.size = 0 := by
  rw [← List.length_eq_zero_iff, nb_length]

theorem decode_any (s : ByteArray) (w : World) (hm : s.size ≤ 100000) :
    Calls Try.prog 23 #[.string s] w fun e w' => ∃ (a : Option Addr) (c : Nat) (k : ByteArray), e = .returned (.tuple #[.slice a (decode (nb s)).1.length c, .string k]) ∧ nb k = (decode (nb s)).2 ∧
      Held w' w.heap.size 21 1 (.slice a (decode (nb s)).1.length c) (decode (nb s)).1.length (rs (decode (nb s)).1) ∧ Below w.heap.size w w' := by
  obtain ⟨i0, hi0, hz0, hz1, hz2⟩ := info_parts info21
  go_enter Try.func23, Try.ntmps23
  go_wp2
  go_step3
  go_wp2_with fail
  go_step3
  go_wp2_with fail
  go_loopw [0, 4] (fun sv lv wr => ∃ (done : List Nat) (t : ByteArray) (a : Option Addr) (c : Nat), sv = .string t ∧ lv = .slice a done.length c ∧ decode (nb s) = (done ++ (decode (nb t)).1, (decode (nb t)).2) ∧
      Held wr w.heap.size 21 1 (.slice a done.length c) done.length (rs done) ∧ done.length + t.size ≤ s.size ∧ Below w.heap.size w wr) (fun sv _ _ => match sv with | .string t => t.size | _ => 0)
  case atStart => exact ⟨[], s, none, 0, rfl, rfl, by simp, Held.nil _ _ _ _, by simp, Below.refl _ _⟩
  case round =>
    obtain ⟨done, t, a, c, rfl, rfl, hdec, hheld, hlen, hb⟩ := hrel
    have z := hb.size
    by_cases ht : t.size = 0
    · have hn : nb t = [] := nb_eq_nil.2 ht
      rw [hn, decode_nil] at hdec
      have HD := Lib.hid hdec
      have HT := Lib.hid ht
      have ht1 : ¬ (0 : Int) < (t.size : Int) := by omega
      have HN := Lib.hid hn
      clear hdec hn ht
      go_wp2_with fail
      go_returns
      have e1 : (decode (nb s)).1 = done := by rw [HD.out]; simp
      have e2 : (decode (nb s)).2 = [] := by rw [HD.out]
      rw [e1, e2]
      exact ⟨a, c, t, rfl, HN.out, hheld, hb⟩
    · have ht0 : (0 : Int) < (t.size : Int) := by omega
      have htn : nb t ≠ [] := fun h => ht (nb_eq_nil.1 h)
      have hfs := first_size (nb t) htn
      rw [nb_length] at hfs
      obtain ⟨f1, f2⟩ := hfs
      have hstep := decode_step (nb t) htn
      have hopen := decode_open (nb t) htn
      have hex := nb_extract t (first (nb t)).2.1
      go_wp2_with fail
      refine (first_any t _ (by omega) (by omega)).mono ?_
      unfold Says
      obtain ⟨R, N, O, hrno⟩ : ∃ R N O, first (nb t) = (R, N, O) := ⟨_, _, _, rfl⟩
      rw [hrno] at f1 f2 hstep hopen hex ⊢
      dsimp only at f1 f2 hstep hopen hex
      rintro e w1 ⟨rfl, rfl⟩
      cases O with
      | true =>
        have hd2 := hopen rfl
        rw [hd2] at hdec
        have HD := Lib.hid hdec
        clear hdec hstep hopen hex hrno hd2 f1 f2 htn ht
        go_wp2_with fail
        rw [Exit.noGoto_ret]
        go_returns
        have e1 : (decode (nb s)).1 = done := by rw [HD.out]; simp
        have e2 : (decode (nb s)).2 = nb t := by rw [HD.out]
        rw [e1, e2]
        exact ⟨a, c, t, rfl, rfl, hheld, hb⟩
      | false =>
        have hd2 := hstep rfl
        rw [hd2] at hdec
        have hrel : decode (nb s) = ((done ++ [R]) ++ (decode (nb (t.extract N t.size))).1, (decode (nb (t.extract N t.size))).2) := by
          rw [hdec, hex]; simp
        have HD := Lib.hid hrel
        clear hdec hstep hopen hex hrno hd2 hrel htn ht
        have n0 : (0 : Int) ≤ (N : Int) := by omega
        have n1 : (N : Int) ≤ (t.size : Int) := by omega
        have hsz : (t.extract N t.size).size = t.size - N := by simp
        have HS := Lib.hid hsz
        clear hsz
        go_wp2_with (at_builtin; refine wpList_append_held _ rfl _ _ 32 rfl w.heap.size 21 i0 _ 1 4 Try.underlying32 hi0 hz0 hz1 hz2 rfl (by decide) (.slice a done.length c) done.length (rs done) rfl (hheld.alloc _) ⟨wr.heap.size, 0, none⟩ 1 1 [.int .i32 (R : Int)] rfl rfl (World.news_of_block (cs := #[.int .i32 (R : Int)]) (t := 21) (fr := (0, 0)) (new_at (by simp))) (by simp [Value.oneCell']) (by omega) (by unfold maxLen; omega) (by omega) (by simp; omega) ?_)
        intro g off cap w2 hown hgrow hat hlt
        go_wp2_with fail
        go_roundw
        case rel => exact ⟨done ++ [R], t.extract N t.size, some ⟨g, off, none⟩, cap, rfl, by simp, HD.out, by simpa [rs_snoc] using hown, by rw [HS.out]; simp; omega, (hb.alloc z _).grown hgrow (by simp; omega) (fun k hk => (hheld.lt k hk).1)⟩
        case measure => simp; omega
end Ru
end Go.Proofs.Ytaagljkpihecpaa
