/- The reference's Decode; 'awake'; a text's clone; the decoder's methods. No condition beyond each theorem's own premises. -/
import Derived.Test.YtaagljkpihecpaaFuncs
import Derived.Test.YtaagljkpihecpaaRefFirst
namespace Go.Proofs.Ytaagljkpihecpaa
open Go.RowKit
namespace Ru

set_option maxHeartbeats 800000 in
theorem refDecode_any (s : ByteArray) (w : World) (hm : s.size ≤ 10000) :
    Calls Try.prog 19 #[.string s] w fun e w' => ∃ (a : Option Addr) (c : Nat), e = .returned (.slice a (all (nb s)).length c) ∧
      Held w' w.heap.size 21 1 (.slice a (all (nb s)).length c) (all (nb s)).length (rs (all (nb s))) ∧ Below w.heap.size w w' := by
  obtain ⟨i0, hi0, hz0, hz1, hz2⟩ := info_parts info21
  go_enter Try.func19, Try.ntmps19
  go_wp2_with fail
  go_loopw [0, 3] (fun sv lv wr => ∃ (done : List Nat) (t : ByteArray) (a : Option Addr) (c : Nat), sv = .string t ∧ lv = .slice a done.length c ∧ all (nb s) = done ++ all (nb t) ∧
      Held wr w.heap.size 21 1 (.slice a done.length c) done.length (rs done) ∧ done.length + t.size ≤ s.size ∧ Below w.heap.size w wr) (fun sv _ _ => match sv with | .string t => t.size | _ => 0)
  case atStart => exact ⟨[], s, none, 0, rfl, rfl, by simp, Held.nil _ _ _ _, by simp, Below.refl _ _⟩
  case round =>
    obtain ⟨done, t, a, c, rfl, rfl, hdec, hheld, hlen, hb⟩ := hrel
    have z := hb.size
    by_cases ht : t.size = 0
    · have hn : nb t = [] := nb_eq_nil.2 ht
      rw [hn, all_nil, List.append_nil] at hdec
      have HD := Lib.hid hdec
      have hke : (!t.toList.isEmpty) = false := by
        rw [ByteArray.toList_eq]
        have : t.data.toList = [] := List.eq_nil_of_length_eq_zero (by simpa using ht)
        rw [this]; rfl
      have hke2 : t.toList.isEmpty = true := by simpa using hke
      clear hdec hn ht
      go_wp2_with fail
      go_returns
      rw [HD.out]
      exact ⟨a, c, rfl, hheld, hb⟩
    · have htn : nb t ≠ [] := fun h => ht (nb_eq_nil.1 h)
      have hfs := first_size (nb t) htn
      rw [nb_length] at hfs
      obtain ⟨f1, f2⟩ := hfs
      have hstep := all_step (nb t) htn
      have hex := nb_extract t (first (nb t)).2.1
      have hke2 : t.toList.isEmpty = false := by
        rw [ByteArray.toList_eq]
        cases hc : t.data.toList with
        | nil => exact absurd (by simpa using congrArg List.length hc) ht
        | cons x r => rfl
      have hke : (!t.toList.isEmpty) = true := by simp [hke2]
      have hpart : ∀ R N O, first (nb t) = (R, N, O) → part t = .agg #[.int .i64 (N : Int), .int .i32 (R : Int), .bool O] := fun R N O h => part_of h
      go_wp2_with fail
      refine (refFirst_any t _ (by omega) (by omega)).mono ?_
      unfold SaysP
      obtain ⟨R, N, O, hrno⟩ : ∃ R N O, first (nb t) = (R, N, O) := ⟨_, _, _, rfl⟩
      rw [hpart R N O hrno]
      rw [hrno] at f1 f2 hstep hex
      dsimp only at f1 f2 hstep hex
      rintro e w1 ⟨rfl, hb1⟩
      have hrel : all (nb s) = (done ++ [R]) ++ all (nb (t.extract N t.size)) := by
        rw [hdec, hstep, hex]; simp
      have HD := Lib.hid hrel
      have hheld1 := hheld.only (Only.of_below hb1 []) (by simp)
      have hbw := hb.trans (hb1.mono z)
      have z1 := hbw.size
      clear hdec hstep hex hrno hrel htn ht hpart hb1
      have n0 : (0 : Int) ≤ (N : Int) := by omega
      have n1 : (N : Int) ≤ (t.size : Int) := by omega
      have hsz : (t.extract N t.size).size = t.size - N := by simp
      have HS := Lib.hid hsz
      clear hsz
      go_wp2_with (at_builtin; refine wpList_append_held _ rfl _ _ 32 rfl w.heap.size 21 i0 _ 1 4 Try.underlying32 hi0 hz0 hz1 hz2 rfl (by decide) (.slice a done.length c) done.length (rs done) rfl ((hheld1.alloc _).alloc _) ⟨w1.heap.size + 1, 0, none⟩ 1 1 [.int .i32 (R : Int)] rfl rfl (World.news_of_block (cs := #[.int .i32 (R : Int)]) (t := 21) (fr := (0, 0)) (new_at (by simp))) (by simp [Value.oneCell']) (by omega) (by unfold maxLen; omega) (by omega) (by simp; omega) ?_)
      intro g off cap w2 hown hgrow hat hlt
      have hp2 : w2.heap[w1.heap.size]? = some (.cells #[.int .i64 (N : Int), .int .i32 (R : Int), .bool O] 53 (0, 0)) := hk_grown hgrow (by simp; omega) (fun e => by have := hheld1.lt _ e; omega) (by (repeat' (first | (with_reducible assumption) | (with_reducible exact rfl) | (with_reducible exact new_at rfl) | (with_reducible refine hk_drew ?_) | (with_reducible refine hk_drewN ?_) | (with_reducible refine hk_alloc ?_ ?_) | (with_reducible refine hk_self ?_ _ _) | (with_reducible refine hk_set ?_ ?_) | omega | (simp; done) | (simp; omega))))
      have p0 := cell_of_heap hp2 0 _ rfl
      go_wp2_with fail
      go_roundw
      case rel => exact ⟨done ++ [R], t.extract N t.size, some ⟨g, off, none⟩, cap, rfl, by simp, HD.out, by simpa [rs_snoc] using hown, by rw [HS.out]; simp; omega, ((hbw.alloc z1 _).alloc (by simp; omega) _).grown hgrow (by simp; omega) (fun k hk => (hheld1.lt k hk).1)⟩
      case measure => simp; omega
end Ru
end Go.Proofs.Ytaagljkpihecpaa
