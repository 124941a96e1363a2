/- The reference's Feed. No condition beyond each theorem's own premises. -/
import Derived.Test.YtaagljkpihecpaaFeeds
namespace Go.Proofs.Ytaagljkpihecpaa
open Go.RowKit
namespace Ru

def keptSize (w : World) (d : Nat) : Nat := match w.cell? ⟨d, 0, none⟩ with | some (.string t) => t.size | _ => 0
theorem keptSize_of {w : World} {d : Nat} {T : TypeId} {k : ByteArray} (h : DecAt w d T k) : keptSize w d = k.size := by
  unfold keptSize
  rw [cell_of_heap h 0 _ rfl]
  rfl

set_option maxHeartbeats 1600000 in
set_option maxRecDepth 100000 in
theorem refFeed_any (d : Nat) (k s : ByteArray) (w : World) (hd : DecAt w d 30 k) (hm : k.size + s.size ≤ 10000) :
    Calls Try.prog 12 #[.pointer (some ⟨d, 0, none⟩), .string s] w fun e w' => ∃ (a : Option Addr) (c : Nat) (k' : ByteArray), e = .returned (.slice a (decode (nb k ++ nb s)).1.length c) ∧
      nb k' = (decode (nb k ++ nb s)).2 ∧ Held w' w.heap.size 21 1 (.slice a (decode (nb k ++ nb s)).1.length c) (decode (nb k ++ nb s)).1.length (rs (decode (nb k ++ nb s)).1) ∧ Only [d] w w' ∧ DecAt w' d 30 k' := by
  obtain ⟨i0, hi0, hz0, hz1, hz2⟩ := info_parts info21
  have hlt := lt_of_heap hd
  have p0 := cell_of_heap hd 0 _ rfl
  have f0 := free_of_heap hd 0
  have hsz : (k ++ s).size = k.size + s.size := by simp
  have hnb : nb k ++ nb s = nb (k ++ s) := (nb_append k s).symm
  obtain ⟨D, hD⟩ : ∃ D, D = decode (nb k ++ nb s) := ⟨_, rfl⟩
  rw [← hD]
  rw [hnb] at hD
  clear hnb
  have hd1 : DecAt (w.setCell ⟨d, 0, none⟩ (.string (k ++ s))) d 30 (k ++ s) := hk_self hd 0 _
  have HD := Lib.hid hD
  clear hD
  go_enter Try.func12, Try.ntmps12
  go_wp2_with fail
  go_loopw [5] (fun lv wr => ∃ (done : List Nat) (t : ByteArray) (a : Option Addr) (c : Nat), lv = .slice a done.length c ∧ D = (done ++ (decode (nb t)).1, (decode (nb t)).2) ∧ DecAt wr d 30 t ∧
      Held wr w.heap.size 21 1 (.slice a done.length c) done.length (rs done) ∧ done.length + t.size ≤ k.size + s.size ∧ Only [d] w wr) (fun _ wr => keptSize wr d)
  case atStart => exact ⟨[], k ++ s, none, 0, rfl, by rw [HD.out]; simp, hd1, Held.nil _ _ _ _, by simp, (Only.refl _ _).setCell (p := ⟨d, 0, none⟩) (by simp) _⟩
  case round =>
    obtain ⟨done, t, a, c, rfl, hdec, hat, hheld, hlen, ho⟩ := hrel
    clear hd1 p0 f0
    have z := ho.size
    have hsize := keptSize_of hat
    have q0 := cell_of_heap hat 0 _ rfl
    have q1 := free_of_heap hat 0
    by_cases ht : t.size = 0
    · have hn : nb t = [] := nb_eq_nil.2 ht
      rw [hn, decode_nil] at hdec
      have HE := Lib.hid hdec
      obtain rfl := empty_of ht
      clear hdec hn ht hsize
      go_wp2_with fail
      go_returns
      rw [HE.out]
      refine ⟨a, c, ?_, { data := #[] }, rfl, ?_, ho, hat⟩
      · simp
      · simpa using hheld
    · have htn : nb t ≠ [] := fun h => ht (nb_eq_nil.1 h)
      have hfs := first_size (nb t) htn
      rw [nb_length] at hfs
      obtain ⟨f1, f2⟩ := hfs
      have hstep := decode_step (nb t) htn
      have hopen := decode_open (nb t) htn
      have hex := nb_extract t (first (nb t)).2.1
      have hke2 : t.toList.isEmpty = false := isEmpty_pos ht
      have hke : (!t.toList.isEmpty) = true := by simp [hke2]
      have hpart : ∀ R N O, first (nb t) = (R, N, O) → part t = .agg #[.int .i64 (N : Int), .int .i32 (R : Int), .bool O] := fun R N O h => part_of h
      go_wp2_with fail
      refine (refFirst_any t _ (by omega) (by omega)).mono ?_
      unfold SaysP
      obtain ⟨R, N, O, hrno⟩ : ∃ R N O, first (nb t) = (R, N, O) := ⟨_, _, _, rfl⟩
      rw [hpart R N O hrno]
      rw [hrno] at f1 f2 hstep hopen hex
      dsimp only at f1 f2 hstep hopen hex
      rintro e w1 ⟨rfl, hb1⟩
      have hat1 : DecAt w1 d 30 t := (hb1.block d (lt_of_heap hat)).trans hat
      have hheld1 := hheld.only (Only.of_below hb1 []) (by simp)
      have ho1 := ho.and (Only.of_below hb1 []) (by simp)
      have z1 := hb1.size
      cases O with
      | true =>
        have hd2 := hopen rfl
        rw [hd2] at hdec
        have HE := Lib.hid hdec
        clear hdec hstep hopen hex hrno hd2 htn ht hpart hb1 hsize
        go_wp2_with fail
        go_returns
        rw [HE.out]
        refine ⟨a, c, t, ?_, rfl, ?_, ?_, ?_⟩
        · simp
        · simpa using hheld1.alloc _
        · exact ho1.alloc _
        · exact hk_alloc (lt_of_heap hat1) hat1
      | false =>
        have hd2 := hstep rfl
        rw [hd2] at hdec
        have hrel : D = ((done ++ [R]) ++ (decode (nb (t.extract N t.size))).1, (decode (nb (t.extract N t.size))).2) := by
          rw [hdec, hex]; simp
        have HE := Lib.hid hrel
        clear hdec hstep hopen hex hrno hd2 hrel htn ht hpart
        have n0 : (0 : Int) ≤ (N : Int) := by omega
        have n1 : (N : Int) ≤ (t.size : Int) := by omega
        have hsz2 : (t.extract N t.size).size = t.size - N := by simp
        have HS := Lib.hid hsz2
        clear hsz2
        go_wp2_with (at_builtin; refine wpList_append_held _ rfl _ _ 32 rfl w.heap.size 21 i0 _ 1 4 Try.underlying32 hi0 hz0 hz1 hz2 rfl (by decide) (.slice a done.length c) done.length (rs done) rfl ((hheld1.alloc _).alloc _) ⟨w1.heap.size + 1, 0, none⟩ 1 1 [.int .i32 (R : Int)] rfl rfl (World.news_of_block (cs := #[.int .i32 (R : Int)]) (t := 21) (fr := (0, 0)) (new_at (by simp))) (by simp [Value.oneCell']) (by omega) (by unfold maxLen; omega) (by omega) (by simp; omega) ?_)
        intro g off cap w2 hown hgrow hat3 hlt2
        have hdb : d ≠ g → True := fun _ => trivial
        have hat2 : DecAt w2 d 30 t := hk_grown hgrow (by have := lt_of_heap hat1; simp; omega) (fun e => by have := (hheld1.lt _ e).1; omega) (hk_alloc (by have := lt_of_heap hat1; simp; omega) (hk_alloc (lt_of_heap hat1) hat1))
        have hp2 : w2.heap[w1.heap.size]? = some (.cells #[.int .i64 (N : Int), .int .i32 (R : Int), .bool false] 53 (0, 0)) := hk_grown hgrow (by simp; omega) (fun e => by have := (hheld1.lt _ e).2; omega) (by (repeat' (first | (with_reducible assumption) | (with_reducible exact rfl) | (with_reducible exact new_at rfl) | (with_reducible refine hk_drew ?_) | (with_reducible refine hk_drewN ?_) | (with_reducible refine hk_alloc ?_ ?_) | (with_reducible refine hk_self ?_ _ _) | (with_reducible refine hk_set ?_ ?_) | omega | (simp; done) | (simp; omega))))
        have p0 := cell_of_heap hp2 0 _ rfl
        have q2 := cell_of_heap hat2 0 _ rfl
        have q3 := free_of_heap hat2 0
        have ho2 := ((ho1.alloc (.cells #[.int .i64 (N : Int), .int .i32 (R : Int), .bool false] 53)).alloc (.cells #[.int .i32 (R : Int)] 21)).grown hgrow (fun k hk => .inr ((hheld1.lt k hk).1))
        have hgb : w.heap.size ≤ g := (hown.lt g rfl).1
        go_wp2_with fail
        refine still_tail 10 (by kernel_rfl) (by kernel_rfl) ?_
        simp only [List.take_succ_cons, List.take_zero, List.drop_succ_cons, List.drop_zero]
        repeat still_step
        refine wpStill_nil ?_
        go_wp2_with fail
        go_roundw
        case rel => exact ⟨done ++ [R], t.extract N t.size, some ⟨g, off, none⟩, cap, by simp, HE.out, hk_drew (hk_self hat2 0 _), by simpa [rs_snoc] using (show Held (w2.setCell ⟨d, 0, none⟩ (.string (t.extract N t.size))).drew _ _ _ _ _ _ from (hown.setCell (p := ⟨d, 0, none⟩) (fun e => by simp [Value.ownBlock] at e; omega) _).drewN 1), by rw [HS.out, List.length_append]; simp only [List.length_cons, List.length_nil]; omega, (ho2.setCell (p := ⟨d, 0, none⟩) (by simp) _).drew⟩
        case measure => rw [hsize, keptSize_of (k := t.extract N t.size) (T := 30) (hk_drew (hk_self hat2 0 _)), HS.out]; omega
end Ru
end Go.Proofs.Ytaagljkpihecpaa
