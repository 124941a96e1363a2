/- 'awake'; the decoder's methods, and the reference's. No condition beyond each theorem's own premises. -/
import Derived.Test.YtaagljkpihecpaaDec
import Derived.Test.YtaagljkpihecpaaClone
namespace Go.Proofs.Ytaagljkpihecpaa
open Go.RowKit
namespace Ru
def aw : ByteArray := { data := #[65, 226, 130, 65] }
theorem aw_all : all (nb aw) = [65, 65533, 65] := by decide +kernel

set_option maxRecDepth 100000 in
theorem awake_any (w : World) : Calls Try.prog 9 #[] w fun e w' => e = .returned (.bool true) ∧ Below w.heap.size w w' := by
  go_enter Try.func9, Try.ntmps9
  go_wp2_with fail
  refine (decodeAll_any aw w (by decide)).mono ?_
  rw [aw_all]
  rintro e w1 ⟨a, c, rfl, hheld, hb⟩
  have z := hb.size
  have r1 : Reads (w1.alloc (.cells #[.int .i32 65, .int .i32 65533, .int .i32 65] 21)) a 3 (rs [65, 65533, 65]) := Reads.of (hheld.alloc _)
  have r2 : Reads (w1.alloc (.cells #[.int .i32 65, .int .i32 65533, .int .i32 65] 21)) (some ⟨w1.heap.size, 0, none⟩) 3 (rs [65, 65533, 65]) := by
    refine ⟨rfl, .inr ⟨w1.heap.size, 0, rfl, by simp, ?_⟩⟩
    have hn : (w1.alloc (.cells #[.int .i32 65, .int .i32 65533, .int .i32 65] 21)).heap[w1.heap.size]? = some (.cells #[.int .i32 65, .int .i32 65533, .int .i32 65] 21 (0, 0)) := new_at rfl
    intro j u hu
    rw [Nat.zero_add]
    refine cell_of_heap hn j u ?_
    simpa [rs] using hu
  go_wp2_with fail
  refine (same_any _ _ 3 _ _ [65, 65533, 65] _ r1 r2 (by decide)).mono ?_
  rintro e w2 ⟨rfl, q, rfl⟩
  go_wp2_with fail
  go_returns
  exact ⟨rfl, below_drewN (hb.alloc z _) _⟩

/-- What a decoder's pointer points to. -/
def DecAt (w : World) (d : Nat) (T : TypeId) (k : ByteArray) : Prop := w.heap[d]? = some (.cells #[.string k] T (0, 0))

set_option maxHeartbeats 800000 in
theorem feed_any (d : Nat) (k s : ByteArray) (w : World) (hd : DecAt w d 27 k) (hm : k.size + s.size ≤ 10000) :
    Calls Try.prog 11 #[.pointer (some ⟨d, 0, none⟩), .string s] w fun e w' => ∃ (a : Option Addr) (c : Nat) (k' : ByteArray), e = .returned (.slice a (decode (nb k ++ nb s)).1.length c) ∧
      nb k' = (decode (nb k ++ nb s)).2 ∧ Held w' w.heap.size 21 1 (.slice a (decode (nb k ++ nb s)).1.length c) (decode (nb k ++ nb s)).1.length (rs (decode (nb k ++ nb s)).1) ∧ Only [d] w w' ∧ DecAt w' d 27 k' := by
  unfold DecAt at *
  have hlt := lt_of_heap hd
  have p0 := cell_of_heap hd 0 _ rfl
  have f0 := free_of_heap hd 0
  have hsz : (k ++ s).size = k.size + s.size := by simp
  rw [← nb_append]
  have hks := decode_len (nb (k ++ s)).length (nb (k ++ s)) (Nat.le_refl _)
  rw [nb_length] at hks
  obtain ⟨D, hD⟩ : ∃ D, D = decode (nb (k ++ s)) := ⟨_, rfl⟩
  rw [← hD] at hks ⊢
  go_enter Try.func11, Try.ntmps11
  go_wp2_with fail
  refine (decode_any (k ++ s) w (by omega)).mono ?_
  rw [← hD]
  clear hD
  rintro e w1 ⟨a, c, k', rfl, hk, hheld, hb⟩
  have hk' : k'.size = D.2.length := by rw [← hk, nb_length]
  have z1 := hb.size
  have hd1 : w1.heap[d]? = some (.cells #[.string k] 27 (0, 0)) := (hb.block d hlt).trans hd
  go_wp2_with fail
  refine (stringsClone_any k' w1 (by omega)).mono ?_
  rintro e w2 ⟨rfl, hb2⟩
  have z2 := hb2.size
  have hd2 : w2.heap[d]? = some (.cells #[.string k] 27 (0, 0)) := (hb2.block d (by omega)).trans hd1
  have p2 := cell_of_heap hd2 0 _ rfl
  have f2 := free_of_heap hd2 0
  go_wp2_with fail
  go_returns
  refine ⟨a, c, k', rfl, hk, ?_, ?_, ?_⟩
  · exact (hheld.only (Only.of_below hb2 []) (by simp)).setCell (p := ⟨d, 0, none⟩) (fun e => by have := (hheld.lt _ e).1; simp at this; omega) _
  · exact ((Only.of_below hb [d]).and (Only.of_below hb2 [d]) (by simp)).setCell (p := ⟨d, 0, none⟩) (by simp) _
  · exact hk_self hd2 0 _

theorem pending_any (d : Nat) (k : ByteArray) (w : World) (hd : DecAt w d 27 k) :
    Calls Try.prog 14 #[.pointer (some ⟨d, 0, none⟩)] w fun e w' => e = .returned (.int .i64 (k.size : Int)) ∧ w = w' := by
  unfold DecAt at *
  have p0 := cell_of_heap hd 0 _ rfl
  go_enter Try.func14, Try.ntmps14
  go_wp2_with fail
  go_returns
  exact ⟨rfl, rfl⟩

theorem empty_of {t : ByteArray} (h : t.size = 0) : t = { data := #[] } := by
  apply ByteArray.ext
  exact Array.eq_empty_of_size_eq_zero h
theorem isEmpty_pos {t : ByteArray} (h : t.size ≠ 0) : t.toList.isEmpty = false := by
  rw [ByteArray.toList_eq]
  cases hc : t.data.toList with
  | nil => exact absurd (by simpa using congrArg List.length hc) h
  | cons x r => rfl

theorem flush_any (d : Nat) (k : ByteArray) (w : World) (hd : DecAt w d 27 k) :
    Calls Try.prog 15 #[.pointer (some ⟨d, 0, none⟩)] w fun e w' => ∃ (a : Option Addr) (c : Nat), e = .returned (.slice a (if k.size = 0 then 0 else 1) c) ∧
      Held w' w.heap.size 21 1 (.slice a (if k.size = 0 then 0 else 1) c) (if k.size = 0 then 0 else 1) (rs (if k.size = 0 then [] else [65533])) ∧ Only [d] w w' ∧ DecAt w' d 27 { data := #[] } := by
  unfold DecAt at *
  have hlt := lt_of_heap hd
  have p0 := cell_of_heap hd 0 _ rfl
  have f0 := free_of_heap hd 0
  by_cases h : k.size = 0
  · obtain rfl := empty_of h
    simp only [h, if_true]
    go_enter Try.func15, Try.ntmps15
    go_wp2_with fail
    go_returns
    exact ⟨none, 0, rfl, Held.nil _ _ _ _, Only.refl _ _, hd⟩
  · have hke := isEmpty_pos h
    have hke2 : (!k.toList.isEmpty) = true := by simp [hke]
    simp only [h, if_false]
    go_enter Try.func15, Try.ntmps15
    go_wp2_with fail
    go_returns
    refine ⟨_, _, rfl, ?_, ?_, ?_⟩
    · refine ⟨rfl, .inr ⟨w.heap.size, 0, 1, #[.int .i32 65533], by simp, Nat.le_refl _, new_at (by simp), by decide, by decide, by decide, by simp [rs]⟩⟩
    · (repeat' (first | (with_reducible exact Only.refl _ _) | (with_reducible assumption) | (with_reducible refine Only.drew ?_) | (with_reducible refine Only.drewN ?_ _) | (with_reducible refine Only.alloc ?_ _) | (with_reducible refine Only.setCell ?_ ?_ _) | (simp; done) | (simp; omega)))
    · exact hk_alloc (by simpa [World.setCell] using hlt) (hk_self hd 0 _)
end Ru
end Go.Proofs.Ytaagljkpihecpaa
