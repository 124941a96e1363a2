/- RunesFeed returns true for every input, and leaves what was there as it was. No condition. -/
import Derived.Test.YtaagljkpihecpaaRefFeed
import Derived.Test.YtaagljkpihecpaaQuiet
import Derived.ProofKit
import Derived.OpenShut
import Derived.ShutString
import Derived.ChangeOld
import Derived.Deep.LoopGhost
import Derived.Deep.DeepCutAuto
namespace Go.Proofs.Ytaagljkpihecpaa
open Go.ChangeShapes Go.WideShapes Go.ChangeAt Go.RowKit
namespace Ru
theorem nb_inj {s t : ByteArray} (h : nb s = nb t) : s = t := by
  unfold nb at h
  have h2 : s.data.toList = t.data.toList := (List.map_inj_right (fun _ _ => UInt8.toNat_inj.1)).1 h
  apply ByteArray.ext
  exact Array.toList_inj.1 h2
namespace FeedLaw
/-- A slice of texts that came in. -/
def InStrs (w : World) (a : Option Addr) (len cap : Nat) : Prop :=
  len = 0 ∨ ∃ b off, a = some ⟨b, off, none⟩ ∧ len ≤ cap ∧ cap ≤ maxLen ∧ ∀ i, i < len → ∃ s : ByteArray, w.cell? ⟨b, off + i, none⟩ = some (.string s)

set_option maxRecDepth 1000000 in
set_option maxHeartbeats 4000000 in
theorem walk (a0 : Option Addr) (len0 cap0 : Nat) (fl : Int) (w : World) (w0 : InStrs w a0 len0 cap0) :
    Calls Try.prog 3 #[.slice a0 len0 cap0, .int .u32 fl] w fun e w' => e = .returned (.bool true) ∧ Below w.heap.size w w' := by
  go_enter Try.func3, Try.ntmps3
  go_wp2_with fail
  refine (awake_any w).mono ?_
  rintro e w1 ⟨rfl, hb1⟩
  have z1 := hb1.size
  go_wp2_with fail
  have hA : DecAt ((w1.alloc (.cells #[.string { data := #[] }] 27)).alloc (.cells #[.string { data := #[] }] 30)) w1.heap.size 27 { data := #[] } := by unfold DecAt; (repeat' (first | (with_reducible assumption) | (with_reducible exact rfl) | (with_reducible exact new_at rfl) | (with_reducible refine hk_drew ?_) | (with_reducible refine hk_drewN ?_) | (with_reducible refine hk_alloc ?_ ?_) | (with_reducible refine hk_self ?_ _ _) | (with_reducible refine hk_set ?_ ?_) | omega | (simp; done) | (simp; omega)))
  have hB : DecAt ((w1.alloc (.cells #[.string { data := #[] }] 27)).alloc (.cells #[.string { data := #[] }] 30)) (w1.heap.size + 1) 30 { data := #[] } := new_at (by simp)
  have hb2 : Below w.heap.size w ((w1.alloc (.cells #[.string { data := #[] }] 27)).alloc (.cells #[.string { data := #[] }] 30)) := (hb1.alloc z1 _).alloc (by rw [World.size_alloc]; omega) _
  generalize w1.heap.size = A at hA hB z1 ⊢
  generalize (w1.alloc (.cells #[.string { data := #[] }] 27)).alloc (.cells #[.string { data := #[] }] 30) = w2 at hA hB hb2 ⊢
  have hAB : A ≠ A + 1 := by omega
  have z2 : w.heap.size ≤ A + 1 := by omega
  generalize A + 1 = B at hB hAB z2 ⊢
  obtain ⟨lim, hlim⟩ : ∃ lim : Nat, lim = min len0 20 := ⟨_, rfl⟩
  have l1 : lim ≤ len0 := by omega
  have l2 : lim ≤ 20 := by omega
  have l3 : len0 ≤ lim ∨ 20 ≤ lim := by omega
  clear hlim
  go_loopw [8] (fun iv wr => ∃ (i : Nat) (k : ByteArray), iv = .int .i64 i ∧ i ≤ lim ∧ k.size ≤ 3 ∧ DecAt wr A 27 k ∧ DecAt wr B 30 k ∧ Below w.heap.size w wr) (fun i _ => lim - (intOf i).toNat)
  case atStart => exact ⟨0, { data := #[] }, rfl, by omega, by decide, hA, hB, hb2⟩
  case round =>
    clear hA hB hb2 hb1
    obtain ⟨i, k, rfl, hi, hk, hA, hB, hb⟩ := hrel
    have z := hb.size
    by_cases hlt : i < lim
    · obtain ⟨b, off, rfl, q1, q2, q3⟩ : ∃ b off, a0 = some ⟨b, off, none⟩ ∧ len0 ≤ cap0 ∧ cap0 ≤ maxLen ∧ ∀ i, i < len0 → ∃ s : ByteArray, w.cell? ⟨b, off + i, none⟩ = some (.string s) := by
        rcases w0 with h | h
        · omega
        · exact h
      obtain ⟨s, c0⟩ := q3 i (by omega)
      have hbl := World.block_lt_of_cell? w _ c0
      rw [← hb.cell (p := ⟨b, off + i, none⟩) hbl] at c0
      have i1 : (i : Int) < (len0 : Int) := by omega
      have i2 : (i : Int) < 20 := by omega
      clear q3
      go_wp2_with fail
      refine (short_any s 8 _ (by decide)).mono ?_
      rintro e w3 ⟨rfl, rfl⟩
      have hu := cut_size s 8
      generalize cut s 8 = u at hu ⊢
      go_wp2_with fail
      refine (feed_any A k u _ hA (by omega)).mono ?_
      rintro e w4 ⟨a, c, k1, rfl, hk1, hheld, hO, hA4⟩
      have z4 := hO.size
      have hB4 : DecAt w4 B 30 k := (hO.block B (lt_of_heap hB) (by simpa using fun e => hAB e.symm)).trans hB
      have hb4 : Below w.heap.size w w4 := hb.trans (hO.below z (by simp; omega))
      have Alt := lt_of_heap hA
      have Blt := lt_of_heap hB
      go_wp2_with fail
      refine (refFeed_any B k u _ hB4 (by omega)).mono ?_
      rintro e w5 ⟨a', c', k2, rfl, hk2, hheld2, hO2, hB5⟩
      obtain rfl : k1 = k2 := nb_inj (hk1.trans hk2.symm)
      have hA5 : DecAt w5 A 27 k1 := (hO2.block A (lt_of_heap hA4) (by simpa using hAB)).trans hA4
      have hb5 : Below w.heap.size w w5 := hb4.trans (hO2.below (by omega) (by simp; omega))
      have z5 := hb5.size
      have hheld1 := hheld.only hO2 (by rintro x e; have := (hheld.lt x e).1; simp; omega)
      have hk13 : k1.size ≤ 3 := by rw [← nb_length, hk1]; exact kept_le _
      have hlen : (decode (nb k ++ nb u)).1.length ≤ 11 := by
        have := decode_len (nb k ++ nb u).length (nb k ++ nb u) (Nat.le_refl _)
        simp only [List.length_append, nb_length] at this
        omega
      generalize (decode (nb k ++ nb u)).1 = D at hheld1 hheld2 hlen ⊢
      clear hheld hk1 hk2 hO hO2 hA4 hB4 hb4
      go_wp2_with fail
      refine (same_any _ _ D.length _ _ D _ (Reads.of hheld1) (Reads.of hheld2) (by omega)).mono ?_
      rintro e w6 ⟨rfl, q, rfl⟩
      have hA6 : DecAt (w5.drewN q) A 27 k1 := hA5
      have hB6 : DecAt (w5.drewN q) B 30 k1 := hB5
      have hb6 := below_drewN hb5 q
      have z6 : w.heap.size ≤ (w5.drewN q).heap.size := z5
      generalize w5.drewN q = w6 at hA6 hB6 hb6 z6 ⊢
      clear hA5 hB5 hb5 hheld1 hheld2 c0 hbl hA hB hb
      have pB := cell_of_heap hB6 0 _ rfl
      go_wp2_with fail
      go_quiet ((go_at_call 14; exact quiet_left (pending_any A k1 _ hA6)))
      have hA7 : DecAt (w6.drewN nq) A 27 k1 := hA6
      have hB7 : DecAt (w6.drewN nq) B 30 k1 := hB6
      have hb7 := below_drewN hb6 nq
      have z7 : w.heap.size ≤ (w6.drewN nq).heap.size := z6
      generalize w6.drewN nq = w7 at hA7 hB7 hb7 z7 ⊢
      clear hA6 hB6 hb6 z6 pB
      cases hf : (bits BinOp.and IntKind.u32 (fl / 2 ^ i) 1 == 1) with
      | false =>
        go_wp2_with fail
        go_roundw
        case rel => exact ⟨i + 1, k1, by go_num, by omega, hk13, hA7, hB7, hb7⟩
        case measure => simp [intOf]; omega
      | true =>
        go_wp2_with fail
        refine (flush_any A k1 _ hA7).mono ?_
        by_cases hk0 : k1.size = 0
        · obtain rfl := empty_of hk0
          simp only [hk0, if_true]
          rintro e w8 ⟨a8, c8, rfl, hheld8, hO8, hA8⟩
          have hB8 : DecAt w8 B 30 _ := (hO8.block B (lt_of_heap hB7) (by simpa using fun e => hAB e.symm)).trans hB7
          have hb8 : Below w.heap.size w w8 := hb7.trans (hO8.below z7 (by simp; omega))
          have pB := cell_of_heap hB8 0 _ rfl
          have fB := free_of_heap hB8 0
          clear hA7 hB7 hb7 hheld8
          go_wp2_with fail
          go_quiet ((go_at_call 14; exact quiet_left (pending_any A _ _ hA8)))
          go_wp2_with fail
          go_roundw
          case rel => exact ⟨i + 1, { data := #[] }, by go_num, by omega, by decide, hk_set (p := ⟨B, 0, none⟩) hAB (hk_drewN hA8), hk_self (hk_drewN hB8) 0 _, (below_drewN hb8 _).setCell (p := ⟨B, 0, none⟩) z2 _⟩
          case measure => simp [intOf]; omega
        · simp only [hk0, if_false]
          rintro e w8 ⟨a8, c8, rfl, hheld8, hO8, hA8⟩
          have hB8 : DecAt w8 B 30 _ := (hO8.block B (lt_of_heap hB7) (by simpa using fun e => hAB e.symm)).trans hB7
          have hb8 : Below w.heap.size w w8 := hb7.trans (hO8.below z7 (by simp; omega))
          have pB := cell_of_heap hB8 0 _ rfl
          have fB := free_of_heap hB8 0
          obtain ⟨g8, off8, cap8, hv8, -, -, -, -, hc8⟩ := hheld8.form (by omega)
          simp only [Value.slice.injEq] at hv8
          obtain ⟨rfl, -, rfl⟩ := hv8
          have p8 : w8.cell? ⟨g8, off8, none⟩ = some (.int .i32 65533) := hc8 0 _ rfl
          have hke := isEmpty_pos hk0
          have hke2 : (!k1.toList.isEmpty) = true := by simp [hke]
          clear hA7 hB7 hb7 hheld8 hc8
          go_wp2_with fail
          go_quiet ((go_at_call 14; exact quiet_left (pending_any A _ _ hA8)))
          go_wp2_with fail
          go_roundw
          case rel => exact ⟨i + 1, { data := #[] }, by go_num, by omega, by decide, hk_set (p := ⟨B, 0, none⟩) hAB (hk_drewN hA8), hk_self (hk_drewN hB8) 0 _, (below_drewN hb8 _).setCell (p := ⟨B, 0, none⟩) z2 _⟩
          case measure => simp [intOf]; omega
    · have i1 : ¬ ((i : Int) < (len0 : Int)) ∨ ¬ ((i : Int) < 20) := by omega
      by_cases i2 : (i : Int) < (len0 : Int)
      · have i3 : ¬ (i : Int) < 20 := by omega
        go_wp2_with fail
        go_returns
        exact ⟨rfl, hb⟩
      · go_wp2_with fail
        go_returns
        exact ⟨rfl, hb⟩
end FeedLaw
end Ru
end Go.Proofs.Ytaagljkpihecpaa
