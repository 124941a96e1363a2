/- Feed's closure 'end': what was read of a text becomes a key. No condition beyond each theorem's own premises. -/
import Derived.Test.YtfejfgajdjickaaDoorBase
namespace Go.Proofs.YtfejfgajdjickaaDoor
open Go.RowKit
namespace Keys
def endK (tx : List UInt8) (l : List K) : List K := if tx = [] then l else l ++ [⟨1, 0, tx⟩]
theorem one_at {w : World} {H : Nat} {cs : Array Value} {t : TypeId} {fr : Nat × Nat} (h : w.heap[H]? = some (.cells cs t fr)) : ∀ j u, cs.toList[j]? = some u → w.cell? ((⟨H, 0, none⟩ : Addr).add j) = some u := by
  intro j u hu
  rw [Addr.add_lit, Nat.zero_add]
  exact cell_of_heap h j u (by simpa using hu)
theorem append_one {w : World} {B : Nat} {ka : Option Addr} {kc : Nat} {l : List K} (hh : Held w B 23 3 (.slice ka l.length kc) l.length (kcs l)) (hB : B ≤ w.heap.size) (k : K) (H c : Nat) (hH : w.heap[H]? = some (.cells k.cells 23 (0, 0))) (hn : l.length ≤ 10000) :
    ∃ a' cap' w', (Builtin.append_ #[31, 31] 31 #[.slice ka l.length kc, .slice (some ⟨H, 0, none⟩) 1 c]).run Tryd.prog w = .ok (.slice a' (l.length + 1) cap') w' ∧
      Held w' B 23 3 (.slice a' (l.length + 1) cap') (l.length + 1) (kcs (l ++ [k])) ∧ w.grownBy w' (Value.slice ka l.length kc).ownBlock := by
  obtain ⟨i0, hi, hz0, hz1, hz2⟩ := info_parts info34
  obtain ⟨a', cap', w', h1, h2, h3, _⟩ := run_append_src (P := Tryd.prog) w 31 31 B 23 i0 _ 3 32 Tryd.underlying31 hi hz0 hz1 hz2 rfl (by decide) (.slice ka l.length kc) l.length (kcs l) hh (some ⟨H, 0, none⟩) 1 c k.list rfl (by simp)
    (by intro ad e; cases e; exact one_at hH) k.list_one (by unfold maxLen; omega) (by omega) hB
  rw [kcs_append, kcs_one]
  exact ⟨a', cap', w', h1, h2, h3⟩
/-- What the closure leaves. -/
def Ended (p B T Q : Nat) (l : List K) (w : World) (e : Ending) (w' : World) : Prop := e = .returned (.tuple #[]) ∧ Inv w' B T Q [] l ∧ Turn p B T Q w w'
theorem ends_nil (p B T Q : Nat) (l : List K) (w : World) (h : Inv w B T Q [] l) :
    Calls Tryd.prog 14 #[.pointer (some ⟨T, 0, none⟩), .pointer (some ⟨Q, 0, none⟩)] w (Ended p B T Q l w) := by
  obtain ⟨ta, tc, ka, kc, hT, hQ, ht, hk⟩ := h
  have hI : Inv w B T Q [] l := ⟨ta, tc, ka, kc, hT, hQ, ht, hk⟩
  have c1 := cell_of_heap hT 0 _ rfl
  have HI := Lib.hid hI
  simp only [List.length_nil] at c1
  clear hT hQ ht hk hI
  go_enter Tryd.func14, Tryd.ntmps14
  go_wp2_with fail
  go_returns
  exact ⟨rfl, HI.out, Turn.refl _ _ _ _ _⟩
set_option maxHeartbeats 2000000 in
theorem ends_cons (p B T Q : Nat) (tx : List UInt8) (l : List K) (w : World) (hne : tx ≠ []) (hT0 : B ≤ T) (hQ0 : B ≤ Q) (hTQ : T ≠ Q) (hB : B ≤ w.heap.size) (hl : l.length ≤ 10000) (h : Inv w B T Q tx l) :
    Calls Tryd.prog 14 #[.pointer (some ⟨T, 0, none⟩), .pointer (some ⟨Q, 0, none⟩)] w (Ended p B T Q (l ++ [⟨1, 0, tx⟩]) w) := by
  obtain ⟨ta, tc, ka, kc, hT, hQ, ht, hk⟩ := h
  have hTl := lt_of_heap hT
  have hQl := lt_of_heap hQ
  have c1 := cell_of_heap hT 0 _ rfl
  have c2 := cell_of_heap hQ 0 _ rfl
  have hpos : 0 < tx.length := List.length_pos_iff.2 hne
  have hcv := conv_held ht
  have hgt : decide ((0 : Int) < (tx.length : Int)) = true := by simp; omega
  have hH : (w.alloc (.cells (K.cells ⟨1, 0, tx⟩) 23)).heap[w.heap.size]? = some (.cells (K.cells ⟨1, 0, tx⟩) 23 (0, 0)) := new_at rfl
  obtain ⟨a', cap', w3, hr, hown, hgrow⟩ := append_one (hk.alloc (.cells (K.cells ⟨1, 0, tx⟩) 23)) (by simp; omega) ⟨1, 0, tx⟩ w.heap.size 1 hH hl
  have hnQ : (Value.slice ka l.length kc).ownBlock ≠ some Q := Held_ne hk hQ (by decide)
  have hnT : (Value.slice ka l.length kc).ownBlock ≠ some T := Held_ne hk hT (by decide)
  have hQ3 : w3.heap[Q]? = some (.cells #[.slice ka l.length kc] 31 (0, 0)) := hk_grown hgrow (by simp; omega) hnQ (hk_alloc hQl hQ)
  have hT3 : w3.heap[T]? = some (.cells #[.slice ta tx.length tc] 41 (0, 0)) := hk_grown hgrow (by simp; omega) hnT (hk_alloc hTl hT)
  have d1 := cell_of_heap hQ3 0 _ rfl
  have d2 := free_of_heap hQ3 0
  have f1 : (w3.setCell ⟨Q, 0, none⟩ (.slice a' (l.length + 1) cap')).cell? ⟨T, 0, none⟩ = some (.slice ta tx.length tc) := cell_of_heap (hk_set hTQ hT3) 0 _ rfl
  have f2 : (w3.setCell ⟨Q, 0, none⟩ (.slice a' (l.length + 1) cap')).frozen? ⟨T, 0, none⟩ = false := free_of_heap (hk_set hTQ hT3) 0
  have hfin : Ended p B T Q (l ++ [⟨1, 0, tx⟩]) w (.returned (.tuple #[])) ((w3.setCell ⟨Q, 0, none⟩ (.slice a' (l.length + 1) cap')).setCell ⟨T, 0, none⟩ (.slice none 0 0)) := by
    refine ⟨rfl, ⟨none, 0, a', cap', ?_, ?_, Held.nil _ _ _ _, ?_⟩, ?_⟩
    · exact hk_self (hk_set hTQ hT3) 0 _
    · have := hk_self hQ3 0 (.slice a' (l.length + 1) cap')
      rw [List.length_append]
      exact hk_set (Ne.symm hTQ) this
    · rw [List.length_append]
      refine (hown.setCell ?_ _).setCell ?_ _
      · exact Held_ne hown hQ3 (by decide)
      · exact Held_ne hown hT3 (by decide)
    · refine ⟨T :: Q :: (Value.slice ka l.length kc).ownBlock.toList, ?_, ?_⟩
      · refine Only.setCell (Only.setCell (Only.grown ((Only.refl _ _).alloc _) hgrow ?_) (by simp) _) (by simp) _
        intro k e; left; simp [e]
      · intro k hkm
        simp only [List.mem_cons, Option.mem_toList] at hkm
        rcases hkm with rfl | rfl | hkm
        · exact .inr ⟨hT0, .inl rfl⟩
        · exact .inr ⟨hQ0, .inr (.inl rfl)⟩
        · refine .inr ⟨(hk.lt k hkm).1, .inr (.inr (.inr ?_))⟩
          rcases hk.2 with ⟨e, _⟩ | ⟨g, off, cap, cur, e, _, hg, _⟩
          · rw [e] at hkm; simp [Value.ownBlock] at hkm
          · rw [e] at hkm; simp [Value.ownBlock] at hkm; subst hkm; exact ⟨_, _, _, hg, .inl rfl⟩
  have HF := Lib.hid hfin
  have HR := Lib.hid hr
  clear hfin hr hown hgrow hQ3 hT3 hk ht hT hQ hne hTQ hnQ hnT
  go_enter Tryd.func14, Tryd.ntmps14
  go_wp2_with (at_builtin; refine wpList_append_eq rfl _ _ 31 rfl _ _ _ w3 rfl rfl HR.out ?_)
  go_returns
  exact HF.out
theorem ends_any (p B T Q : Nat) (tx : List UInt8) (l : List K) (w : World) (hT0 : B ≤ T) (hQ0 : B ≤ Q) (hTQ : T ≠ Q) (hB : B ≤ w.heap.size) (hl : l.length ≤ 10000) (h : Inv w B T Q tx l) :
    Calls Tryd.prog 14 #[.pointer (some ⟨T, 0, none⟩), .pointer (some ⟨Q, 0, none⟩)] w (Ended p B T Q (endK tx l) w) := by
  unfold endK
  split
  · next e => subst e; exact ends_nil p B T Q l w h
  · next e => exact ends_cons p B T Q tx l w e hT0 hQ0 hTQ hB hl h
end Keys
end Go.Proofs.YtfejfgajdjickaaDoor
