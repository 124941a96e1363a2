/- Feed's closure 'tell': a key that is no text. No condition beyond each theorem's own premises. -/
import Derived.Test.YtfejfgajdjickaaDoorEnds
namespace Go.Proofs.YtfejfgajdjickaaDoor
open Go.RowKit
namespace Keys
def RAt (w : World) (p : Nat) (c q : Bool) : Prop := w.heap[p]? = some (.cells #[.bool c, .bool q] 30 (0, 0))
theorem RAt.lt {w : World} {p : Nat} {c q : Bool} (h : RAt w p c q) : p < w.heap.size := lt_of_heap h
/-- What the closure leaves. -/
def Told (p B T Q : Nat) (l : List K) (c q : Bool) (w : World) (e : Ending) (w' : World) : Prop := e = .returned (.tuple #[]) ∧ Inv w' B T Q [] l ∧ RAt w' p c q ∧ Turn p B T Q w w'
theorem endK_len (tx : List UInt8) (l : List K) : (endK tx l).length ≤ l.length + 1 := by unfold endK; split <;> simp
set_option maxHeartbeats 4000000 in
theorem tell_any (p B T Q E R : Nat) (kind n : Int) (tx : List UInt8) (l : List K) (c q : Bool) (w : World) (hT0 : B ≤ T) (hQ0 : B ≤ Q) (hTQ : T ≠ Q) (hpB : p < B) (hB : B ≤ w.heap.size) (hl : l.length ≤ 9000) (h : Inv w B T Q tx l)
    (hE : w.heap[E]? = some (.cells #[.func (.func 14) #[] #[.pointer (some ⟨T, 0, none⟩), .pointer (some ⟨Q, 0, none⟩)]] 1 (0, 0)))
    (hR : w.heap[R]? = some (.cells #[.pointer (some ⟨p, 0, none⟩)] 28 (0, 0))) (hp : RAt w p c q) :
    Calls Tryd.prog 15 #[.agg #[.int .i64 kind, .int .i64 n], .pointer (some ⟨E, 0, none⟩), .pointer (some ⟨Q, 0, none⟩), .pointer (some ⟨R, 0, none⟩)] w (Told p B T Q (endK tx l ++ [⟨kind, n, []⟩]) (after kind c) q w) := by
  have hEl := lt_of_heap hE
  have hRl := lt_of_heap hR
  have hpl := hp.lt
  have hTl : T < w.heap.size := by obtain ⟨_, _, _, _, h1, _⟩ := h; exact lt_of_heap h1
  have hQl : Q < w.heap.size := by obtain ⟨_, _, _, _, _, h1, _⟩ := h; exact lt_of_heap h1
  have nRT : R ≠ T := by obtain ⟨_, _, _, _, h1, _⟩ := h; exact ne_type hR h1 (by decide)
  have nRQ : R ≠ Q := by obtain ⟨_, _, _, _, _, h1, _⟩ := h; exact ne_type hR h1 (by decide)
  have hI : Inv (w.alloc (.cells #[.int .i64 kind, .int .i64 n] 35)) B T Q tx l := by
    obtain ⟨ta, tc, ka, kc, a, b, c, d⟩ := h
    exact ⟨ta, tc, ka, kc, hk_alloc hTl a, hk_alloc hQl b, c.alloc _, d.alloc _⟩
  have hend := ends_any T B T Q tx l (w.alloc (.cells #[.int .i64 kind, .int .i64 n] 35)) hT0 hQ0 hTQ (by simp; omega) (by omega) hI
  have c1 := cell_of_heap (hk_alloc (o := .cells #[.int .i64 kind, .int .i64 n] 35) hEl hE) 0 _ rfl
  have hbox : (w.alloc (.cells #[.int .i64 kind, .int .i64 n] 35)).heap[w.heap.size]? = some (.cells #[.int .i64 kind, .int .i64 n] 35 (0, 0)) := new_at rfl
  have HE := Lib.hid (hk_alloc (o := .cells #[.int .i64 kind, .int .i64 n] 35) hEl hE)
  have HR := Lib.hid (hk_alloc (o := .cells #[.int .i64 kind, .int .i64 n] 35) hRl hR)
  have HP := Lib.hid (show RAt _ p c q from hk_alloc (o := .cells #[.int .i64 kind, .int .i64 n] 35) hpl hp)
  have HBX := Lib.hid hbox
  have HEND := Lib.hid hend
  have HTQ := Lib.hid hTQ
  clear hE hR hp h hI hbox hend hTQ
  have hzl := endK_len tx l
  go_enter Tryd.func15, Tryd.ntmps15
  go_wp2_with fail
  refine HEND.out.mono ?_
  rintro e w1 ⟨rfl, hI1, hT1⟩
  have z1 := hT1.size
  simp at z1
  have k0 : w.heap.size < w1.heap.size := by omega
  have hbx1 := hT1.keep HBX.out ⟨by decide, by decide⟩ (by omega) (by omega) (by omega)
  have hp1 : RAt w1 p c q := hT1.keep HP.out ⟨by decide, by decide⟩ (by omega) (by omega) (by omega)
  have hR1 := hT1.keep HR.out ⟨by decide, by decide⟩ nRT nRT nRQ
  obtain ⟨ta, tc, ka, kc, hT, hQ, ht, hk⟩ := hI1
  obtain ⟨L, hL⟩ : ∃ L, L = endK tx l := ⟨_, rfl⟩
  rw [← hL] at hzl hQ hk ⊢
  have hTl1 := lt_of_heap hT
  have hQl1 := lt_of_heap hQ
  have hpl1 := hp1.lt
  have hRl1 := lt_of_heap hR1
  have a1 := cell_of_heap hQ 0 _ rfl
  have a2 := cell_of_heap hbx1 0 _ rfl
  have a3 := cell_of_heap hbx1 1 _ rfl
  have hH : (w1.alloc (.cells (K.cells ⟨kind, n, []⟩) 23)).heap[w1.heap.size]? = some (.cells (K.cells ⟨kind, n, []⟩) 23 (0, 0)) := new_at rfl
  obtain ⟨a', cap', w3, hr, hown, hgrow⟩ := append_one (hk.alloc (.cells (K.cells ⟨kind, n, []⟩) 23)) (by simp; omega) ⟨kind, n, []⟩ w1.heap.size 1 hH (by omega)
  have keep : ∀ (b t : Nat) (cs : Array Value), t ≠ 23 → w1.heap[b]? = some (.cells cs t (0, 0)) → w3.heap[b]? = some (.cells cs t (0, 0)) := fun b t cs ht hb =>
    hk_grown hgrow (by have := lt_of_heap hb; simp; omega) (Held_ne hk hb ht) (hk_alloc (lt_of_heap hb) hb)
  have hQ3 := keep _ _ _ (by decide) hQ
  have hT3 := keep _ _ _ (by decide) hT
  have hR3 := keep _ _ _ (by decide) hR1
  have hp3 := keep _ _ _ (by decide) hp1
  have hb3 := keep _ _ _ (by decide) hbx1
  have d1 := cell_of_heap hQ3 0 _ rfl
  have d2 := free_of_heap hQ3 0
  have nQb : w.heap.size ≠ Q := by omega
  have nQp : p ≠ Q := by omega
  have e1 := cell_of_heap (hk_set (u := .slice a' (L.length + 1) cap') (p := ⟨Q, 0, none⟩) nQb hb3) 0 _ rfl
  have e2 := cell_of_heap (hk_set (u := .slice a' (L.length + 1) cap') (p := ⟨Q, 0, none⟩) nRQ hR3) 0 _ rfl
  have e3 := cell_of_heap (hk_set (u := .slice a' (L.length + 1) cap') (p := ⟨Q, 0, none⟩) nQp hp3) 0 _ rfl
  have e4 := free_of_heap (hk_set (u := .slice a' (L.length + 1) cap') (p := ⟨Q, 0, none⟩) nQp hp3) 0
  have hIQ : Inv (w3.setCell ⟨Q, 0, none⟩ (.slice a' (L.length + 1) cap')) B T Q [] (L ++ [⟨kind, n, []⟩]) := by
    refine ⟨ta, tc, a', cap', hk_set HTQ.out hT3, ?_, ?_, ?_⟩
    · rw [List.length_append]; exact hk_self hQ3 0 _
    · have h5 : Held w3 B 5 1 (.slice ta ([] : List UInt8).length tc) ([] : List UInt8).length (bs []) := (ht.alloc _).keep (fun g hg => by
        rcases ht.2 with ⟨e, _⟩ | ⟨g', off, cap, cur, e, _, hg', _⟩
        · rw [e] at hg; simp [Value.ownBlock] at hg
        · rw [e] at hg; simp [Value.ownBlock] at hg; subst hg
          exact (keep _ _ _ (by decide) hg').trans (hk_alloc (o := .cells (K.cells ⟨kind, n, []⟩) 23) (lt_of_heap hg') hg').symm)
      exact h5.setCell (Held_ne h5 hQ3 (by decide)) _
    · rw [List.length_append]
      exact hown.setCell (Held_ne hown hQ3 (by decide)) _
  have hTQ3 : Turn p B T Q w (w3.setCell ⟨Q, 0, none⟩ (.slice a' (L.length + 1) cap')) := by
    obtain ⟨S, ho, hS⟩ := hT1
    refine ⟨S ++ Q :: (Value.slice ka L.length kc).ownBlock.toList, ?_, ?_⟩
    · refine Only.setCell (Only.grown (Only.alloc (Only.mono ((Only.alloc (Only.refl _ _) _).and ho (S := S) (fun i hi => .inl hi)) (fun i hi => .inl (List.mem_append_left _ hi))) _) hgrow ?_) (by simp) _
      intro k e; left; simp [e]
    · intro k hkm
      simp only [List.mem_append, List.mem_cons, Option.mem_toList] at hkm
      have inS : ∀ k, k ∈ S → k = p ∨ (B ≤ k ∧ (k = T ∨ k = Q ∨ w.heap.size ≤ k ∨ ∃ cs t fr, w.heap[k]? = some (.cells cs t fr) ∧ (t = 23 ∨ t = 5))) := by
        intro k hkS
        rcases hS k hkS with rfl | ⟨h1, rfl | rfl | h2 | ⟨cs, t, fr, h2, ht⟩⟩
        · exact .inr ⟨hT0, .inl rfl⟩
        · exact .inr ⟨h1, .inl rfl⟩
        · exact .inr ⟨h1, .inr (.inl rfl)⟩
        · simp at h2
          exact .inr ⟨h1, .inr (.inr (.inl (by omega)))⟩
        · by_cases hlt : k < w.heap.size
          · rw [Below.heap_alloc _ _ _ hlt] at h2
            exact .inr ⟨h1, .inr (.inr (.inr ⟨_, _, _, h2, ht⟩))⟩
          · exact .inr ⟨h1, .inr (.inr (.inl (by omega)))⟩
      rcases hkm with hkm | rfl | hkm
      · exact inS k hkm
      · exact .inr ⟨hQ0, .inr (.inl rfl)⟩
      · by_cases hkS : k ∈ S
        · exact inS k hkS
        · refine .inr ⟨(hk.lt k hkm).1, .inr (.inr ?_)⟩
          by_cases hlt : k < w.heap.size
          · right
            rcases hk.2 with ⟨e, _⟩ | ⟨g, off, cap, cur, e, _, hg, _⟩
            · rw [e] at hkm; simp [Value.ownBlock] at hkm
            · rw [e] at hkm; simp [Value.ownBlock] at hkm; subst hkm
              rw [ho.block g (by simp; omega) hkS, Below.heap_alloc _ _ _ hlt] at hg
              exact ⟨_, _, _, hg, .inl rfl⟩
          · left; omega
  have hRA : ∀ b : Bool, RAt ((w3.setCell ⟨Q, 0, none⟩ (.slice a' (L.length + 1) cap')).setCell ⟨p, 0, none⟩ (.bool b)) p b q := fun b => hk_self (hk_set nQp hp3) 0 (.bool b)
  have hIp : ∀ b : Bool, Inv ((w3.setCell ⟨Q, 0, none⟩ (.slice a' (L.length + 1) cap')).setCell ⟨p, 0, none⟩ (.bool b)) B T Q [] (L ++ [⟨kind, n, []⟩]) := by
    intro b
    obtain ⟨ta, tc, ka, kc, i1, i2, i3, i4⟩ := hIQ
    have i5 : (w3.setCell ⟨Q, 0, none⟩ (.slice a' (L.length + 1) cap')).heap[p]? = some (.cells #[.bool c, .bool q] 30 (0, 0)) := hk_set nQp hp3
    exact ⟨ta, tc, ka, kc, hk_set (by simp; omega) i1, hk_set (by simp; omega) i2, i3.setCell (p := ⟨p, 0, none⟩) (Held_ne i3 i5 (by decide)) _, i4.setCell (p := ⟨p, 0, none⟩) (Held_ne i4 i5 (by decide)) _⟩
  have hTp : ∀ b : Bool, Turn p B T Q w ((w3.setCell ⟨Q, 0, none⟩ (.slice a' (L.length + 1) cap')).setCell ⟨p, 0, none⟩ (.bool b)) := by
    intro b
    obtain ⟨S, ho, hS⟩ := hTQ3
    refine ⟨p :: S, (ho.mono (fun i hi => .inl (List.mem_cons_of_mem _ hi))).setCell (by simp) _, ?_⟩
    intro k hkm
    rcases List.mem_cons.1 hkm with rfl | hkm
    · exact .inl rfl
    · exact hS k hkm
  have hfin : ∀ b : Bool, b = after kind c → Told p B T Q (endK tx l ++ [⟨kind, n, []⟩]) (after kind c) q w (.returned (.tuple #[])) ((w3.setCell ⟨Q, 0, none⟩ (.slice a' (L.length + 1) cap')).setCell ⟨p, 0, none⟩ (.bool b)) := by
    intro b hb
    rw [← hL, ← hb]
    exact ⟨rfl, hIp b, hRA b, hTp b⟩
  have hfin0 : after kind c = c → Told p B T Q (endK tx l ++ [⟨kind, n, []⟩]) (after kind c) q w (.returned (.tuple #[])) (w3.setCell ⟨Q, 0, none⟩ (.slice a' (L.length + 1) cap')) := by
    intro hb
    rw [← hL, hb]
    exact ⟨rfl, hIQ, hk_set nQp hp3, hTQ3⟩
  have HF := Lib.hid hfin
  have HF0 := Lib.hid hfin0
  have HK := Lib.hid hr
  clear hfin hfin0 hRA hIp hTp hIQ hTQ3 hr hp3 hQ3 keep hb3 hR3 hT3 hown hgrow hH hT hQ ht hk hp1 hR1 hT1 hbx1 HEND hL HTQ HBX HR HE HP nRQ nRT nQb nQp
  by_cases h14 : kind = 14
  · subst h14
    go_wp2_with (at_builtin; refine wpList_append_eq rfl _ _ 31 rfl _ _ _ w3 rfl rfl HK.out ?_)
    go_returns
    exact HF.out true rfl
  · have t1 : ((kind : Int) == 14) = false := by simpa using h14
    by_cases h12 : kind = 12
    · subst h12
      clear h14
      go_wp2_with (at_builtin; refine wpList_append_eq rfl _ _ 31 rfl _ _ _ w3 rfl rfl HK.out ?_)
      go_returns
      exact HF.out false rfl
    · have t2 : ((kind : Int) == 12) = false := by simpa using h12
      have hz : after kind c = c := by simp [after, h14, h12]
      have HZ := Lib.hid hz
      clear h14 h12 hz
      go_wp2_with (at_builtin; refine wpList_append_eq rfl _ _ 31 rfl _ _ _ w3 rfl rfl HK.out ?_)
      go_returns
      exact HF0.out HZ.out
end Keys
end Go.Proofs.YtfejfgajdjickaaDoor
