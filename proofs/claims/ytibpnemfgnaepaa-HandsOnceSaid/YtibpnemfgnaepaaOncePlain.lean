/- HandsOnce, the plain part and what it holds in memory. No condition beyond each theorem's own premises. -/
import Derived.Test.YtibpnemfgnaepaaAwake
import Derived.Test.YtibpnemfgnaepaaMask
import Derived.Test.YtibpnemfgnaepaaSrc
namespace Go.Proofs.Ytibpnemfgnaepaa
open Go.RowKit
namespace Once

/-- Of what is there, or was dismissed, each was raised, and a viewer's numbers rise. -/
structure Good (l : List (Int × Int)) (rz : Nat → Bool) (tk : Nat → Int) : Prop where
  each : ∀ x ∈ l, ∃ V N : Nat, x = ((V : Int), (N : Int)) ∧ V < 4 ∧ 1 ≤ N ∧ N < 16 ∧ rz (V * 16 + N) = true ∧ (N : Int) ≤ tk V
  rise : l.Pairwise fun a b => a.1 = b.1 → a.2 < b.2

def mark (rz : Nat → Bool) (i : Nat) : Nat → Bool := fun j => if j = i then true else rz j

theorem Good.nil (rz : Nat → Bool) (tk : Nat → Int) : Good [] rz tk := ⟨by simp, by simp⟩
theorem Good.mark {l : List (Int × Int)} {rz : Nat → Bool} {tk : Nat → Int} (h : Good l rz tk) (i : Nat) : Good l (mark rz i) tk :=
  ⟨fun x hx => by
    obtain ⟨V, N, e, h1, h2, h3, h4, h5⟩ := h.each x hx
    exact ⟨V, N, e, h1, h2, h3, by simp [Once.mark, h4], h5⟩, h.rise⟩

theorem raise_good {s : TS} {gone : List (Int × Int)} {rz : Nat → Bool} (h : Good (gone ++ s.row) rz s.taken) (V N : Nat) (hV : V < 4) (hN : N < 16) (hr : s.row.length ≤ s.room) :
    Good (gone ++ (s.raise V N).2.row) (mark rz (V * 16 + N)) (s.raise V N).2.taken ∧ (s.raise V N).2.row.length ≤ s.room ∧ (s.raise V N).2.row.length ≤ s.row.length + 1 ∧ (s.raise V N).2.room = s.room := by
  unfold TS.raise
  by_cases c1 : (V : Int) < 0 ∨ 16 ≤ (V : Int) ∨ (N : Int) < 1 ∨ 1048576 < (N : Int)
  · rw [if_pos c1]; exact ⟨h.mark _, hr, by simp, rfl⟩
  · rw [if_neg c1, Int.toNat_natCast]
    by_cases c2 : (N : Int) ≤ s.taken V
    · rw [if_pos c2]; exact ⟨h.mark _, hr, by simp, rfl⟩
    · rw [if_neg c2]
      by_cases c3 : s.room ≤ s.row.length
      · rw [if_pos c3]; exact ⟨h.mark _, hr, by simp, rfl⟩
      · rw [if_neg c3]
        refine ⟨⟨?_, ?_⟩, by simp; omega, by simp, rfl⟩
        · intro x hx
          rw [← List.append_assoc] at hx
          rcases List.mem_append.1 hx with hx | hx
          · obtain ⟨V', N', e, h1, h2, h3, h4, h5⟩ := h.each x hx
            refine ⟨V', N', e, h1, h2, h3, by simp [Once.mark, h4], ?_⟩
            show (N' : Int) ≤ if V' = V then (N : Int) else s.taken V'
            by_cases hv : V' = V
            · subst hv; rw [if_pos rfl]; omega
            · rw [if_neg hv]; exact h5
          · simp at hx
            refine ⟨V, N, hx, hV, by omega, hN, by simp [Once.mark], ?_⟩
            simp
        · show (gone ++ (s.row ++ [((V : Int), (N : Int))])).Pairwise _
          rw [← List.append_assoc]
          refine List.pairwise_append.2 ⟨h.rise, by simp, ?_⟩
          intro a ha b hb
          simp at hb; subst hb
          obtain ⟨V', N', e, h1, h2, h3, h4, h5⟩ := h.each a ha
          subst e
          intro hv
          simp at hv
          obtain rfl : V' = V := by omega
          show (N' : Int) < N
          omega

theorem dismiss_good {s : TS} {gone : List (Int × Int)} {rz : Nat → Bool} (h : Good (gone ++ s.row) rz s.taken) (hr : s.row.length ≤ s.room) :
    (s.dismiss.2.1 = true → Good ((gone ++ [s.dismiss.1]) ++ s.dismiss.2.2.row) rz s.dismiss.2.2.taken ∧ s.dismiss.2.2.row.length + 1 = s.row.length) ∧
    (s.dismiss.2.1 = false → Good (gone ++ s.dismiss.2.2.row) rz s.dismiss.2.2.taken ∧ s.dismiss.2.2.row.length = s.row.length) ∧ s.dismiss.2.2.row.length ≤ s.room ∧ s.dismiss.2.2.room = s.room := by
  unfold TS.dismiss
  cases hrow : s.row with
  | nil =>
    refine ⟨by simp, fun _ => ?_, by simp [hrow], rfl⟩
    rw [hrow] at h
    refine ⟨?_, by simp [hrow]⟩
    simpa [hrow] using h
  | cons x r =>
    rw [hrow] at h hr
    refine ⟨fun _ => ⟨?_, by simp⟩, by simp, by simp at hr ⊢; omega, rfl⟩
    simpa using h

structure RaisedAt (w : World) (rb : Nat) (rz : Nat → Bool) : Prop where
  blk : ∃ cs, w.heap[rb]? = some (.cells cs 34 (0, 0)) ∧ cs.size = 64 ∧ ∀ i, i < 64 → cs[i]? = some (.bool (rz i))

structure OW (w : World) (B t rb : Nat) (s : TS) (gone : List (Int × Int)) (rz : Nat → Bool) (vt vg : Value) : Prop where
  tab : Tab w B t s vt
  gone : Held w B 27 2 vg gone.length (flat gone)
  raised : RaisedAt w rb rz
  lo : B ≤ rb
  d1 : rb ∉ fp t vt
  d2 : vg.ownBlock ≠ some rb
  d3 : ∀ k, k ∈ fp t vt → vg.ownBlock ≠ some k

theorem RaisedAt.keep {w w' : World} {rb : Nat} {rz : Nat → Bool} (h : RaisedAt w rb rz) (hk : w'.heap[rb]? = w.heap[rb]?) : RaisedAt w' rb rz := by
  obtain ⟨cs, h1, h2, h3⟩ := h.blk
  exact ⟨cs, by rw [hk]; exact h1, h2, h3⟩
theorem RaisedAt.lt {w : World} {rb : Nat} {rz : Nat → Bool} (h : RaisedAt w rb rz) : rb < w.heap.size := by
  obtain ⟨cs, h1, _, _⟩ := h.blk
  exact lt_of_heap h1
theorem RaisedAt.cell {w : World} {rb : Nat} {rz : Nat → Bool} (h : RaisedAt w rb rz) (i : Nat) (hi : i < 64) : w.cell? ⟨rb, i, none⟩ = some (.bool (rz i)) := by
  obtain ⟨cs, h1, _, h3⟩ := h.blk
  exact cell_of_heap h1 i _ (h3 i hi)
theorem RaisedAt.free {w : World} {rb : Nat} {rz : Nat → Bool} (h : RaisedAt w rb rz) (i : Nat) : w.frozen? ⟨rb, i, none⟩ = false := by
  obtain ⟨cs, h1, _, _⟩ := h.blk
  exact free_of_heap h1 i
theorem RaisedAt.set {w : World} {rb : Nat} {rz : Nat → Bool} (h : RaisedAt w rb rz) (i : Nat) : RaisedAt (w.setCell ⟨rb, i, none⟩ (.bool true)) rb (mark rz i) := by
  obtain ⟨cs, h1, h2, h3⟩ := h.blk
  refine ⟨_, hk_self h1 i _, by simp [h2], fun j hj => ?_⟩
  by_cases c : j = i
  · subst c
    rw [Array.getElem?_setIfInBounds_self_of_lt (by omega)]
    simp [mark]
  · rw [Array.getElem?_setIfInBounds_ne (by omega), h3 j hj]
    simp [mark, c]

variable {w w' : World} {B t rb : Nat} {s s' : TS} {gone gone' : List (Int × Int)} {rz : Nat → Bool} {vt vg : Value}

theorem OW.only (h : OW w B t rb s gone rz vt vg) (ho : Only [] w w') : OW w' B t rb s gone rz vt vg :=
  ⟨h.tab.only ho (by simp), h.gone.only ho (by simp), h.raised.keep (ho.block _ h.raised.lt (by simp)), h.lo, h.d1, h.d2, h.d3⟩

theorem OW.tabStep (h : OW w B t rb s gone rz vt vg) (hd : Did w B t vt s' w') : ∃ vt', OW w' B t rb s' gone rz vt' vg := by
  obtain ⟨v', h1, h2, h3⟩ := hd
  refine ⟨v', h1, h.gone.only h2 (fun k hk hm => h.d3 k hm hk), h.raised.keep (h2.block _ h.raised.lt h.d1), h.lo, ?_, h.d2, ?_⟩
  · intro hm
    rcases h3 rb hm with h3 | h3
    · exact h.d1 h3
    · have := h.raised.lt; omega
  · intro k hk hm
    rcases h3 k hk with h3 | h3
    · exact h.d3 k h3 hm
    · have := h.gone.lt k hm; omega

theorem OW.goneStep (h : OW w B t rb s gone rz vt vg) {g off n cap : Nat} (hw : Held w' B 27 2 (.slice (some ⟨g, off, none⟩) n cap) gone'.length (flat gone'))
    (hg : w.grownBy w' vg.ownBlock) (hat : vg.ownBlock = some g ∨ w.heap.size ≤ g) : OW w' B t rb s gone' rz vt (.slice (some ⟨g, off, none⟩) n cap) := by
  have ho : Only vg.ownBlock.toList w w' := (Only.refl _ w).grown hg (fun k hk => .inl (by simp [hk]))
  have hx : ∀ k, k ∈ vg.ownBlock.toList → vg.ownBlock = some k := by intro k hk; simpa using hk
  refine ⟨h.tab.only ho (fun k hk hm => h.d3 k hk (hx k hm)), hw, h.raised.keep (ho.block _ h.raised.lt (fun hm => h.d2 (hx _ hm))), h.lo, h.d1, ?_, ?_⟩
  · intro hm
    simp only [Value.ownBlock, Option.some.injEq] at hm
    subst hm
    rcases hat with h1 | h1
    · exact h.d2 h1
    · have := h.raised.lt; omega
  · intro k hk hm
    simp only [Value.ownBlock, Option.some.injEq] at hm
    subst hm
    rcases hat with h1 | h1
    · exact h.d3 _ hk h1
    · have := h.tab.lt _ hk; omega

theorem OW.raisedStep (h : OW w B t rb s gone rz vt vg) (i : Nat) : OW (w.setCell ⟨rb, i, none⟩ (.bool true)) B t rb s gone (mark rz i) vt vg := by
  have ho : Only [rb] w (w.setCell ⟨rb, i, none⟩ (.bool true)) := (Only.refl [rb] w).setCell (p := ⟨rb, i, none⟩) (.inl (by simp)) _
  exact ⟨h.tab.only ho (fun k hk hm => by simp at hm; subst hm; exact h.d1 hk), h.gone.only ho (fun k hk hm => by simp at hm; subst hm; exact h.d2 hk), h.raised.set i, h.lo, h.d1, h.d2, h.d3⟩

theorem Did.bel {base t : Nat} {v : Value} {s s0 : TS} {B : Nat} (h0 : Tab w base t s0 v) (h : Did w base t v s w') (hb : base ≤ w.heap.size) (hB : B ≤ base) : Below B w w' := by
  obtain ⟨_, _, ho, _⟩ := h
  exact ho.below (by omega) (fun k hk => by have := h0.lt k hk; omega)

theorem flat_append (a b : List (Int × Int)) : flat (a ++ b) = flat a ++ flat b := by simp [flat]
theorem flat_get (l : List (Int × Int)) (j : Nat) (h : j < l.length) : (flat l)[j * 2]? = some (.int .i64 (l.getD j (0, 0)).1) ∧ (flat l)[j * 2 + 1]? = some (.int .i64 (l.getD j (0, 0)).2) := by
  induction l generalizing j with
  | nil => simp at h
  | cons x l ih =>
    cases j with
    | zero => simp [flat_cons]
    | succ j =>
      have := ih j (by simpa using h)
      simp only [flat_cons, Nat.add_mul, Nat.one_mul]
      simpa using this

/-- What stands before place j: of the same viewer, with a smaller number. -/
def Before (w : World) (ga oa j : Nat) (V N : Int) : Prop :=
  ∀ i, i < j → ∃ a b : Int, w.cell? ⟨ga, oa + i * 2, none⟩ = some (.int .i64 a) ∧ w.cell? ⟨ga, oa + i * 2 + 1, none⟩ = some (.int .i64 b) ∧ (a = V → b < N)
theorem Before.of {w : World} {L : List (Int × Int)} {ga oa j : Nat} {V N : Int} (hc : ∀ j u, (flat L)[j]? = some u → w.cell? ⟨ga, oa + j, none⟩ = some u)
    (hr : L.Pairwise fun a b => a.1 = b.1 → a.2 < b.2) (hj : j < L.length) (hx : L.getD j (0, 0) = (V, N)) : Before w ga oa j V N := by
  intro i hi
  have hp := List.pairwise_iff_getElem.1 hr i j (by omega) hj hi
  have e1 : L.getD i (0, 0) = L[i]'(by omega) := by simp [List.getD, show i < L.length by omega]
  have e2 : L.getD j (0, 0) = L[j] := by simp [List.getD, hj]
  rw [← e1, ← e2, hx] at hp
  exact ⟨(L.getD i (0, 0)).1, (L.getD i (0, 0)).2, hc _ _ (flat_get L i (by omega)).1, hc _ _ (flat_get L i (by omega)).2, hp⟩
theorem Before.later {w : World} {ga oa j : Nat} {V N : Int} (h : Before w ga oa j V N) (hg : ga < w.heap.size) (o : Obj) (q : Nat) : Before ((w.alloc o).drewN q) ga oa j V N := by
  intro i hi
  obtain ⟨a, b, h1, h2, h3⟩ := h i hi
  exact ⟨a, b, (World.cell?_alloc_lt w o ⟨ga, oa + i * 2, none⟩ hg).trans h1, (World.cell?_alloc_lt w o ⟨ga, oa + i * 2 + 1, none⟩ hg).trans h2, h3⟩
end Once
end Go.Proofs.Ytibpnemfgnaepaa
