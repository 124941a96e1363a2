/- HandsReach: the three things that the law holds in memory, side by side. No condition beyond each theorem's own premises. -/
import Derived.Test.YtibpnemfgnaepaaReachPlain
namespace Go.Proofs.Ytibpnemfgnaepaa
open Go.RowKit
namespace Reach

structure RW (w : World) (B t r : Nat) (ts : TS) (ra : RA) (wl : List Int) (vt vr vw : Value) : Prop where
  tab : Tab w B t ts vt
  rai : Rai w B r ra vr
  want : Held w B 3 1 vw wl.length (ints wl)
  d1 : ∀ k, k ∈ fp t vt → k ∉ fp r vr
  d2 : ∀ k, k ∈ fp t vt → vw.ownBlock ≠ some k
  d3 : ∀ k, k ∈ fp r vr → vw.ownBlock ≠ some k

variable {w w' : World} {B t r : Nat} {ts ts' : TS} {ra ra' : RA} {wl : List Int} {vt vr vw : Value}

theorem RW.only (h : RW w B t r ts ra wl vt vr vw) (ho : Only [] w w') : RW w' B t r ts ra wl vt vr vw :=
  ⟨h.tab.only ho (by simp), h.rai.only ho (by simp), h.want.only ho (by simp), h.d1, h.d2, h.d3⟩

theorem RW.tabStep (h : RW w B t r ts ra wl vt vr vw) (hd : Did w B t vt ts' w') : ∃ vt', RW w' B t r ts' ra wl vt' vr vw := by
  obtain ⟨v', h1, h2, h3⟩ := hd
  refine ⟨v', h1, h.rai.only h2 (fun k hk hm => h.d1 k hm hk), h.want.only h2 (fun k hk hm => h.d2 k hm hk), ?_, ?_, h.d3⟩
  · intro k hk hm
    rcases h3 k hk with h3 | h3
    · exact h.d1 k h3 hm
    · have := h.rai.lt k hm; omega
  · intro k hk hm
    rcases h3 k hk with h3 | h3
    · exact h.d2 k h3 hm
    · have := h.want.lt k hm; omega

theorem RW.raiStep (h : RW w B t r ts ra wl vt vr vw) (hd : RDid w B r vr ra' w') : ∃ vr', RW w' B t r ts ra' wl vt vr' vw := by
  obtain ⟨v', h1, h2, h3⟩ := hd
  refine ⟨v', h.tab.only h2 (fun k hk hm => h.d1 k hk hm), h1, h.want.only h2 (fun k hk hm => h.d3 k hm hk), ?_, h.d2, ?_⟩
  · intro k hk hm
    rcases h3 k hm with h3 | h3
    · exact h.d1 k hk h3
    · have := h.tab.lt k hk; omega
  · intro k hk hm
    rcases h3 k hk with h3 | h3
    · exact h.d3 k h3 hm
    · have := h.want.lt k hm; omega

/-- One more is wanted. -/
theorem RW.wantStep (h : RW w B t r ts ra wl vt vr vw) {wl' : List Int} {g off n cap : Nat} (hw : Held w' B 3 1 (.slice (some ⟨g, off, none⟩) n cap) wl'.length (ints wl'))
    (hg : w.grownBy w' vw.ownBlock) (hat : vw.ownBlock = some g ∨ w.heap.size ≤ g) : RW w' B t r ts ra wl' vt vr (.slice (some ⟨g, off, none⟩) n cap) := by
  have ho : Only vw.ownBlock.toList w w' := (Only.refl _ w).grown hg (fun k hk => .inl (by simp [hk]))
  have hx : ∀ k, k ∈ vw.ownBlock.toList → vw.ownBlock = some k := by intro k hk; simpa using hk
  refine ⟨h.tab.only ho (fun k hk hm => h.d2 k hk (hx k hm)), h.rai.only ho (fun k hk hm => h.d3 k hk (hx k hm)), hw, h.d1, ?_, ?_⟩
  · intro k hk hm
    simp only [Value.ownBlock, Option.some.injEq] at hm
    subst hm
    rcases hat with h1 | h1
    · exact h.d2 _ hk h1
    · have := h.tab.lt _ hk; omega
  · intro k hk hm
    simp only [Value.ownBlock, Option.some.injEq] at hm
    subst hm
    rcases hat with h1 | h1
    · exact h.d3 _ hk h1
    · have := h.rai.lt _ hk; omega

theorem Did.bel {base t : Nat} {v : Value} {s s0 : TS} {B : Nat} (h0 : Tab w base t s0 v) (h : Did w base t v s w') (hb : base ≤ w.heap.size) (hB : B ≤ base) : Below B w w' := by
  obtain ⟨_, _, ho, _⟩ := h
  exact ho.below (by omega) (fun k hk => by have := h0.lt k hk; omega)
theorem RDid.bel {base t : Nat} {v : Value} {s s0 : RA} {B : Nat} (h0 : Rai w base t s0 v) (h : RDid w base t v s w') (hb : base ≤ w.heap.size) (hB : B ≤ base) : Below B w w' := by
  obtain ⟨_, _, ho, _⟩ := h
  exact ho.below (by omega) (fun k hk => by have := h0.lt k hk; omega)
end Reach
end Go.Proofs.Ytibpnemfgnaepaa
