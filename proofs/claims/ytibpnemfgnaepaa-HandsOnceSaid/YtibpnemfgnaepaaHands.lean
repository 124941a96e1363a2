/- The contracts of package hands: what each method of a table does. No condition beyond each theorem's own premises. -/
import Derived.Test.YtibpnemfgnaepaaRows
import Derived.Test.YtibpnemfgnaepaaOwn
import Derived.Deep.RegionHeld3
import Derived.BigQuiet
import Derived.Deep.QuietTactic
import Derived.WalkSpells
import Derived.Handy
import Derived.Deep.RegionLaw
namespace Go.Proofs.Ytibpnemfgnaepaa
open Go.RowKit

theorem Try.info27 : (Try.prog.info? 27).map (fun i => (i.zero, i.size, i.bytes)) = some (some (.agg #[.int .i64 0, .int .i64 0]), 2, 16) := by kernel_rfl
theorem Try.info3 : (Try.prog.info? 3).map (fun i => (i.zero, i.size, i.bytes)) = some (some (.int .i64 0), 1, 8) := by kernel_rfl

/-- The cells of a row of hands. -/
def flat (l : List (Int × Int)) : List Value := l.flatMap fun h => [.int .i64 h.1, .int .i64 h.2]
theorem flat_length (l : List (Int × Int)) : (flat l).length = l.length * 2 := by
  induction l with
  | nil => rfl
  | cons a r ih => simp [flat] at ih ⊢; omega

theorem head_empty (t o cap : Nat) (a : Option Addr) (w : World) (hc : w.cell? ⟨t, o, none⟩ = some (.slice a 0 cap)) :
    Calls Try.prog 24 #[.pointer (some ⟨t, o, none⟩)] w fun e w' => e = .returned (.tuple #[.agg #[.int .i64 0, .int .i64 0], .bool false]) ∧ Below w.heap.size w w' := by
  have hlt := World.block_lt_of_cell? w _ hc
  go_enter Try.func24, Try.ntmps24
  go_wp2
  go_returns
  exact ⟨rfl, by go_grown⟩

theorem head_some (t o g off n cap : Nat) (x y : Int) (w : World) (hc : w.cell? ⟨t, o, none⟩ = some (.slice (some ⟨g, off, none⟩) n cap)) (hn : 0 < n)
    (h0 : w.cell? ⟨g, off, none⟩ = some (.int .i64 x)) (h1 : w.cell? ⟨g, off + 1, none⟩ = some (.int .i64 y)) :
    Calls Try.prog 24 #[.pointer (some ⟨t, o, none⟩)] w fun e w' => e = .returned (.tuple #[.agg #[.int .i64 x, .int .i64 y], .bool true]) ∧ Below w.heap.size w w' := by
  have hlt := World.block_lt_of_cell? w _ hc
  have hlt0 := World.block_lt_of_cell? w _ h0
  have hn0 : ((n : Int) == 0) = false := by simp; omega
  go_enter Try.func24, Try.ntmps24
  go_wp2
  go_returns
  exact ⟨rfl, by go_grown⟩

theorem pop_some (t o g off n cap T : Nat) (cs : Array Value) (x y : Int) (w : World) (hb : w.heap[t]? = some (.cells cs T (0, 0))) (hv : cs[o]? = some (.slice (some ⟨g, off, none⟩) n cap))
    (hn : 0 < n) (hnc : n ≤ cap) (h0 : w.cell? ⟨g, off, none⟩ = some (.int .i64 x)) (h1 : w.cell? ⟨g, off + 1, none⟩ = some (.int .i64 y)) :
    Calls Try.prog 19 #[.pointer (some ⟨t, o, none⟩)] w fun e w' => e = .returned (.tuple #[.agg #[.int .i64 x, .int .i64 y], .bool true]) ∧
      w'.heap[t]? = some (.cells (cs.setIfInBounds o (.slice (if n = 1 then some ⟨g, off, none⟩ else some ⟨g, off + 2, none⟩) (n - 1) (n - 1))) T (0, 0)) ∧ Only [t] w w' := by
  have hc := cell_of_heap hb o _ hv
  have hf := free_of_heap hb o
  have hlt := World.block_lt_of_cell? w _ hc
  have hlt0 := World.block_lt_of_cell? w _ h0
  have hn1 : (1 : Int) ≤ (n : Int) := by omega
  have hn2 : (n : Int) ≤ (cap : Int) := by omega
  go_enter Try.func19, Try.ntmps19
  go_wp2_with fail
  go_call (head_some t o g off n cap x y) as e w1 ⟨rfl, hb1⟩
  go_wp2_with fail
  have hs1 : w.heap.size < w1.heap.size := by have := hb1.size; simp at this; omega
  have hlt1 : t < w1.heap.size := by omega
  have ho1 : Only [t] w w1 := ((Only.refl _ _).alloc _).and (Only.of_below hb1 []) (by simp)
  have hr1 : w1.heap[w.heap.size]? = some (.cells #[.int .i64 0, .int .i64 0] 27 (0, 0)) := by rw [hb1.block w.heap.size (by simp)]; exact heap_alloc_new w _
  have hr1a := cell_of_heap hr1 0 _ rfl
  have hr1b := cell_of_heap hr1 1 _ rfl
  have hr1c := free_of_heap hr1 0
  have hr1d := free_of_heap hr1 1
  have hh1 : w1.heap[t]? = some (.cells cs T (0, 0)) := by rw [hb1.block t (by simp; omega), Below.heap_alloc _ _ _ hlt]; exact hb
  have hc1 := cell_of_heap hh1 o _ hv
  have hf1 := free_of_heap hh1 o
  refine still_tail 18 (by kernel_rfl) (by kernel_rfl) ?_
  simp only [List.take_succ_cons, List.take_zero, List.drop_succ_cons, List.drop_zero]
  repeat still_step
  refine wpStill_nil ?_
  go_wp2
  all_goals
    refine bodyPost_ret (v := .tuple #[.agg #[.int .i64 x, .int .i64 y], .bool true]) (by simp [results, Try.results19, go_sem, hs1, hr1a, hr1b]) rfl ⟨rfl, ?_, ?_⟩
  all_goals first | ((repeat' (first | (with_reducible assumption) | (with_reducible exact rfl) | (with_reducible refine hk_drew ?_) | (with_reducible refine hk_drewN ?_) | (with_reducible refine hk_alloc ?_ ?_) | (with_reducible refine hk_self ?_ _ _) | (with_reducible refine hk_set ?_ ?_) | omega | (simp; omega))); done) | ((repeat' (first | (with_reducible exact Only.refl _ _) | (with_reducible assumption) | (with_reducible refine Only.drew ?_) | (with_reducible refine Only.drewN ?_ _) | (with_reducible refine Only.alloc ?_ _) | (with_reducible refine Only.setCell ?_ ?_ _) | (simp; done) | (simp; omega))); done)

theorem pop_empty (t o cap : Nat) (a : Option Addr) (w : World) (hc : w.cell? ⟨t, o, none⟩ = some (.slice a 0 cap)) :
    Calls Try.prog 19 #[.pointer (some ⟨t, o, none⟩)] w fun e w' => e = .returned (.tuple #[.agg #[.int .i64 0, .int .i64 0], .bool false]) ∧ Below w.heap.size w w' := by
  have hlt := World.block_lt_of_cell? w _ hc
  go_enter Try.func19, Try.ntmps19
  go_wp2_with fail
  go_call (head_empty t o cap a) as e w1 ⟨rfl, hb1⟩
  have hs1 : w.heap.size < w1.heap.size := by have := hb1.size; simp at this; omega
  have hr1 : w1.heap[w.heap.size]? = some (.cells #[.int .i64 0, .int .i64 0] 27 (0, 0)) := by rw [hb1.block w.heap.size (by simp)]; exact heap_alloc_new w _
  have hr1a := cell_of_heap hr1 0 _ rfl
  have hr1b := cell_of_heap hr1 1 _ rfl
  have hr1c := free_of_heap hr1 0
  have hr1d := free_of_heap hr1 1
  have hb2 : Below w.heap.size w w1 := ((Below.refl _ _).alloc (Nat.le_refl _) _).trans (hb1.mono (by simp))
  go_wp2
  refine bodyPost_ret (v := .tuple #[.agg #[.int .i64 0, .int .i64 0], .bool false]) (by simp [results, Try.results19, go_sem, hs1, hr1a, hr1b]) rfl ⟨rfl, ?_⟩
  go_grown

theorem push_any (t o n T base : Nat) (cs : Array Value) (v : Value) (xs : List Value) (x y : Int) (w : World) (hb : w.heap[t]? = some (.cells cs T (0, 0))) (hv : cs[o]? = some v)
    (hh : Held w base 27 2 v n xs) (hbase : base ≤ w.heap.size) (hn : n ≤ 1000000) (hne : v.ownBlock ≠ some t) :
    Calls Try.prog 18 #[.pointer (some ⟨t, o, none⟩), .agg #[.int .i64 x, .int .i64 y]] w fun e w' => e = .returned (.tuple #[]) ∧
      ∃ g off cap, w'.heap[t]? = some (.cells (cs.setIfInBounds o (.slice (some ⟨g, off, none⟩) (n + 1) cap)) T (0, 0)) ∧
        Held w' base 27 2 (.slice (some ⟨g, off, none⟩) (n + 1) cap) (n + 1) (xs ++ [.int .i64 x, .int .i64 y]) ∧ (v.ownBlock = some g ∨ w.heap.size ≤ g) ∧ g ≠ t ∧
        ∀ S, t ∈ S → (∀ k, v.ownBlock = some k → k ∈ S) → Only S w w' := by
  obtain ⟨i0, hi0, hz0, hz1, hz2⟩ := info_parts Try.info27
  have hc := cell_of_heap hb o _ hv
  have hf := free_of_heap hb o
  have hlt := World.block_lt_of_cell? w _ hc
  go_enter Try.func18, Try.ntmps18
  go_wp2_with fail
  go_region_law ((refine step_append_held _ (by rfl) _ _ _ (by rfl) base 27 i0 _ 2 16 Try.underlying35 hi0 hz0 hz1 hz2 rfl (by omega) v n xs (by rfl) (((hh.alloc _).alloc _).drew) ⟨w.heap.size + 1, 0, none⟩ 1 1 [.int .i64 x, .int .i64 y] (by rfl) (by rfl) (World.news_of_block (cs := #[.int .i64 x, .int .i64 y]) (t := 27) (fr := (0, 0)) (hk_drew (new_at (by simp)))) (by simp [Value.oneCell']) (by omega) (by unfold maxLen; omega) (by omega) (by simp; omega) ?_; intro g off cap w1 hown1 hgrow hat hlt1; have hh1 : w1.heap[t]? = some (.cells cs T (0, 0)) := hk_grown hgrow (by simp; omega) hne (by (repeat' (first | (with_reducible assumption) | (with_reducible exact rfl) | (with_reducible refine hk_drew ?_) | (with_reducible refine hk_drewN ?_) | (with_reducible refine hk_alloc ?_ ?_) | (with_reducible refine hk_self ?_ _ _) | (with_reducible refine hk_set ?_ ?_) | omega | (simp; omega)))); have hc1 := cell_of_heap hh1 o _ hv; have hf1 := free_of_heap hh1 o))
  all_goals
    go_wp2
    go_returns
    have hat' : v.ownBlock = some g ∨ w.heap.size ≤ g := by
      rcases hat with h | h
      · exact .inl h
      · exact .inr (by simp at h; omega)
    have hgt : g ≠ t := by
      rcases hat' with h | h
      · intro e; subst e; exact hne h
      · omega
    exact ⟨rfl, g, off, cap, hk_self hh1 _ _, hown1.setCell (by simpa [Value.ownBlock] using hgt) _, hat', hgt,
      fun S ht hS => ((((Only.refl S w).alloc _).alloc _).drew.grown hgrow (fun k hk => .inl (hS k hk))).setCell (.inl ht) _⟩
end Go.Proofs.Ytibpnemfgnaepaa
