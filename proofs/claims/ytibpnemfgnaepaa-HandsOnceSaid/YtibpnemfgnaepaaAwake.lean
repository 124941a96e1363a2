/- 'awake' of lyceumlaw21 returns true, and leaves what was there as it was. No condition. -/
import Derived.Test.YtibpnemfgnaepaaMore
namespace Go.Proofs.Ytibpnemfgnaepaa
open Go.RowKit

/-- A block that is none of the table's. -/
theorem Did.other {w w' : World} {base t b : Nat} {v : Value} {s : TS} {o : Obj} (h : Did w base t v s w') (hb : w.heap[b]? = some o) (hn : b ∉ fp t v) : w'.heap[b]? = some o := by
  obtain ⟨v', _, ho, _⟩ := h
  rw [ho.block b (lt_of_heap hb) hn]; exact hb

theorem Tab.alloc {w : World} {base t : Nat} {s : TS} {v : Value} (h : Tab w base t s v) (o : Obj) : Tab (w.alloc o) base t s v :=
  h.only ((Only.refl [] w).alloc o) (by simp)
theorem Tab.drewN {w : World} {base t : Nat} {s : TS} {v : Value} (h : Tab w base t s v) (n : Nat) : Tab (w.drewN n) base t s v :=
  h.only ((Only.refl [] w).drewN n) (by simp)
theorem Tab.setCell {w : World} {base t : Nat} {s : TS} {v : Value} (h : Tab w base t s v) {p : Addr} (hp : p.block ∉ fp t v) (u : Value) : Tab (w.setCell p u) base t s v :=
  h.only ((Only.refl [p.block] w).setCell (.inl (by simp)) u) (by intro k hk hm; simp at hm; subst hm; exact hp hk)
theorem Tab.notin {w : World} {base t b : Nat} {s : TS} {v : Value} (h : Tab w base t s v) (hb : w.heap.size ≤ b) : b ∉ fp t v := fun hm => by
  have := h.lt b hm; omega
/-- A block that was none of the table's is none after a method either. -/
theorem notin_fp {w : World} {t b : Nat} {v v' : Value} (hf : ∀ k, k ∈ fp t v' → k ∈ fp t v ∨ w.heap.size ≤ k) (hb : b < w.heap.size) (hn : b ∉ fp t v) : b ∉ fp t v' := fun hm => by
  rcases hf b hm with h | h
  · exact hn h
  · omega

def aw0 : TS := ⟨clampR 5, fun _ => 0, []⟩
def aw1 : TS := (aw0.raise 3 1).2
def aw2 : TS := aw1.dismiss.2.2
theorem aw_a : (aw0.raise 3 1).1 = true := by decide
theorem aw_b : aw1.raise 3 1 = (true, aw1) := rfl
theorem aw_c : aw1.dismiss = ((3, 1), true, aw2) := rfl
theorem aw_d : aw2.raise 3 1 = (true, aw2) := rfl
theorem aw_e : aw2.row = [] := rfl
theorem aw_r0 : aw0.room = 5 := by decide
theorem aw_r1 : aw1.room = 5 := by decide
theorem aw_r2 : aw2.room = 5 := by decide

theorem awake_any (w : World) : Calls Try.prog 7 #[] w fun e w' => e = .returned (.bool true) ∧ Below w.heap.size w w' := by
  go_enter Try.func7, Try.ntmps7
  go_wp2_with fail
  refine (tab_new w.heap.size 5 w (Nat.le_refl _)).mono ?_
  rintro e w1 ⟨rfl, hb1, ht1⟩
  have z1 : w.heap.size < w1.heap.size := (ht1.lt w.heap.size (mem_fp.2 (.inl rfl))).2
  have ht1' : Tab w1 w.heap.size w.heap.size aw0 (.slice none 0 0) := ht1
  clear ht1
  go_wp2_with fail
  refine (tab_raise w.heap.size w.heap.size aw0 (.slice none 0 0) 3 1 _ (ht1'.alloc _) (by simp; omega) (by rw [aw_r0]; omega) (by rw [aw_r0]; omega)).mono ?_
  rintro e w2 ⟨he, v2, ht2, ho2, hf2⟩
  rw [aw_a] at he
  subst he
  have hn1 := ht1'.notin (Nat.le_refl _)
  have hn2 := notin_fp hf2 (b := w1.heap.size) (by simp) hn1
  have hh2 : w2.heap[w1.heap.size]? = some (.cells #[.int .i64 3, .int .i64 1] 27 (0, 0)) := by rw [ho2.block _ (by simp) hn1]; exact heap_alloc_new w1 _
  have z2 : w1.heap.size < w2.heap.size := lt_of_heap hh2
  have a2 := cell_of_heap hh2 0 _ rfl
  have b2 := cell_of_heap hh2 1 _ rfl
  go_wp2_with fail
  refine (tab_raise w.heap.size w.heap.size aw1 v2 3 1 _ ht2 (by omega) (by rw [aw_r1]; omega) (by rw [aw_r1]; omega)).mono ?_
  rw [aw_b]
  rintro e w3 ⟨rfl, v3, ht3, ho3, hf3⟩
  have hn3 := notin_fp hf3 z2 hn2
  have hh3 : w3.heap[w1.heap.size]? = some (.cells #[.int .i64 3, .int .i64 1] 27 (0, 0)) := by rw [ho3.block _ z2 hn2]; exact hh2
  have z3 : w1.heap.size < w3.heap.size := lt_of_heap hh3
  clear a2 b2
  go_wp2_with fail
  refine (tab_dismiss w.heap.size w.heap.size aw1 v3 _ ht3).mono ?_
  rw [aw_c]
  rintro e w4 ⟨rfl, v4, ht4, ho4, hf4⟩
  have hn4 := notin_fp hf4 z3 hn3
  have hh4 : w4.heap[w1.heap.size]? = some (.cells #[.int .i64 3, .int .i64 1] 27 (0, 0)) := by rw [ho4.block _ z3 hn3]; exact hh3
  have z4 : w1.heap.size < w4.heap.size := lt_of_heap hh4
  have a4 := cell_of_heap hh4 0 _ rfl
  have b4 := cell_of_heap hh4 1 _ rfl
  go_wp2_with fail
  refine (tab_raise w.heap.size w.heap.size aw2 v4 3 1 _ (ht4.alloc _) (by simp; omega) (by rw [aw_r2]; omega) (by rw [aw_r2]; omega)).mono ?_
  rw [aw_d]
  rintro e w5 ⟨rfl, v5, ht5, ho5, hf5⟩
  have hh5 : w5.heap[w1.heap.size]? = some (.cells #[.int .i64 3, .int .i64 1] 27 (0, 0)) := by rw [ho5.block _ (by simp; omega) hn4]; (repeat' (first | (with_reducible assumption) | (with_reducible exact rfl) | (with_reducible refine hk_drew ?_) | (with_reducible refine hk_drewN ?_) | (with_reducible refine hk_alloc ?_ ?_) | (with_reducible refine hk_self ?_ _ _) | (with_reducible refine hk_set ?_ ?_) | omega | (simp; omega)))
  have hx5 : w5.heap[w4.heap.size]? = some (.cells #[.int .i64 3, .int .i64 1] 27 (0, 0)) := by rw [ho5.block _ (by simp) (ht4.notin (Nat.le_refl _))]; exact heap_alloc_new w4 _
  have a5 := cell_of_heap hh5 0 _ rfl
  have b5 := cell_of_heap hh5 1 _ rfl
  have c5 := cell_of_heap hx5 0 _ rfl
  have d5 := cell_of_heap hx5 1 _ rfl
  go_wp2_with fail
  refine (tab_len w.heap.size w.heap.size aw2 v5 _ ht5).mono ?_
  rw [aw_e]
  rintro e w6 ⟨rfl, rfl⟩
  go_wp2
  go_returns
  refine ⟨rfl, ?_⟩
  have g1 := (hb1.alloc (by omega) (.cells #[.int .i64 3, .int .i64 1] 27)).trans (ho2.below (by simp; omega) (fun k hk => (ht1'.lt k hk).1))
  have g2 := (g1.trans (ho3.below (by omega) (fun k hk => (ht2.lt k hk).1))).trans (ho4.below (by omega) (fun k hk => (ht3.lt k hk).1))
  exact (g2.alloc (by omega) (.cells #[.int .i64 3, .int .i64 1] 27)).trans (ho5.below (by simp; omega) (fun k hk => (ht4.lt k hk).1))
end Go.Proofs.Ytibpnemfgnaepaa
