/- A table of hands: what its methods do, said of a plain model. No condition beyond each theorem's own premises. -/
import Derived.Test.YtibpnemfgnaepaaHands
namespace Go.Proofs.Ytibpnemfgnaepaa
open Go.RowKit

/-- A table, plainly. -/
structure TS where
  room : Nat
  taken : Nat → Int
  row : List (Int × Int)

def TS.raise (s : TS) (x y : Int) : Bool × TS :=
  if x < 0 ∨ 16 ≤ x ∨ y < 1 ∨ 1048576 < y then (false, s)
  else if y ≤ s.taken x.toNat then (true, s)
  else if s.room ≤ s.row.length then (false, s)
  else (true, { s with taken := fun i => if i = x.toNat then y else s.taken i, row := s.row ++ [(x, y)] })

def fp (t : Nat) (v : Value) : List Nat := t :: v.ownBlock.toList

/-- The table's block. -/
structure TabCells (cs : Array Value) (room : Nat) (taken : Nat → Int) (v : Value) : Prop where
  size : cs.size = 18
  room : cs[0]? = some (.int .i64 (room : Int))
  taken : ∀ i, i < 16 → cs[1 + i]? = some (.int .i64 (taken i))
  row : cs[17]? = some v

structure Tab (w : World) (base t : Nat) (s : TS) (v : Value) : Prop where
  lo : base ≤ t
  apart : v.ownBlock ≠ some t
  held : Held w base 27 2 v s.row.length (flat s.row)
  blk : ∃ cs, w.heap[t]? = some (.cells cs 57 (0, 0)) ∧ TabCells cs s.room s.taken v

theorem mem_fp {k t : Nat} {v : Value} : k ∈ fp t v ↔ k = t ∨ v.ownBlock = some k := by
  simp [fp, eq_comm]

theorem Tab.lt {w : World} {base t : Nat} {s : TS} {v : Value} (h : Tab w base t s v) : ∀ k, k ∈ fp t v → base ≤ k ∧ k < w.heap.size := by
  intro k hk
  rcases mem_fp.1 hk with rfl | hk
  · obtain ⟨cs, hb, _⟩ := h.blk
    exact ⟨h.lo, lt_of_heap hb⟩
  · exact h.held.lt k hk

theorem Tab.only {w w' : World} {base t : Nat} {s : TS} {v : Value} {S : List Nat} (h : Tab w base t s v) (ho : Only S w w') (hd : ∀ k, k ∈ fp t v → k ∉ S) : Tab w' base t s v := by
  obtain ⟨cs, hb, hc⟩ := h.blk
  refine ⟨h.lo, h.apart, h.held.only ho (fun k hk => hd k (mem_fp.2 (.inr hk))), cs, ?_, hc⟩
  rw [ho.block t (lt_of_heap hb) (hd t (mem_fp.2 (.inl rfl)))]
  exact hb

theorem raise_bad (t : Nat) (x y : Int) (room : Int) (w : World) (hlt : t < w.heap.size) (h0 : w.cell? ⟨t, 0, none⟩ = some (.int .i64 room)) (hr : 1 ≤ room) (hbad : x < 0 ∨ 16 ≤ x ∨ y < 1 ∨ 1048576 < y) :
    Calls Try.prog 9 #[.pointer (some ⟨t, 0, none⟩), .agg #[.int .i64 x, .int .i64 y]] w fun e w' => e = .returned (.bool false) ∧ Below w.heap.size w w' := by
  have hr0 : (room == 0) = false := by simp; omega
  by_cases c1 : x < 0
  · go_enter Try.func9, Try.ntmps9
    go_wp2
    go_returns
    exact ⟨rfl, by go_grown⟩
  · by_cases c2 : 16 ≤ x
    · go_enter Try.func9, Try.ntmps9
      go_wp2
      go_returns
      exact ⟨rfl, by go_grown⟩
    · by_cases c3 : y < 1
      · go_enter Try.func9, Try.ntmps9
        go_wp2
        go_returns
        exact ⟨rfl, by go_grown⟩
      · have c4 : 1048576 < y := by omega
        go_enter Try.func9, Try.ntmps9
        go_wp2
        go_returns
        exact ⟨rfl, by go_grown⟩

theorem raise_old (t i : Nat) (y : Int) (room z : Int) (w : World) (hlt : t < w.heap.size) (h0 : w.cell? ⟨t, 0, none⟩ = some (.int .i64 room)) (hr : 1 ≤ room) (hi : i < 16) (hy1 : 1 ≤ y) (hy2 : y ≤ 1048576)
    (hz : w.cell? ⟨t, 1 + i, none⟩ = some (.int .i64 z)) (hyz : y ≤ z) :
    Calls Try.prog 9 #[.pointer (some ⟨t, 0, none⟩), .agg #[.int .i64 (i : Int), .int .i64 y]] w fun e w' => e = .returned (.bool true) ∧ Below w.heap.size w w' := by
  have hr0 : (room == 0) = false := by simp; omega
  have hi0 : (0 : Int) ≤ (i : Int) := by omega
  have hi1 : (i : Int) < 16 := by omega
  go_enter Try.func9, Try.ntmps9
  go_wp2
  go_quiet (fail)
  go_wp2
  go_returns
  exact ⟨rfl, (below_drewN ((Below.refl _ _).alloc (Nat.le_refl _) _) _)⟩

theorem raise_full (t i n cap : Nat) (a : Option Addr) (y : Int) (room : Nat) (z : Int) (w : World) (hlt : t < w.heap.size) (h0 : w.cell? ⟨t, 0, none⟩ = some (.int .i64 (room : Int))) (hr : 1 ≤ room) (hi : i < 16)
    (hy1 : 1 ≤ y) (hy2 : y ≤ 1048576) (hz : w.cell? ⟨t, 1 + i, none⟩ = some (.int .i64 z)) (hyz : z < y) (hl : w.cell? ⟨t, 17, none⟩ = some (.slice a n cap)) (hf : room ≤ n) :
    Calls Try.prog 9 #[.pointer (some ⟨t, 0, none⟩), .agg #[.int .i64 (i : Int), .int .i64 y]] w fun e w' => e = .returned (.bool false) ∧ Below w.heap.size w w' := by
  have hr0 : ((room : Int) == 0) = false := by simp; omega
  have hi0 : (0 : Int) ≤ (i : Int) := by omega
  have hi1 : (i : Int) < 16 := by omega
  have hf1 : (room : Int) ≤ (n : Int) := by omega
  go_enter Try.func9, Try.ntmps9
  go_wp2
  go_quiet (fail)
  go_wp2
  go_quiet (fail)
  go_wp2
  go_returns
  exact ⟨rfl, below_drewN (below_drewN ((Below.refl _ _).alloc (Nat.le_refl _) _) _) _⟩

theorem raise_new (t i n base : Nat) (v : Value) (y : Int) (room : Nat) (z : Int) (cs : Array Value) (xs : List Value) (w : World) (hb : w.heap[t]? = some (.cells cs 57 (0, 0))) (h0 : cs[0]? = some (.int .i64 (room : Int)))
    (hr : 1 ≤ room) (hi : i < 16) (hy1 : 1 ≤ y) (hy2 : y ≤ 1048576) (hz : cs[1 + i]? = some (.int .i64 z)) (hyz : z < y) (hl : cs[17]? = some v) (hf : n < room) (hroom : room ≤ 12)
    (hh : Held w base 27 2 v n xs) (hbase : base ≤ w.heap.size) (hne : v.ownBlock ≠ some t) :
    Calls Try.prog 9 #[.pointer (some ⟨t, 0, none⟩), .agg #[.int .i64 (i : Int), .int .i64 y]] w fun e w' => e = .returned (.bool true) ∧
      ∃ g off cap, w'.heap[t]? = some (.cells ((cs.setIfInBounds (1 + i) (.int .i64 y)).setIfInBounds 17 (.slice (some ⟨g, off, none⟩) (n + 1) cap)) 57 (0, 0)) ∧
        Held w' base 27 2 (.slice (some ⟨g, off, none⟩) (n + 1) cap) (n + 1) (xs ++ [.int .i64 (i : Int), .int .i64 y]) ∧ (v.ownBlock = some g ∨ w.heap.size ≤ g) ∧ g ≠ t ∧
        Only (fp t v) w w' := by
  obtain ⟨a, cap0, rfl, hs1, hs2, hs3, hs4, hs5⟩ := hh.shape
  have hlt := lt_of_heap hb
  have k0 := cell_of_heap hb 0 _ h0
  have kz := cell_of_heap hb (1 + i) _ hz
  have kl := cell_of_heap hb 17 _ hl
  have fz := free_of_heap hb (1 + i)
  have hr0 : ((room : Int) == 0) = false := by simp; omega
  have hi0 : (0 : Int) ≤ (i : Int) := by omega
  have hi1 : (i : Int) < 16 := by omega
  have hf1 : (n : Int) < (room : Int) := by omega
  have HS := Lib.hid hs5
  have HS1 := Lib.hid hs1
  have HS4 := Lib.hid hs4
  clear hs1 hs4 hs5
  go_enter Try.func9, Try.ntmps9
  go_wp2
  go_quiet (fail)
  go_wp2
  go_quiet (fail)
  go_wp2
  refine still_tail 8 (by kernel_rfl) (by kernel_rfl) ?_
  simp only [List.take_succ_cons, List.take_zero, List.drop_succ_cons, List.drop_zero]
  repeat still_step
  refine wpStill_nil ?_
  go_wp2_with fail
  refine still_tail 4 (by kernel_rfl) (by kernel_rfl) ?_
  simp only [List.take_succ_cons, List.take_zero, List.drop_succ_cons, List.drop_zero]
  repeat still_step
  refine wpStill_nil ?_
  go_wp2_with fail
  refine (push_any t 17 n 57 base (cs.setIfInBounds (1 + i) (.int .i64 y)) (.slice a n cap0) xs i y _ ?_ ?_ ?_ ?_ ?_ hne).mono ?_
  · (repeat' (first | (with_reducible assumption) | (with_reducible exact rfl) | (with_reducible refine hk_drew ?_) | (with_reducible refine hk_drewN ?_) | (with_reducible refine hk_alloc ?_ ?_) | (with_reducible refine hk_self ?_ _ _) | (with_reducible refine hk_set ?_ ?_) | omega | (simp; omega)))
  · rw [Array.getElem?_setIfInBounds_ne (by omega)]; exact hl
  · exact (((hh.alloc _).drewN _).setCell hne _).drewN _
  · simp; omega
  · omega
  rintro e w1 ⟨rfl, g, off, cap, h1, h2, h3, h4, h5⟩
  go_wp2
  go_returns
  refine ⟨rfl, g, off, cap, h1, h2, ?_, h4, ?_⟩
  · rcases h3 with h | h
    · exact .inl h
    · exact .inr (by simp at h; omega)
  · refine Only.trans ?_ (h5 (fp t (.slice a n cap0)) (mem_fp.2 (.inl rfl)) (fun k hk => mem_fp.2 (.inr hk)))
    have hm : t ∈ fp t (.slice a n cap0) := mem_fp.2 (.inl rfl)
    exact (((((Only.refl _ _).alloc _).drewN _).setCell (.inl hm) _).drewN _)

/-- What a method has left: a table that reads s, by blocks of its own. -/
def Did (w : World) (base t : Nat) (v : Value) (s : TS) (w' : World) : Prop :=
  ∃ v', Tab w' base t s v' ∧ Only (fp t v) w w' ∧ ∀ k, k ∈ fp t v' → k ∈ fp t v ∨ w.heap.size ≤ k

theorem Did.same {w w' : World} {base t : Nat} {v : Value} {s : TS} (h : Tab w base t s v) (hb : Below w.heap.size w w') : Did w base t v s w' :=
  ⟨v, h.only (Only.of_below hb []) (by simp), Only.of_below hb _, fun _ hk => .inl hk⟩

theorem flat_snoc (l : List (Int × Int)) (x y : Int) : flat (l ++ [(x, y)]) = flat l ++ [.int .i64 x, .int .i64 y] := by simp [flat]

theorem tab_raise (t base : Nat) (s : TS) (v : Value) (x y : Int) (w : World) (h : Tab w base t s v) (hb : base ≤ w.heap.size) (hr : 1 ≤ s.room) (hr2 : s.room ≤ 12) :
    Calls Try.prog 9 #[.pointer (some ⟨t, 0, none⟩), .agg #[.int .i64 x, .int .i64 y]] w fun e w' => e = .returned (.bool (s.raise x y).1) ∧ Did w base t v (s.raise x y).2 w' := by
  obtain ⟨cs, hcs, hc⟩ := h.blk
  have hlt := lt_of_heap hcs
  have k0 := cell_of_heap hcs 0 _ hc.room
  unfold TS.raise
  by_cases c1 : x < 0 ∨ 16 ≤ x ∨ y < 1 ∨ 1048576 < y
  · rw [if_pos c1]
    exact (raise_bad t x y _ w hlt k0 (by omega) c1).mono fun e w' ⟨he, hbel⟩ => ⟨he, Did.same h hbel⟩
  · rw [if_neg c1]
    obtain ⟨i, rfl⟩ : ∃ i : Nat, x = i := ⟨x.toNat, by omega⟩
    rw [Int.toNat_natCast]
    have hi : i < 16 := by omega
    have kz := cell_of_heap hcs (1 + i) _ (hc.taken i hi)
    by_cases c2 : y ≤ s.taken i
    · rw [if_pos c2]
      exact (raise_old t i y _ _ w hlt k0 (by omega) hi (by omega) (by omega) kz c2).mono fun e w' ⟨he, hbel⟩ => ⟨he, Did.same h hbel⟩
    · rw [if_neg c2]
      by_cases c3 : s.room ≤ s.row.length
      · rw [if_pos c3]
        obtain ⟨a, cap, hv, _⟩ := h.held.shape
        have kl := cell_of_heap hcs 17 _ hc.row
        rw [hv] at kl
        exact (raise_full t i _ cap a y s.room _ w hlt k0 hr hi (by omega) (by omega) kz (by omega) kl c3).mono fun e w' ⟨he, hbel⟩ => ⟨he, Did.same h hbel⟩
      · rw [if_neg c3]
        refine (raise_new t i s.row.length base v y s.room _ cs _ w hcs hc.room hr hi (by omega) (by omega) (hc.taken i hi) (by omega) hc.row (by omega) hr2 h.held hb h.apart).mono ?_
        rintro e w' ⟨rfl, g, off, cap, h1, h2, h3, h4, h5⟩
        refine ⟨rfl, .slice (some ⟨g, off, none⟩) (s.row.length + 1) cap, ⟨h.lo, by simpa [Value.ownBlock] using h4, by simpa [flat_snoc] using h2, _, h1, ?_⟩, h5, ?_⟩
        · refine ⟨by simp [hc.size], ?_, fun j hj => ?_, ?_⟩
          · rw [Array.getElem?_setIfInBounds_ne (by omega), Array.getElem?_setIfInBounds_ne (by omega)]; exact hc.room
          · rw [Array.getElem?_setIfInBounds_ne (by omega)]
            by_cases hji : j = i
            · subst hji
              rw [Array.getElem?_setIfInBounds_self_of_lt (by rw [hc.size]; omega)]
              simp
            · rw [Array.getElem?_setIfInBounds_ne (by omega), hc.taken j hj]
              simp [hji]
          · rw [Array.getElem?_setIfInBounds_self_of_lt (by simp [hc.size])]
        · intro k hk
          rcases mem_fp.1 hk with rfl | hk
          · exact .inl (mem_fp.2 (.inl rfl))
          · simp only [Value.ownBlock, Option.some.injEq] at hk
            subst hk
            rcases h3 with h3 | h3
            · exact .inl (mem_fp.2 (.inr h3))
            · exact .inr h3

def TS.dismiss (s : TS) : (Int × Int) × Bool × TS :=
  match s.row with
  | [] => ((0, 0), false, s)
  | h :: r => (h, true, { s with row := r })

theorem flat_cons (h : Int × Int) (l : List (Int × Int)) : flat (h :: l) = .int .i64 h.1 :: .int .i64 h.2 :: flat l := rfl

/-- The tail of a slice of hands. -/
def tailV (g off n : Nat) : Value := .slice (if n = 1 then some ⟨g, off, none⟩ else some ⟨g, off + 2, none⟩) (n - 1) (n - 1)
theorem pop_tail (t o g off n cap T : Nat) (cs : Array Value) (x y : Int) (w : World) (hb : w.heap[t]? = some (.cells cs T (0, 0))) (hv : cs[o]? = some (.slice (some ⟨g, off, none⟩) n cap))
    (hn : 0 < n) (hnc : n ≤ cap) (h0 : w.cell? ⟨g, off, none⟩ = some (.int .i64 x)) (h1 : w.cell? ⟨g, off + 1, none⟩ = some (.int .i64 y)) :
    Calls Try.prog 19 #[.pointer (some ⟨t, o, none⟩)] w fun e w' => e = .returned (.tuple #[.agg #[.int .i64 x, .int .i64 y], .bool true]) ∧
      w'.heap[t]? = some (.cells (cs.setIfInBounds o (tailV g off n)) T (0, 0)) ∧ Only [t] w w' :=
  pop_some t o g off n cap T cs x y w hb hv hn hnc h0 h1

theorem dismiss_some (t g off n cap T : Nat) (cs : Array Value) (x y : Int) (w : World) (hb : w.heap[t]? = some (.cells cs T (0, 0))) (hv : cs[17]? = some (.slice (some ⟨g, off, none⟩) n cap))
    (hn : 0 < n) (hnc : n ≤ cap) (h0 : w.cell? ⟨g, off, none⟩ = some (.int .i64 x)) (h1 : w.cell? ⟨g, off + 1, none⟩ = some (.int .i64 y)) :
    Calls Try.prog 10 #[.pointer (some ⟨t, 0, none⟩)] w fun e w' => e = .returned (.tuple #[.agg #[.int .i64 x, .int .i64 y], .bool true]) ∧
      w'.heap[t]? = some (.cells (cs.setIfInBounds 17 (tailV g off n)) T (0, 0)) ∧ Only [t] w w' := by
  have hlt := lt_of_heap hb
  have hlt0 := World.block_lt_of_cell? w _ h0
  go_enter Try.func10, Try.ntmps10
  go_wp2_with fail
  refine (pop_tail t 17 g off n cap T cs x y _ ?_ hv hn hnc ?_ ?_).mono ?_
  · (repeat' (first | (with_reducible assumption) | (with_reducible exact rfl) | (with_reducible refine hk_drew ?_) | (with_reducible refine hk_drewN ?_) | (with_reducible refine hk_alloc ?_ ?_) | (with_reducible refine hk_self ?_ _ _) | (with_reducible refine hk_set ?_ ?_) | omega | (simp; omega)))
  · go_simp
  · go_simp
  rintro e w1 ⟨rfl, hh1, ho1⟩
  have hs1 : w.heap.size < w1.heap.size := by have := ho1.size; simp at this; omega
  have hr1 : w1.heap[w.heap.size]? = some (.cells #[.int .i64 0, .int .i64 0] 27 (0, 0)) := by rw [ho1.block w.heap.size (by simp) (by simp; omega)]; exact heap_alloc_new w _
  have hr1a := cell_of_heap hr1 0 _ rfl
  have hr1b := cell_of_heap hr1 1 _ rfl
  have hr1c := free_of_heap hr1 0
  have hr1d := free_of_heap hr1 1
  go_wp2
  refine bodyPost_ret (v := .tuple #[.agg #[.int .i64 x, .int .i64 y], .bool true]) (by simp [results, Try.results10, go_sem, hr1a, hr1b]) rfl ⟨rfl, ?_, ?_⟩
  · (repeat' (first | (with_reducible assumption) | (with_reducible exact rfl) | (with_reducible refine hk_drew ?_) | (with_reducible refine hk_drewN ?_) | (with_reducible refine hk_alloc ?_ ?_) | (with_reducible refine hk_self ?_ _ _) | (with_reducible refine hk_set ?_ ?_) | omega | (simp; omega)))
  · refine Only.setCell (Only.setCell (Only.trans ((Only.refl _ _).alloc _) ho1) ?_ _) ?_ _
    · simp
    · simp

theorem dismiss_empty (t cap : Nat) (a : Option Addr) (w : World) (hc : w.cell? ⟨t, 17, none⟩ = some (.slice a 0 cap)) :
    Calls Try.prog 10 #[.pointer (some ⟨t, 0, none⟩)] w fun e w' => e = .returned (.tuple #[.agg #[.int .i64 0, .int .i64 0], .bool false]) ∧ Below w.heap.size w w' := by
  have hlt := World.block_lt_of_cell? w _ hc
  go_enter Try.func10, Try.ntmps10
  go_wp2_with fail
  go_call (pop_empty t 17 cap a) as e w1 ⟨rfl, hb1⟩
  have hs1 : w.heap.size < w1.heap.size := by have := hb1.size; simp at this; omega
  have hr1 : w1.heap[w.heap.size]? = some (.cells #[.int .i64 0, .int .i64 0] 27 (0, 0)) := by rw [hb1.block w.heap.size (by simp)]; exact heap_alloc_new w _
  have hr1a := cell_of_heap hr1 0 _ rfl
  have hr1b := cell_of_heap hr1 1 _ rfl
  have hr1c := free_of_heap hr1 0
  have hr1d := free_of_heap hr1 1
  have hb2 : Below w.heap.size w w1 := ((Below.refl _ _).alloc (Nat.le_refl _) _).trans (hb1.mono (by simp))
  go_wp2
  refine bodyPost_ret (v := .tuple #[.agg #[.int .i64 0, .int .i64 0], .bool false]) (by simp [results, Try.results10, go_sem, hr1a, hr1b]) rfl ⟨rfl, ?_⟩
  go_grown

theorem tab_dismiss (t base : Nat) (s : TS) (v : Value) (w : World) (h : Tab w base t s v) :
    Calls Try.prog 10 #[.pointer (some ⟨t, 0, none⟩)] w fun e w' => e = .returned (.tuple #[.agg #[.int .i64 s.dismiss.1.1, .int .i64 s.dismiss.1.2], .bool s.dismiss.2.1]) ∧ Did w base t v s.dismiss.2.2 w' := by
  obtain ⟨cs, hcs, hc⟩ := h.blk
  have kl := cell_of_heap hcs 17 _ hc.row
  cases hrow : s.row with
  | nil =>
    have e1 : s.dismiss = ((0, 0), false, s) := by simp [TS.dismiss, hrow]
    rw [e1]
    obtain ⟨a, cap, hv, _⟩ := h.held.shape
    rw [hv, hrow] at kl
    exact (dismiss_empty t cap a w kl).mono fun e w' ⟨he, hbel⟩ => ⟨he, Did.same h hbel⟩
  | cons x r =>
    have e1 : s.dismiss = (x, true, { s with row := r }) := by simp [TS.dismiss, hrow]
    rw [e1]
    obtain ⟨g, off, cap, hv, hg1, hg2, hnc, hcm, hcell⟩ := h.held.form (by rw [hrow]; simp)
    have hh := h.held
    rw [hrow] at hcell hv hnc hh
    have c0 := hcell 0 _ rfl
    have c1 := hcell 1 _ rfl
    have hcr := hc.row
    have hap := h.apart
    rw [hv] at hcr hh hap
    refine (dismiss_some t g off _ cap 57 cs x.1 x.2 w hcs hcr (by simp) hnc c0 c1).mono ?_
    rintro e w' ⟨rfl, h1, h2⟩
    have hgt : g ≠ t := by simpa [Value.ownBlock] using hap
    have ht := (hh.only h2 (by simp [Value.ownBlock]; exact hgt)).tail (by simp)
    have hown : ∀ k, (tailV g off (x :: r).length).ownBlock = some k → k = g := by
      intro k hk
      unfold tailV at hk
      split at hk <;> simpa [Value.ownBlock, eq_comm] using hk
    refine ⟨rfl, _, ⟨h.lo, fun e => hgt (hown _ e).symm, by simpa [flat_cons, tailV] using ht, _, h1, ?_⟩, ?_, ?_⟩
    · refine ⟨by simp [hc.size], ?_, fun j hj => ?_, ?_⟩
      · rw [Array.getElem?_setIfInBounds_ne (by omega)]; exact hc.room
      · rw [Array.getElem?_setIfInBounds_ne (by omega)]; exact hc.taken j hj
      · rw [Array.getElem?_setIfInBounds_self_of_lt (by simp [hc.size])]
    · exact h2.mono (by simp [fp])
    · intro k hk
      rcases mem_fp.1 hk with rfl | hk
      · exact .inl (mem_fp.2 (.inl rfl))
      · refine .inl (mem_fp.2 (.inr ?_))
        rw [hown k hk, hv]; rfl
end Go.Proofs.Ytibpnemfgnaepaa
