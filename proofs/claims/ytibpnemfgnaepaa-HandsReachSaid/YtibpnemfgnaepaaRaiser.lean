/- A raiser of hands: what its methods do, said of a plain model. No condition beyond each theorem's own premises. -/
import Derived.Test.YtibpnemfgnaepaaAwake
namespace Go.Proofs.Ytibpnemfgnaepaa
open Go.RowKit

def ints (l : List Int) : List Value := l.map (Value.int .i64)
theorem ints_length (l : List Int) : (ints l).length = l.length * 1 := by simp [ints]
theorem ints_snoc (l : List Int) (x : Int) : ints (l ++ [x]) = ints l ++ [.int .i64 x] := by simp [ints]
theorem ints_one (l : List Int) : ∀ u ∈ ints l, u.oneCell' = true := by
  intro u hu
  obtain ⟨_, _, rfl⟩ := List.mem_map.1 hu
  rfl

theorem ihead_empty (t o cap : Nat) (a : Option Addr) (w : World) (hc : w.cell? ⟨t, o, none⟩ = some (.slice a 0 cap)) :
    Calls Try.prog 22 #[.pointer (some ⟨t, o, none⟩)] w fun e w' => e = .returned (.tuple #[.int .i64 0, .bool false]) ∧ w = w' := by
  go_enter Try.func22, Try.ntmps22
  go_wp2
  go_returns
  exact ⟨rfl, rfl⟩

theorem ihead_some (t o g off n cap : Nat) (x : Int) (w : World) (hc : w.cell? ⟨t, o, none⟩ = some (.slice (some ⟨g, off, none⟩) n cap)) (hn : 0 < n)
    (h0 : w.cell? ⟨g, off, none⟩ = some (.int .i64 x)) :
    Calls Try.prog 22 #[.pointer (some ⟨t, o, none⟩)] w fun e w' => e = .returned (.tuple #[.int .i64 x, .bool true]) ∧ w = w' := by
  have hn0 : ((n : Int) == 0) = false := by simp; omega
  go_enter Try.func22, Try.ntmps22
  go_wp2
  go_returns
  exact ⟨rfl, rfl⟩

/-- The tail of a slice of numbers. -/
def itailV (g off n : Nat) : Value := .slice (if n = 1 then some ⟨g, off, none⟩ else some ⟨g, off + 1, none⟩) (n - 1) (n - 1)

theorem ipop_some (t o g off n cap T : Nat) (cs : Array Value) (x : Int) (w : World) (hb : w.heap[t]? = some (.cells cs T (0, 0))) (hv : cs[o]? = some (.slice (some ⟨g, off, none⟩) n cap))
    (hn : 0 < n) (hnc : n ≤ cap) (h0 : w.cell? ⟨g, off, none⟩ = some (.int .i64 x)) :
    Calls Try.prog 23 #[.pointer (some ⟨t, o, none⟩)] w fun e w' => e = .returned (.tuple #[.int .i64 x, .bool true]) ∧
      w'.heap[t]? = some (.cells (cs.setIfInBounds o (.slice (if n = 1 then some ⟨g, off, none⟩ else some ⟨g, off + 1, none⟩) (n - 1) (n - 1))) T (0, 0)) ∧ Only [t] w w' := by
  have hc := cell_of_heap hb o _ hv
  have hf := free_of_heap hb o
  have hlt := World.block_lt_of_cell? w _ hc
  have hn1 : (1 : Int) ≤ (n : Int) := by omega
  have hn2 : (n : Int) ≤ (cap : Int) := by omega
  go_enter Try.func23, Try.ntmps23
  go_wp2_with fail
  refine (ihead_some t o g off n cap x _ hc hn h0).mono ?_
  rintro e w1 ⟨rfl, rfl⟩
  go_wp2_with fail
  refine still_tail 18 (by kernel_rfl) (by kernel_rfl) ?_
  simp only [List.take_succ_cons, List.take_zero, List.drop_succ_cons, List.drop_zero]
  repeat still_step
  refine wpStill_nil ?_
  go_wp2
  all_goals
    go_returns
    refine ⟨rfl, ?_, ?_⟩
    · (repeat' (first | (with_reducible assumption) | (with_reducible exact rfl) | (with_reducible refine hk_drew ?_) | (with_reducible refine hk_drewN ?_) | (with_reducible refine hk_alloc ?_ ?_) | (with_reducible refine hk_self ?_ _ _) | (with_reducible refine hk_set ?_ ?_) | omega | (simp; omega)))
    · (repeat' (first | (with_reducible exact Only.refl _ _) | (with_reducible assumption) | (with_reducible refine Only.drew ?_) | (with_reducible refine Only.drewN ?_ _) | (with_reducible refine Only.alloc ?_ _) | (with_reducible refine Only.setCell ?_ ?_ _) | (simp; done) | (simp; omega)))

theorem ipush_any (t o n T base : Nat) (cs : Array Value) (v : Value) (xs : List Value) (x : Int) (w : World) (hb : w.heap[t]? = some (.cells cs T (0, 0))) (hv : cs[o]? = some v)
    (hh : Held w base 3 1 v n xs) (hbase : base ≤ w.heap.size) (hn : n ≤ 1000000) (hne : v.ownBlock ≠ some t) :
    Calls Try.prog 21 #[.pointer (some ⟨t, o, none⟩), .int .i64 x] w fun e w' => e = .returned (.tuple #[]) ∧
      ∃ g off cap, w'.heap[t]? = some (.cells (cs.setIfInBounds o (.slice (some ⟨g, off, none⟩) (n + 1) cap)) T (0, 0)) ∧
        Held w' base 3 1 (.slice (some ⟨g, off, none⟩) (n + 1) cap) (n + 1) (xs ++ [.int .i64 x]) ∧ (v.ownBlock = some g ∨ w.heap.size ≤ g) ∧ g ≠ t ∧
        ∀ S, t ∈ S → (∀ k, v.ownBlock = some k → k ∈ S) → Only S w w' := by
  obtain ⟨i0, hi0, hz0, hz1, hz2⟩ := info_parts Try.info3
  have hc := cell_of_heap hb o _ hv
  have hf := free_of_heap hb o
  have hlt := World.block_lt_of_cell? w _ hc
  go_enter Try.func21, Try.ntmps21
  go_wp2_with (at_builtin; refine wpList_append_held _ rfl _ _ 41 rfl base 3 i0 _ 1 8 Try.underlying41 hi0 hz0 hz1 hz2 rfl (by decide) v n xs rfl (hh.alloc _) ⟨w.heap.size, 0, none⟩ 1 1 [.int .i64 x] rfl rfl (World.news_of_block (cs := #[.int .i64 x]) (t := 3) (fr := (0, 0)) (new_at (by simp))) (by simp [Value.oneCell']) (by omega) (by unfold maxLen; omega) (by omega) (by simp; omega) ?_)
  intro g off cap w1 hown1 hgrow hat hlt1
  have hh1 : w1.heap[t]? = some (.cells cs T (0, 0)) := hk_grown hgrow (by simp; omega) hne (by (repeat' (first | (with_reducible assumption) | (with_reducible exact rfl) | (with_reducible refine hk_drew ?_) | (with_reducible refine hk_drewN ?_) | (with_reducible refine hk_alloc ?_ ?_) | (with_reducible refine hk_self ?_ _ _) | (with_reducible refine hk_set ?_ ?_) | omega | (simp; omega))))
  have hc1 := cell_of_heap hh1 o _ hv
  have hf1 := free_of_heap hh1 o
  go_wp2
  go_returns
  have hat' : v.ownBlock = some g ∨ w.heap.size ≤ g := by
    rcases hat with h | h
    · exact .inl h
    · exact .inr (by first | omega | (simp at h; omega))
  have hgt : g ≠ t := by
    rcases hat' with h | h
    · intro e; subst e; exact hne h
    · omega
  exact ⟨rfl, g, off, cap, hk_self hh1 _ _, hown1.setCell (by simpa [Value.ownBlock] using hgt) _, hat', hgt,
    fun S ht hS => (((Only.refl S w).alloc _).grown hgrow (fun k hk => .inl (hS k hk))).setCell (.inl ht) _⟩

/-- A raiser, plainly. -/
structure RA where
  last : Int
  row : List Int

def RA.raise (s : RA) (n : Int) : Bool × RA :=
  if n < 1 ∨ 1048576 < n ∨ n ≤ s.last ∨ 4 ≤ s.row.length then (false, s) else (true, ⟨n, s.row ++ [n]⟩)
def RA.head (s : RA) : Int × Bool :=
  match s.row with
  | [] => (0, false)
  | x :: _ => (x, true)
def RA.ack (s : RA) (n : Int) : Bool × RA :=
  match s.row with
  | [] => (false, s)
  | x :: r => if x = n then (true, { s with row := r }) else (false, s)

structure Rai (w : World) (base t : Nat) (s : RA) (v : Value) : Prop where
  lo : base ≤ t
  apart : v.ownBlock ≠ some t
  held : Held w base 3 1 v s.row.length (ints s.row)
  blk : w.heap[t]? = some (.cells #[.int .i64 s.last, v] 47 (0, 0))

theorem Rai.lt {w : World} {base t : Nat} {s : RA} {v : Value} (h : Rai w base t s v) : ∀ k, k ∈ fp t v → base ≤ k ∧ k < w.heap.size := by
  intro k hk
  rcases mem_fp.1 hk with rfl | hk
  · exact ⟨h.lo, lt_of_heap h.blk⟩
  · exact h.held.lt k hk

theorem Rai.only {w w' : World} {base t : Nat} {s : RA} {v : Value} {S : List Nat} (h : Rai w base t s v) (ho : Only S w w') (hd : ∀ k, k ∈ fp t v → k ∉ S) : Rai w' base t s v := by
  refine ⟨h.lo, h.apart, h.held.only ho (fun k hk => hd k (mem_fp.2 (.inr hk))), ?_⟩
  rw [ho.block t (lt_of_heap h.blk) (hd t (mem_fp.2 (.inl rfl)))]
  exact h.blk

def RDid (w : World) (base t : Nat) (v : Value) (s : RA) (w' : World) : Prop :=
  ∃ v', Rai w' base t s v' ∧ Only (fp t v) w w' ∧ ∀ k, k ∈ fp t v' → k ∈ fp t v ∨ w.heap.size ≤ k
theorem RDid.same {w : World} {base t : Nat} {v : Value} {s : RA} (h : Rai w base t s v) : RDid w base t v s w :=
  ⟨v, h, Only.refl _ _, fun _ hk => .inl hk⟩

theorem rai_len (t base : Nat) (s : RA) (v : Value) (w : World) (h : Rai w base t s v) :
    Calls Try.prog 14 #[.pointer (some ⟨t, 0, none⟩)] w fun e w' => e = .returned (.int .i64 (s.row.length : Int)) ∧ w = w' := by
  obtain ⟨a, cap, hv, _⟩ := h.held.shape
  have kl := cell_of_heap h.blk 1 _ rfl
  rw [hv] at kl
  have kl' : w.cell? ⟨t, 1, none⟩ = some (.slice a s.row.length cap) := kl
  clear kl
  generalize s.row.length = n at kl' ⊢
  go_enter Try.func14, Try.ntmps14
  go_wp2
  go_returns
  exact ⟨rfl, rfl⟩

theorem rai_head (t base : Nat) (s : RA) (v : Value) (w : World) (h : Rai w base t s v) :
    Calls Try.prog 16 #[.pointer (some ⟨t, 0, none⟩)] w fun e w' => e = .returned (.tuple #[.int .i64 s.head.1, .bool s.head.2]) ∧ w = w' := by
  have kl : w.cell? ⟨t, 1, none⟩ = some v := cell_of_heap h.blk 1 _ rfl
  cases hrow : s.row with
  | nil =>
    have e1 : s.head = (0, false) := by simp [RA.head, hrow]
    rw [e1]
    obtain ⟨a, cap, hv, _⟩ := h.held.shape
    rw [hv, hrow] at kl
    have kl' : w.cell? ⟨t, 1, none⟩ = some (.slice a 0 cap) := kl
    clear kl
    go_enter Try.func16, Try.ntmps16
    go_wp2_with fail
    refine (ihead_empty t 1 cap a _ kl').mono ?_
    rintro e w1 ⟨rfl, rfl⟩
    go_wp2
    go_returns
    exact ⟨rfl, rfl⟩
  | cons x r =>
    have e1 : s.head = (x, true) := by simp [RA.head, hrow]
    rw [e1]
    obtain ⟨g, off, cap, hv, hg1, hg2, hnc, hcm, hcell⟩ := h.held.form (by rw [hrow]; simp)
    rw [hrow] at hcell hv hnc
    have c0 : w.cell? ⟨g, off, none⟩ = some (.int .i64 x) := hcell 0 _ rfl
    rw [hv] at kl
    clear hcell
    go_enter Try.func16, Try.ntmps16
    go_wp2_with fail
    refine (ihead_some t 1 g off _ cap x _ kl (by simp) c0).mono ?_
    rintro e w1 ⟨rfl, rfl⟩
    go_wp2
    go_returns
    exact ⟨rfl, rfl⟩

theorem rraise_bad (t n cap : Nat) (a : Option Addr) (x last : Int) (w : World) (h0 : w.cell? ⟨t, 0, none⟩ = some (.int .i64 last)) (h1 : w.cell? ⟨t, 1, none⟩ = some (.slice a n cap)) (hbad : x < 1 ∨ 1048576 < x ∨ x ≤ last ∨ 4 ≤ n) :
    Calls Try.prog 15 #[.pointer (some ⟨t, 0, none⟩), .int .i64 x] w fun e w' => e = .returned (.bool false) ∧ w = w' := by
  by_cases c1 : x < 1
  · go_enter Try.func15, Try.ntmps15
    go_wp2
    go_returns
    exact ⟨rfl, rfl⟩
  · by_cases c2 : 1048576 < x
    · go_enter Try.func15, Try.ntmps15
      go_wp2
      go_returns
      exact ⟨rfl, rfl⟩
    · by_cases c3 : x ≤ last
      · go_enter Try.func15, Try.ntmps15
        go_wp2
        go_returns
        exact ⟨rfl, rfl⟩
      · have c4 : (4 : Int) ≤ (n : Int) := by omega
        go_enter Try.func15, Try.ntmps15
        go_wp2
        go_returns
        exact ⟨rfl, rfl⟩

theorem rraise_new (t n base : Nat) (v : Value) (x last : Int) (xs : List Value) (w : World) (hb : w.heap[t]? = some (.cells #[.int .i64 last, v] 47 (0, 0))) (c1 : 1 ≤ x) (c2 : x ≤ 1048576) (c3 : last < x) (c4 : n < 4)
    (hh : Held w base 3 1 v n xs) (hbase : base ≤ w.heap.size) (hne : v.ownBlock ≠ some t) :
    Calls Try.prog 15 #[.pointer (some ⟨t, 0, none⟩), .int .i64 x] w fun e w' => e = .returned (.bool true) ∧
      ∃ g off cap, w'.heap[t]? = some (.cells #[.int .i64 x, .slice (some ⟨g, off, none⟩) (n + 1) cap] 47 (0, 0)) ∧
        Held w' base 3 1 (.slice (some ⟨g, off, none⟩) (n + 1) cap) (n + 1) (xs ++ [.int .i64 x]) ∧ (v.ownBlock = some g ∨ w.heap.size ≤ g) ∧ g ≠ t ∧ Only (fp t v) w w' := by
  obtain ⟨a, cap0, rfl, hs1, hs2, hs3, hs4, hs5⟩ := hh.shape
  have k0 : w.cell? ⟨t, 0, none⟩ = some (.int .i64 last) := cell_of_heap hb 0 _ rfl
  have k1 : w.cell? ⟨t, 1, none⟩ = some (.slice a n cap0) := cell_of_heap hb 1 _ rfl
  have f0 := free_of_heap hb 0
  have hlt := lt_of_heap hb
  have c4' : (n : Int) < 4 := by omega
  clear hs1 hs2 hs3 hs4 hs5
  go_enter Try.func15, Try.ntmps15
  go_wp2_with fail
  refine (ipush_any t 1 n 47 base #[.int .i64 x, .slice a n cap0] (.slice a n cap0) xs x _ ?_ rfl ?_ ?_ (by omega) hne).mono ?_
  · exact hk_self hb 0 _
  · exact hh.setCell hne _
  · simp; omega
  rintro e w1 ⟨rfl, g, off, cap, h1, h2, h3, h4, h5⟩
  go_wp2
  go_returns
  refine ⟨rfl, g, off, cap, h1, h2, by simpa using h3, h4, ?_⟩
  refine Only.trans ?_ (h5 (fp t (.slice a n cap0)) (mem_fp.2 (.inl rfl)) (fun k hk => mem_fp.2 (.inr hk)))
  exact (Only.refl (fp t (.slice a n cap0)) w).setCell (p := ⟨t, 0, none⟩) (.inl (mem_fp.2 (.inl rfl))) _

theorem rai_raise (t base : Nat) (s : RA) (v : Value) (x : Int) (w : World) (h : Rai w base t s v) (hb : base ≤ w.heap.size) :
    Calls Try.prog 15 #[.pointer (some ⟨t, 0, none⟩), .int .i64 x] w fun e w' => e = .returned (.bool (s.raise x).1) ∧ RDid w base t v (s.raise x).2 w' := by
  unfold RA.raise
  by_cases c : x < 1 ∨ 1048576 < x ∨ x ≤ s.last ∨ 4 ≤ s.row.length
  · rw [if_pos c]
    obtain ⟨a, cap, hv, _⟩ := h.held.shape
    have k1 : w.cell? ⟨t, 1, none⟩ = some v := cell_of_heap h.blk 1 _ rfl
    rw [hv] at k1
    refine (rraise_bad t s.row.length cap a x s.last w (cell_of_heap h.blk 0 _ rfl) k1 c).mono ?_
    rintro e w' ⟨rfl, rfl⟩
    exact ⟨rfl, RDid.same h⟩
  · rw [if_neg c]
    refine (rraise_new t s.row.length base v x s.last _ w h.blk (by omega) (by omega) (by omega) (by omega) h.held hb h.apart).mono ?_
    rintro e w' ⟨rfl, g, off, cap, h1, h2, h3, h4, h5⟩
    refine ⟨rfl, .slice (some ⟨g, off, none⟩) (s.row.length + 1) cap, ⟨h.lo, by simpa [Value.ownBlock] using h4, by simpa [ints_snoc] using h2, h1⟩, h5, ?_⟩
    intro k hk
    rcases mem_fp.1 hk with rfl | hk
    · exact .inl (mem_fp.2 (.inl rfl))
    · simp only [Value.ownBlock, Option.some.injEq] at hk
      subst hk
      rcases h3 with h3 | h3
      · exact .inl (mem_fp.2 (.inr h3))
      · exact .inr h3

theorem ipop_tail (t o g off n cap T : Nat) (cs : Array Value) (x : Int) (w : World) (hb : w.heap[t]? = some (.cells cs T (0, 0))) (hv : cs[o]? = some (.slice (some ⟨g, off, none⟩) n cap))
    (hn : 0 < n) (hnc : n ≤ cap) (h0 : w.cell? ⟨g, off, none⟩ = some (.int .i64 x)) :
    Calls Try.prog 23 #[.pointer (some ⟨t, o, none⟩)] w fun e w' => e = .returned (.tuple #[.int .i64 x, .bool true]) ∧
      w'.heap[t]? = some (.cells (cs.setIfInBounds o (itailV g off n)) T (0, 0)) ∧ Only [t] w w' :=
  ipop_some t o g off n cap T cs x w hb hv hn hnc h0

theorem rack_hit (t g off n cap : Nat) (x last : Int) (w : World) (hb : w.heap[t]? = some (.cells #[.int .i64 last, .slice (some ⟨g, off, none⟩) n cap] 47 (0, 0)))
    (hn : 0 < n) (hnc : n ≤ cap) (h0 : w.cell? ⟨g, off, none⟩ = some (.int .i64 x)) :
    Calls Try.prog 17 #[.pointer (some ⟨t, 0, none⟩), .int .i64 x] w fun e w' => e = .returned (.bool true) ∧ w'.heap[t]? = some (.cells #[.int .i64 last, itailV g off n] 47 (0, 0)) ∧ Only [t] w w' := by
  have k1 : w.cell? ⟨t, 1, none⟩ = some (.slice (some ⟨g, off, none⟩) n cap) := cell_of_heap hb 1 _ rfl
  go_enter Try.func17, Try.ntmps17
  go_wp2_with fail
  refine (ihead_some t 1 g off n cap x _ k1 hn h0).mono ?_
  rintro e w1 ⟨rfl, rfl⟩
  go_wp2_with fail
  refine (ipop_tail t 1 g off n cap 47 #[.int .i64 last, .slice (some ⟨g, off, none⟩) n cap] x _ hb rfl hn hnc h0).mono ?_
  rintro e w1 ⟨rfl, h1, h2⟩
  go_wp2
  go_returns
  exact ⟨rfl, h1, h2⟩

theorem rai_ack (t base : Nat) (s : RA) (v : Value) (x : Int) (r : List Int) (w : World) (h : Rai w base t s v) (hr : s.row = x :: r) :
    Calls Try.prog 17 #[.pointer (some ⟨t, 0, none⟩), .int .i64 x] w fun e w' => e = .returned (.bool true) ∧ RDid w base t v { s with row := r } w' := by
  obtain ⟨g, off, cap, hv, hg1, hg2, hnc, hcm, hcell⟩ := h.held.form (by rw [hr]; simp)
  have hb := h.blk
  have hh := h.held
  have hap := h.apart
  rw [hr] at hcell hv hnc hh
  have c0 : w.cell? ⟨g, off, none⟩ = some (.int .i64 x) := hcell 0 _ rfl
  rw [hv] at hb hh hap
  have hgt : g ≠ t := by simpa [Value.ownBlock] using hap
  refine (rack_hit t g off _ cap x s.last w hb (by simp) hnc c0).mono ?_
  rintro e w' ⟨rfl, h1, h2⟩
  have ht := (hh.only h2 (by simp [Value.ownBlock]; exact hgt)).tail (by simp)
  have hown : ∀ k, (itailV g off (x :: r).length).ownBlock = some k → k = g := by
    intro k hk
    unfold itailV at hk
    split at hk <;> simpa [Value.ownBlock, eq_comm] using hk
  refine ⟨rfl, _, ⟨h.lo, fun e => hgt (hown _ e).symm, by simpa [ints, itailV] using ht, h1⟩, h2.mono (by simp [fp]), ?_⟩
  intro k hk
  rcases mem_fp.1 hk with rfl | hk
  · exact .inl (mem_fp.2 (.inl rfl))
  · refine .inl (mem_fp.2 (.inr ?_))
    rw [hown k hk, hv]; rfl
end Go.Proofs.Ytibpnemfgnaepaa
