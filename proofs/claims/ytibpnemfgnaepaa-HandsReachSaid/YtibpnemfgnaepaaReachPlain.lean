/- HandsReach, the plain part: a viewer that raises numbers, and a table that takes them. No condition beyond each theorem's own premises. -/
import Derived.Test.YtibpnemfgnaepaaRaiser
namespace Go.Proofs.Ytibpnemfgnaepaa
namespace Reach

/-- Rising numbers from 1 to 63. -/
def Rising (l : List Int) : Prop := l.Pairwise (· < ·) ∧ ∀ x ∈ l, 1 ≤ x ∧ x ≤ 63
def last (l : List Int) : Int := l.getLastD 0

theorem last_snoc (l : List Int) (x : Int) : last (l ++ [x]) = x := by simp [last, List.getLastD_eq_getLast?]
theorem last_append (l m : List Int) (h : m ≠ []) : last (l ++ m) = last m := by
  obtain ⟨m', x, rfl⟩ : ∃ m' x, m = m' ++ [x] := ⟨m.dropLast, m.getLast h, (List.dropLast_concat_getLast h).symm⟩
  rw [← List.append_assoc, last_snoc, last_snoc]
theorem last_mem (l : List Int) (h : l ≠ []) : last l ∈ l := by
  obtain ⟨m', x, rfl⟩ : ∃ m' x, l = m' ++ [x] := ⟨l.dropLast, l.getLast h, (List.dropLast_concat_getLast h).symm⟩
  rw [last_snoc]; simp
theorem last_nil : last [] = 0 := rfl
theorem Rising.last_le {l : List Int} (h : Rising l) : ∀ x ∈ l, x ≤ last l := by
  intro x hx
  have hne : l ≠ [] := by intro e; subst e; cases hx
  obtain ⟨m', y, rfl⟩ : ∃ m' y, l = m' ++ [y] := ⟨l.dropLast, l.getLast hne, (List.dropLast_concat_getLast hne).symm⟩
  rw [last_snoc]
  rcases List.mem_append.1 hx with hx | hx
  · exact Int.le_of_lt ((List.pairwise_append.1 h.1).2.2 x hx y (by simp))
  · simp at hx; omega
theorem Rising.snoc {l : List Int} (h : Rising l) {n : Int} (h1 : last l < n) (h0 : 0 < n) (h2 : n ≤ 63) : Rising (l ++ [n]) := by
  refine ⟨List.pairwise_append.2 ⟨h.1, by simp, ?_⟩, ?_⟩
  · intro a ha b hb
    simp at hb; subst hb
    have := h.last_le a ha; omega
  · intro x hx
    rcases List.mem_append.1 hx with hx | hx
    · exact h.2 x hx
    · simp at hx; subst hx; omega
theorem Rising.last_range {l : List Int} (h : Rising l) : 0 ≤ last l ∧ (l ≠ [] → 1 ≤ last l) := by
  by_cases c : l = []
  · subst c; exact ⟨by rw [last_nil]; omega, fun h => absurd rfl h⟩
  · have := h.2 _ (last_mem l c)
    exact ⟨by omega, fun _ => this.1⟩
theorem Rising.left {l m : List Int} (h : Rising (l ++ m)) : Rising l := ⟨(List.pairwise_append.1 h.1).1, fun x hx => h.2 x (List.mem_append.2 (.inl hx))⟩
theorem Rising.head_gt {l m : List Int} {x : Int} (h : Rising (l ++ x :: m)) : last l < x := by
  by_cases c : l = []
  · subst c
    have := h.2 x (by simp)
    rw [last_nil]; omega
  · exact (List.pairwise_append.1 h.1).2.2 _ (last_mem l c) x (by simp)

/-- How things stand: how many numbers were tried; those that were acknowledged, those that wait; whether the first that waits was taken. -/
structure RS where
  tried : Nat
  acked : List Int
  rr : List Int
  dup : Bool
def RS.want (s : RS) : List Int := s.acked ++ s.rr
def RS.tk (s : RS) : List Int := s.acked ++ (if s.dup then s.rr.take 1 else [])
def tabOf (tk : List Int) : TS := ⟨12, fun j => if j = 2 then last tk else 0, tk.map fun x => (2, x)⟩
def raiOf (s : RS) : RA := ⟨last s.want, s.rr⟩
structure RS.Ok (s : RS) (lim : Nat) : Prop where
  rise : Rising s.want
  len : s.want.length ≤ s.tried
  tried : s.tried ≤ lim
  lim : lim ≤ 12
  four : s.rr.length ≤ 4
  dup : s.dup = true → s.rr ≠ []
def RS.phi (s : RS) (lim : Nat) : Nat := 2 * (lim - s.tried) + s.rr.length

theorem RS.Ok.phi_le {s : RS} {lim : Nat} (h : s.Ok lim) : s.phi lim ≤ 28 := by
  have := h.lim; have := h.four; unfold RS.phi; omega

theorem raise_no {s : RS} {lim : Nat} (_h : s.Ok lim) {n : Int} (hn : ¬ (0 < n ∧ last s.want < n)) : (raiOf s).raise n = (false, raiOf s) := by
  unfold RA.raise
  rw [if_pos]
  simp only [raiOf]
  omega
theorem raise_yes {s : RS} {lim : Nat} (_h : s.Ok lim) {n : Int} (h4 : s.rr.length < 4) (hn : 0 < n ∧ last s.want < n) (h63 : n ≤ 63) : (raiOf s).raise n = (true, raiOf { s with tried := s.tried + 1, rr := s.rr ++ [n] }) := by
  unfold RA.raise
  rw [if_neg (by simp only [raiOf]; omega)]
  simp only [raiOf, RS.want, ← List.append_assoc, last_snoc]
theorem next_no {s : RS} {lim : Nat} (h : s.Ok lim) (hl : s.tried < lim) : RS.Ok { s with tried := s.tried + 1 } lim :=
  ⟨h.rise, by have := h.len; simp only [RS.want] at this ⊢; omega, by simp; omega, h.lim, h.four, h.dup⟩
theorem next_yes {s : RS} {lim : Nat} (h : s.Ok lim) (hl : s.tried < lim) {n : Int} (h4 : s.rr.length < 4) (hn : 0 < n ∧ last s.want < n) (h63 : n ≤ 63) :
    RS.Ok { s with tried := s.tried + 1, rr := s.rr ++ [n] } lim := by
  refine ⟨?_, ?_, by simp; omega, h.lim, by simp; omega, ?_⟩
  · have := h.rise.snoc hn.2 hn.1 h63
    simpa [RS.want] using this
  · have := h.len
    simp only [RS.want, List.length_append, List.length_singleton] at this ⊢; omega
  · intro hd; simp
theorem tk_yes {s : RS} {lim : Nat} (h : s.Ok lim) (n : Int) : RS.tk { s with tried := s.tried + 1, rr := s.rr ++ [n] } = s.tk := by
  unfold RS.tk
  cases hd : s.dup with
  | false => rfl
  | true =>
    have := h.dup hd
    cases hr : s.rr with
    | nil => exact absurd hr this
    | cons x r => simp
theorem want_yes (s : RS) (n : Int) : RS.want { s with tried := s.tried + 1, rr := s.rr ++ [n] } = s.want ++ [n] := by simp [RS.want]

/-- The table takes the first that waits, or has it already. -/
theorem take_head {s : RS} {lim : Nat} (h : s.Ok lim) {x : Int} {r : List Int} (hr : s.rr = x :: r) : (tabOf s.tk).raise 2 x = (true, tabOf (RS.tk { s with dup := true })) := by
  have hrise := h.rise
  have hlen := h.len
  have ht := h.tried
  have hl := h.lim
  unfold RS.want at hrise hlen
  rw [hr] at hrise hlen
  have hx := hrise.2 x (by simp)
  unfold TS.raise
  rw [if_neg (by omega)]
  have e2 : RS.tk { s with dup := true } = s.acked ++ [x] := by simp [RS.tk, hr]
  rw [e2]
  cases hd : s.dup with
  | true =>
    have e1 : s.tk = s.acked ++ [x] := by simp [RS.tk, hr, hd]
    rw [e1, if_pos (by simp [tabOf, last_snoc])]
  | false =>
    have e1 : s.tk = s.acked := by simp [RS.tk, hd]
    have hgt := hrise.head_gt
    rw [e1, if_neg (by simp [tabOf]; omega), if_neg (by simp [tabOf]; simp at hlen; omega)]
    simp only [tabOf, last_snoc, List.map_append, List.map_cons, List.map_nil]
    congr 2
    funext j
    by_cases c : j = 2 <;> simp [c]

theorem ack_state {s : RS} {lim : Nat} (h : s.Ok lim) {x : Int} {r : List Int} (hr : s.rr = x :: r) :
    RS.Ok ⟨s.tried, s.acked ++ [x], r, false⟩ lim ∧ RS.want ⟨s.tried, s.acked ++ [x], r, false⟩ = s.want ∧ RS.tk ⟨s.tried, s.acked ++ [x], r, false⟩ = RS.tk { s with dup := true } ∧ RS.phi ⟨s.tried, s.acked ++ [x], r, false⟩ lim + 1 = s.phi lim := by
  have e1 : RS.want ⟨s.tried, s.acked ++ [x], r, false⟩ = s.want := by simp [RS.want, hr]
  refine ⟨⟨by rw [e1]; exact h.rise, by rw [e1]; exact h.len, h.tried, h.lim, ?_, by simp⟩, e1, by simp [RS.tk, hr], ?_⟩
  · have := h.four; rw [hr] at this; simp at this; show r.length ≤ 4; omega
  · simp [RS.phi, hr]; omega
theorem dup_state {s : RS} {lim : Nat} (h : s.Ok lim) {x : Int} {r : List Int} (hr : s.rr = x :: r) : RS.Ok { s with dup := true } lim :=
  ⟨h.rise, h.len, h.tried, h.lim, h.four, fun _ => by simp [hr]⟩
theorem ints_last {l : List Int} (h : l ≠ []) : (ints l)[l.length - 1]? = some (.int .i64 (last l)) := by
  obtain ⟨m', x, rfl⟩ : ∃ m' x, l = m' ++ [x] := ⟨l.dropLast, l.getLast h, (List.dropLast_concat_getLast h).symm⟩
  rw [last_snoc]
  simp [ints]
theorem flat2_get (l : List Int) (j : Nat) (h : j < l.length) : (l.flatMap fun x => [Value.int .i64 2, Value.int .i64 x])[j * 2]? = some (.int .i64 2) ∧
    (l.flatMap fun x => [Value.int .i64 2, Value.int .i64 x])[j * 2 + 1]? = some (.int .i64 (l.getD j 0)) := by
  induction l generalizing j with
  | nil => simp at h
  | cons x l ih =>
    cases j with
    | zero => simp
    | succ j =>
      have := ih j (by simpa using h)
      simp only [List.flatMap_cons, List.cons_append, List.nil_append, Nat.add_mul, Nat.one_mul]
      simpa using this
theorem ints_get (l : List Int) (j : Nat) (h : j < l.length) : (ints l)[j]? = some (.int .i64 (l.getD j 0)) := by
  simp [ints, h]
end Reach
end Go.Proofs.Ytibpnemfgnaepaa
