/- Characters out of bytes, plainly, more: a text told whole; a text that is parted. No condition beyond each theorem's own premises. -/
import Derived.Test.YtaagljkpihecpaaPlain
namespace Go.Proofs.Ytaagljkpihecpaa
namespace Ru

theorem run_isOpen (m lo hi acc sz : Nat) (l : List Nat) (h : (run m lo hi acc sz l).2.2 = true) : run m lo hi acc sz l = (65533, sz + l.length, true) := by
  induction m generalizing lo hi acc sz l with
  | zero => simp [run] at h
  | succ m ih =>
    cases l with
    | nil => simp [run]
    | cons b r =>
      simp only [run] at h ⊢
      split at h
      · simp at h
      · rename_i hc
        rw [if_neg hc, ih _ _ _ _ _ h]
        simp only [List.length_cons]
        congr 2; omega

theorem first_isOpen (l : List Nat) (hl : l ≠ []) (h : (first l).2.2 = true) : first l = (65533, l.length, true) := by
  cases l with
  | nil => exact absurd rfl hl
  | cons x t =>
    simp only [first] at h ⊢
    split at h
    · simp at h
    · rename_i h0
      split at h
      · simp at h
      · rename_i h4
        rw [if_neg h0, if_neg h4, run_isOpen _ _ _ _ _ _ h]
        simp only [List.length_cons]
        congr 2; omega

/-- A text told whole: what is left at its end is one character that is none. -/
def all (l : List Nat) : List Nat := (decode l).1 ++ if (decode l).2 = [] then [] else [65533]
theorem all_nil : all [] = [] := rfl
theorem all_step (l : List Nat) (h : l ≠ []) : all l = (first l).1 :: all (l.drop (first l).2.1) := by
  cases ho : (first l).2.2 with
  | true =>
    have e := first_isOpen l h ho
    unfold all
    rw [decode_open l h ho, e]
    simp [h, decode_nil]
  | false =>
    unfold all
    rw [decode_step l h ho]
    simp

/-- What is kept of a text is open, or nothing. -/
theorem decode_kept (n : Nat) : ∀ l : List Nat, l.length ≤ n → (decode l).2 = [] ∨ (first (decode l).2).2.2 = true := by
  induction n with
  | zero =>
    intro l h
    obtain rfl : l = [] := List.eq_nil_of_length_eq_zero (by omega)
    exact .inl rfl
  | succ n ih =>
    intro l h
    by_cases hl : l = []
    · subst hl; exact .inl rfl
    · cases ho : (first l).2.2 with
      | true => rw [decode_open l hl ho]; exact .inr ho
      | false =>
        rw [decode_step l hl ho]
        have hs := first_size l hl
        exact ih _ (by simp; omega)

theorem run_more (m lo hi acc sz : Nat) (l r : List Nat) (h : (run m lo hi acc sz l).2.2 = false) : run m lo hi acc sz (l ++ r) = run m lo hi acc sz l := by
  induction m generalizing lo hi acc sz l with
  | zero => simp [run]
  | succ m ih =>
    cases l with
    | nil => simp [run] at h
    | cons b t =>
      simp only [run, List.cons_append] at h ⊢
      split at h
      · rename_i hc; rw [if_pos hc, if_pos hc]
      · rename_i hc
        rw [if_neg hc, if_neg hc]
        exact ih _ _ _ _ _ h
/-- A first character that is decided stays, whatever follows. -/
theorem first_more (l r : List Nat) (hl : l ≠ []) (h : (first l).2.2 = false) : first (l ++ r) = first l := by
  cases l with
  | nil => exact absurd rfl hl
  | cons x t =>
    simp only [first, List.cons_append] at h ⊢
    split at h
    · rename_i h0; rw [if_pos h0, if_pos h0]
    · rename_i h0
      rw [if_neg h0, if_neg h0]
      split at h
      · rename_i h4; rw [if_pos h4, if_pos h4]
      · rename_i h4
        rw [if_neg h4, if_neg h4]
        exact run_more _ _ _ _ _ _ _ h

/-- However bytes are parted, the characters are the same. -/
theorem decode_append (n : Nat) : ∀ (l r : List Nat), l.length ≤ n → decode (l ++ r) = ((decode l).1 ++ (decode ((decode l).2 ++ r)).1, (decode ((decode l).2 ++ r)).2) := by
  induction n with
  | zero =>
    intro l r h
    obtain rfl : l = [] := List.eq_nil_of_length_eq_zero (by omega)
    simp [decode_nil]
  | succ n ih =>
    intro l r h
    by_cases hl : l = []
    · subst hl; simp [decode_nil]
    · cases ho : (first l).2.2 with
      | true => rw [decode_open l hl ho]; simp
      | false =>
        have hs := first_size l hl
        have hm := first_more l r hl ho
        have hne : l ++ r ≠ [] := by simp [hl]
        rw [decode_step (l ++ r) hne (by rw [hm]; exact ho), hm, List.drop_append_of_le_length hs.2, ih _ r (by simp; omega), decode_step l hl ho]
        simp
theorem decode_parted (l r : List Nat) : decode (l ++ r) = ((decode l).1 ++ (decode ((decode l).2 ++ r)).1, (decode ((decode l).2 ++ r)).2) := decode_append l.length l r (Nat.le_refl _)

theorem run_open_len (m lo hi acc sz : Nat) (l : List Nat) (h : (run m lo hi acc sz l).2.2 = true) : l.length < m := by
  induction m generalizing lo hi acc sz l with
  | zero => simp [run] at h
  | succ m ih =>
    cases l with
    | nil => simp
    | cons b t =>
      simp only [run] at h
      split at h
      · simp at h
      · have := ih _ _ _ _ _ h
        simp only [List.length_cons]; omega
theorem first_open_len (l : List Nat) (h : (first l).2.2 = true) : l.length ≤ 3 := by
  cases l with
  | nil => simp
  | cons x t =>
    simp only [first] at h
    split at h
    · simp at h
    · split at h
      · simp at h
      · rename_i h0 h4
        have := run_open_len _ _ _ _ _ _ h
        have := kind_le x
        simp only [List.length_cons]; omega
/-- No more than three bytes are kept. -/
theorem kept_le (l : List Nat) : (decode l).2.length ≤ 3 := by
  rcases decode_kept l.length l (Nat.le_refl _) with h | h
  · rw [h]; simp
  · exact first_open_len _ h
theorem decode_len (n : Nat) : ∀ l : List Nat, l.length ≤ n → (decode l).1.length + (decode l).2.length ≤ l.length := by
  induction n with
  | zero =>
    intro l h
    obtain rfl : l = [] := List.eq_nil_of_length_eq_zero (by omega)
    simp [decode_nil]
  | succ n ih =>
    intro l h
    by_cases hl : l = []
    · subst hl; simp [decode_nil]
    · cases ho : (first l).2.2 with
      | true => rw [decode_open l hl ho]; simp
      | false =>
        have hs := first_size l hl
        have := ih (l.drop (first l).2.1) (by simp; omega)
        rw [decode_step l hl ho]
        simp at this ⊢; omega
theorem all_len (l : List Nat) : (all l).length ≤ l.length := by
  have := decode_len l.length l (Nat.le_refl _)
  unfold all
  split
  · simp; omega
  · rename_i h
    have : 0 < (decode l).2.length := List.length_pos_iff.2 h
    simp; omega
end Ru
end Go.Proofs.Ytaagljkpihecpaa
