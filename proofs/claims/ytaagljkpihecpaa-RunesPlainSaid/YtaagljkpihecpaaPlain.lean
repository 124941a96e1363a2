/- Characters out of bytes, plainly: no program in sight. No condition beyond each theorem's own premises. -/
import Derived.WalkKit
namespace Go.Proofs.Ytaagljkpihecpaa
namespace Ru

/-- What kind of first byte: 0 a character by itself, 1 to 3 that many more, 4 none. -/
def kind (h : Nat) : Nat := if h ≤ 127 then 0 else if 194 ≤ h ∧ h ≤ 223 then 1 else if 224 ≤ h ∧ h ≤ 239 then 2 else if 240 ≤ h ∧ h ≤ 244 then 3 else 4
def least (h : Nat) : Nat := if h = 224 then 160 else if h = 240 then 144 else 128
def most (h : Nat) : Nat := if h = 237 then 159 else if h = 244 then 143 else 191
def init (h : Nat) : Nat := if h ≤ 223 then h % 32 else if h ≤ 239 then h % 16 else h % 8

def run : Nat → Nat → Nat → Nat → Nat → List Nat → Nat × Nat × Bool
  | 0, _, _, acc, sz, _ => (acc, sz, false)
  | _ + 1, _, _, _, sz, [] => (65533, sz, true)
  | m + 1, lo, hi, acc, sz, b :: r => if b < lo ∨ hi < b then (65533, sz, false) else run m 128 191 (acc * 64 + b % 64) (sz + 1) r

/-- The first character, how many bytes, and may they still become one? -/
def first (l : List Nat) : Nat × Nat × Bool :=
  match l with
  | [] => (65533, 1, true)
  | h :: t => if kind h = 0 then (h, 1, false) else if kind h = 4 then (65533, 1, false) else run (kind h) (least h) (most h) (init h) 1 t

theorem run_bound (m lo hi acc sz : Nat) (l : List Nat) : (run m lo hi acc sz l).2.1 ≤ sz + m ∧ sz ≤ (run m lo hi acc sz l).2.1 ∧ (run m lo hi acc sz l).2.1 ≤ sz + l.length := by
  induction m generalizing lo hi acc sz l with
  | zero => simp [run]
  | succ m ih =>
    cases l with
    | nil => simp [run]
    | cons b r =>
      simp only [run]
      split
      · simp
      · have := ih 128 191 (acc * 64 + b % 64) (sz + 1) r
        simp only [List.length_cons]; omega

theorem kind_le (h : Nat) : kind h ≤ 4 := by unfold kind; split <;> (try split) <;> (try split) <;> (try split) <;> omega

theorem first_size (l : List Nat) (h : l ≠ []) : 1 ≤ (first l).2.1 ∧ (first l).2.1 ≤ l.length := by
  cases l with
  | nil => exact absurd rfl h
  | cons x t =>
    simp only [first]
    split
    · simp
    · split
      · simp
      · have := run_bound (kind x) (least x) (most x) (init x) 1 t
        simp only [List.length_cons]; omega

/-- All characters of a text, and what may still become one. -/
def dec : Nat → List Nat → List Nat × List Nat
  | 0, l => ([], l)
  | n + 1, l => if l = [] then ([], []) else if (first l).2.2 then ([], l) else ((first l).1 :: (dec n (l.drop (first l).2.1)).1, (dec n (l.drop (first l).2.1)).2)

theorem dec_nil (n : Nat) : dec n [] = ([], []) := by cases n <;> simp [dec]
theorem dec_enough (n : Nat) : ∀ (m : Nat) (l : List Nat), l.length ≤ n → l.length ≤ m → dec n l = dec m l := by
  induction n with
  | zero =>
    intro m l h _
    obtain rfl : l = [] := List.eq_nil_of_length_eq_zero (by omega)
    rw [dec_nil, dec_nil]
  | succ n ih =>
    intro m l h h2
    by_cases hl : l = []
    · subst hl; rw [dec_nil, dec_nil]
    · cases m with
      | zero => exact absurd (List.eq_nil_of_length_eq_zero (by omega)) hl
      | succ m =>
        have hs := first_size l hl
        have := ih m (l.drop (first l).2.1) (by simp; omega) (by simp; omega)
        simp only [dec, hl, if_false, this]

def decode (l : List Nat) : List Nat × List Nat := dec l.length l
theorem decode_nil : decode [] = ([], []) := rfl
theorem decode_open (l : List Nat) (h : l ≠ []) (ho : (first l).2.2 = true) : decode l = ([], l) := by
  have : 0 < l.length := List.length_pos_iff.2 h
  obtain ⟨n, hn⟩ : ∃ n, l.length = n + 1 := ⟨l.length - 1, by omega⟩
  unfold decode
  rw [hn]
  simp [dec, h, ho]
theorem decode_step (l : List Nat) (h : l ≠ []) (ho : (first l).2.2 = false) : decode l = ((first l).1 :: (decode (l.drop (first l).2.1)).1, (decode (l.drop (first l).2.1)).2) := by
  have : 0 < l.length := List.length_pos_iff.2 h
  obtain ⟨n, hn⟩ : ∃ n, l.length = n + 1 := ⟨l.length - 1, by omega⟩
  have hs := first_size l h
  have e := dec_enough (l.drop (first l).2.1).length n (l.drop (first l).2.1) (Nat.le_refl _) (by simp; omega)
  unfold decode
  rw [e, hn]
  simp [dec, h, ho]
end Ru
end Go.Proofs.Ytaagljkpihecpaa
