/- Characters as bytes, plainly, and back. No condition beyond each theorem's own premises. -/
import Derived.Test.YtaagljkpihecpaaPlain2
namespace Go.Proofs.Ytaagljkpihecpaa
namespace Ru

/-- A character that has a sequence. -/
def valid (r : Nat) : Prop := r ≤ 1114111 ∧ ¬ (55296 ≤ r ∧ r ≤ 57343)
/-- Its sequence. -/
def enc (r : Nat) : List Nat :=
  if r < 128 then [r] else if r < 2048 then [192 + r / 64, 128 + r % 64] else if r < 65536 then [224 + r / 4096, 128 + r / 64 % 64, 128 + r % 64]
  else [240 + r / 262144, 128 + r / 4096 % 64, 128 + r / 64 % 64, 128 + r % 64]
/-- All sequences. -/
def encAll : List Nat → List Nat
  | [] => []
  | r :: l => enc r ++ encAll l
theorem encAll_append (a b : List Nat) : encAll (a ++ b) = encAll a ++ encAll b := by
  induction a with
  | nil => rfl
  | cons r l ih => simp [encAll, ih]
theorem enc_len (r : Nat) : 1 ≤ (enc r).length ∧ (enc r).length ≤ 4 := by unfold enc; split <;> (try split) <;> (try split) <;> simp
theorem encAll_len (l : List Nat) : (encAll l).length ≤ 4 * l.length := by
  induction l with
  | nil => simp [encAll]
  | cons r l ih => have := enc_len r; simp [encAll]; omega
theorem enc_byte (r : Nat) (hv : r ≤ 1114111) : ∀ b ∈ enc r, b < 256 := by
  intro b hb
  unfold enc at hb
  split at hb
  · simp at hb; omega
  · split at hb
    · simp at hb; omega
    · split at hb
      · simp at hb; omega
      · simp at hb; omega

theorem kind0 (h : Nat) (a : h ≤ 127) : kind h = 0 := by simp [kind, a]
theorem kind1 (h : Nat) (a : 194 ≤ h) (b : h ≤ 223) : kind h = 1 := by unfold kind; rw [if_neg (by omega), if_pos ⟨a, b⟩]
theorem kind2 (h : Nat) (a : 224 ≤ h) (b : h ≤ 239) : kind h = 2 := by unfold kind; rw [if_neg (by omega), if_neg (by omega), if_pos ⟨a, b⟩]
theorem kind3 (h : Nat) (a : 240 ≤ h) (b : h ≤ 244) : kind h = 3 := by unfold kind; rw [if_neg (by omega), if_neg (by omega), if_neg (by omega), if_pos ⟨a, b⟩]
theorem kind_is (h : Nat) : (h ≤ 127 ∧ kind h = 0) ∨ (194 ≤ h ∧ h ≤ 223 ∧ kind h = 1) ∨ (224 ≤ h ∧ h ≤ 239 ∧ kind h = 2) ∨ (240 ≤ h ∧ h ≤ 244 ∧ kind h = 3) ∨ kind h = 4 := by
  unfold kind
  by_cases a : h ≤ 127
  · simp [a]
  · by_cases b : 194 ≤ h ∧ h ≤ 223
    · simp [a, b]
    · by_cases c : 224 ≤ h ∧ h ≤ 239
      · simp [a, b, c]
      · by_cases d : 240 ≤ h ∧ h ≤ 244
        · simp [a, b, c, d]
        · simp [a, b, c, d]
theorem least_lo (h : Nat) : 128 ≤ least h := by unfold least; split <;> (try split) <;> omega
theorem most_hi (h : Nat) : most h ≤ 191 := by unfold most; split <;> (try split) <;> omega
theorem run_step (m lo hi acc sz b : Nat) (r : List Nat) (h1 : lo ≤ b) (h2 : b ≤ hi) : run (m + 1) lo hi acc sz (b :: r) = run m 128 191 (acc * 64 + b % 64) (sz + 1) r := by
  simp only [run]; rw [if_neg (by omega)]

/-- What was encoded is decoded. -/
theorem first_enc (r : Nat) (hv : valid r) (t : List Nat) : first (enc r ++ t) = (r, (enc r).length, false) := by
  obtain ⟨h1, h2⟩ := hv
  by_cases c1 : r < 128
  · have e : enc r = [r] := by simp [enc, c1]
    rw [e]
    simp [first, kind0 r (by omega)]
  · by_cases c2 : r < 2048
    · have e : enc r = [192 + r / 64, 128 + r % 64] := by simp [enc, c1, c2]
      rw [e]
      have k := kind1 (192 + r / 64) (by omega) (by omega)
      have l1 : least (192 + r / 64) = 128 := by unfold least; rw [if_neg (by omega), if_neg (by omega)]
      have l2 : most (192 + r / 64) = 191 := by unfold most; rw [if_neg (by omega), if_neg (by omega)]
      have l3 : init (192 + r / 64) = (192 + r / 64) % 32 := by unfold init; rw [if_pos (by omega)]
      simp only [first, List.cons_append, List.nil_append, k, l1, l2, l3]
      rw [if_neg (by omega), if_neg (by omega), run_step _ _ _ _ _ _ _ (by omega) (by omega)]
      simp only [run, List.length_cons, List.length_nil]
      congr 1; omega
    · by_cases c3 : r < 65536
      · have e : enc r = [224 + r / 4096, 128 + r / 64 % 64, 128 + r % 64] := by simp [enc, c1, c2, c3]
        rw [e]
        have k := kind2 (224 + r / 4096) (by omega) (by omega)
        have l1 : least (224 + r / 4096) ≤ 128 + r / 64 % 64 := by unfold least; split <;> (try split) <;> omega
        have l2 : 128 + r / 64 % 64 ≤ most (224 + r / 4096) := by unfold most; split <;> (try split) <;> omega
        have l3 : init (224 + r / 4096) = (224 + r / 4096) % 16 := by unfold init; rw [if_neg (by omega), if_pos (by omega)]
        simp only [first, List.cons_append, List.nil_append, k, l3]
        rw [if_neg (by omega), if_neg (by omega), run_step _ _ _ _ _ _ _ l1 l2, run_step _ _ _ _ _ _ _ (by omega) (by omega)]
        simp only [run, List.length_cons, List.length_nil]
        congr 1; omega
      · have e : enc r = [240 + r / 262144, 128 + r / 4096 % 64, 128 + r / 64 % 64, 128 + r % 64] := by simp [enc, c1, c2, c3]
        rw [e]
        have k := kind3 (240 + r / 262144) (by omega) (by omega)
        have l1 : least (240 + r / 262144) ≤ 128 + r / 4096 % 64 := by unfold least; split <;> (try split) <;> omega
        have l2 : 128 + r / 4096 % 64 ≤ most (240 + r / 262144) := by unfold most; split <;> (try split) <;> omega
        have l3 : init (240 + r / 262144) = (240 + r / 262144) % 8 := by unfold init; rw [if_neg (by omega), if_neg (by omega)]
        simp only [first, List.cons_append, List.nil_append, k, l3]
        rw [if_neg (by omega), if_neg (by omega), run_step _ _ _ _ _ _ _ l1 l2, run_step _ _ _ _ _ _ _ (by omega) (by omega), run_step _ _ _ _ _ _ _ (by omega) (by omega)]
        simp only [run, List.length_cons, List.length_nil]
        congr 1; omega

theorem enc_ne (r : Nat) : enc r ≠ [] := by intro h; have := enc_len r; rw [h] at this; simp at this

/-- A text that was encoded is decoded whole. -/
theorem decode_encAll (l : List Nat) (h : ∀ r ∈ l, valid r) : decode (encAll l) = (l, []) := by
  induction l with
  | nil => rfl
  | cons r l ih =>
    have hf := first_enc r (h r (by simp)) (encAll l)
    have hne : enc r ++ encAll l ≠ [] := by simp [enc_ne]
    have := decode_step (enc r ++ encAll l) hne (by rw [hf])
    simp only [encAll]
    rw [this, hf]
    simp [ih fun x hx => h x (by simp [hx])]
theorem all_encAll (l : List Nat) (h : ∀ r ∈ l, valid r) : all (encAll l) = l := by
  unfold all; rw [decode_encAll l h]; simp
/-- Two texts that are whole are decoded apart. -/
theorem all_encAll_append (a b : List Nat) (ha : ∀ r ∈ a, valid r) (hb : ∀ r ∈ b, valid r) : all (encAll a ++ encAll b) = a ++ b := by
  rw [← encAll_append]
  exact all_encAll _ fun r hr => by
    rcases List.mem_append.1 hr with h | h
    · exact ha r h
    · exact hb r h

theorem most_is (h : Nat) : (h = 237 ∧ most h = 159) ∨ (h = 244 ∧ most h = 143) ∨ (h ≠ 237 ∧ h ≠ 244 ∧ most h = 191) := by unfold most; split <;> (try split) <;> omega
theorem least_is (h : Nat) : (h = 224 ∧ least h = 160) ∨ (h = 240 ∧ least h = 144) ∨ (h ≠ 224 ∧ h ≠ 240 ∧ least h = 128) := by unfold least; split <;> (try split) <;> omega

theorem run_zero (lo hi acc sz : Nat) (l : List Nat) : run 0 lo hi acc sz l = (acc, sz, false) := by simp [run]
theorem run_inv (m lo hi acc sz : Nat) (l : List Nat) (R N : Nat) (h : run (m + 1) lo hi acc sz l = (R, N, false)) (hR : R ≠ 65533) :
    ∃ b t, l = b :: t ∧ lo ≤ b ∧ b ≤ hi ∧ run m 128 191 (acc * 64 + b % 64) (sz + 1) t = (R, N, false) := by
  cases l with
  | nil => simp [run] at h
  | cons b t =>
    simp only [run] at h
    split at h
    · simp at h; omega
    · exact ⟨b, t, rfl, by omega, by omega, h⟩

/-- What was decoded, and is no fffd, is encoded to what was there. -/
theorem enc_first (l : List Nat) (hl : l ≠ []) (R N : Nat) (h : first l = (R, N, false)) (hR : R ≠ 65533) : enc R = l.take N ∧ valid R := by
  cases l with
  | nil => exact absurd rfl hl
  | cons x t =>
    simp only [first] at h
    rcases kind_is x with ⟨a, k⟩ | ⟨a, b, k⟩ | ⟨a, b, k⟩ | ⟨a, b, k⟩ | k
    · rw [if_pos k] at h
      simp at h
      obtain ⟨rfl, rfl⟩ := h
      exact ⟨by simp [enc, show x < 128 by omega], by omega, by omega⟩
    · rw [if_neg (by omega), if_neg (by omega), k] at h
      obtain ⟨b1, t1, rfl, i1, i2, h⟩ := run_inv _ _ _ _ _ _ _ _ h hR
      rw [run_zero] at h
      simp at h
      obtain ⟨rfl, rfl⟩ := h
      have := least_lo x
      have := most_hi x
      have hi : init x = x % 32 := by unfold init; rw [if_pos (by omega)]
      rw [hi]
      refine ⟨?_, by omega, by omega⟩
      unfold enc
      rw [if_neg (by omega), if_pos (by omega)]
      simp only [List.take_succ_cons, List.take_zero]
      congr 1
      · omega
      · congr 1; omega
    · rw [if_neg (by omega), if_neg (by omega), k] at h
      obtain ⟨b1, t1, rfl, i1, i2, h⟩ := run_inv _ _ _ _ _ _ _ _ h hR
      obtain ⟨b2, t2, rfl, j1, j2, h⟩ := run_inv _ _ _ _ _ _ _ _ h hR
      rw [run_zero] at h
      simp at h
      obtain ⟨rfl, rfl⟩ := h
      have hi : init x = x % 16 := by unfold init; rw [if_neg (by omega), if_pos (by omega)]
      rw [hi]
      have hm := most_is x
      have hs := least_is x
      have q1 : 128 ≤ b1 ∧ b1 ≤ 191 := by omega
      refine ⟨?_, by omega, by omega⟩
      unfold enc
      rw [if_neg (by omega), if_neg (by omega), if_pos (by omega)]
      simp only [List.take_succ_cons, List.take_zero]
      congr 1
      · omega
      · congr 1
        · omega
        · congr 1; omega
    · rw [if_neg (by omega), if_neg (by omega), k] at h
      obtain ⟨b1, t1, rfl, i1, i2, h⟩ := run_inv _ _ _ _ _ _ _ _ h hR
      obtain ⟨b2, t2, rfl, j1, j2, h⟩ := run_inv _ _ _ _ _ _ _ _ h hR
      obtain ⟨b3, t3, rfl, m1, m2, h⟩ := run_inv _ _ _ _ _ _ _ _ h hR
      rw [run_zero] at h
      simp at h
      obtain ⟨rfl, rfl⟩ := h
      have hi : init x = x % 8 := by unfold init; rw [if_neg (by omega), if_neg (by omega)]
      rw [hi]
      have hm := most_is x
      have hs := least_is x
      have q1 : 128 ≤ b1 ∧ b1 ≤ 191 := by omega
      refine ⟨?_, by omega, by omega⟩
      unfold enc
      rw [if_neg (by omega), if_neg (by omega), if_neg (by omega)]
      simp only [List.take_succ_cons, List.take_zero]
      congr 1
      · omega
      · congr 1
        · omega
        · congr 1
          · omega
          · congr 1; omega
    · rw [if_neg (by omega), if_pos k] at h
      simp at h
      omega

theorem valid_bad : valid 65533 := by unfold valid; omega
theorem valid_first (l : List Nat) (hl : l ≠ []) : valid (first l).1 := by
  obtain ⟨R, N, O, e⟩ : ∃ R N O, first l = (R, N, O) := ⟨_, _, _, rfl⟩
  cases O with
  | true => rw [first_isOpen l hl (by rw [e])]; exact valid_bad
  | false =>
    by_cases hR : R = 65533
    · rw [e, hR]; exact valid_bad
    · rw [e]; exact (enc_first l hl R N e hR).2
theorem valid_all (n : Nat) : ∀ l : List Nat, l.length ≤ n → ∀ r ∈ all l, valid r := by
  induction n with
  | zero =>
    intro l h
    obtain rfl : l = [] := List.eq_nil_of_length_eq_zero (by omega)
    simp [all_nil]
  | succ n ih =>
    intro l h r hr
    by_cases hl : l = []
    · subst hl; simp [all_nil] at hr
    · have hs := first_size l hl
      rw [all_step l hl] at hr
      rcases List.mem_cons.1 hr with rfl | hr
      · exact valid_first l hl
      · exact ih _ (by simp; omega) r hr
theorem all_valid (l : List Nat) : ∀ r ∈ all l, valid r := valid_all l.length l (Nat.le_refl _)
/-- What is clean is encoded to itself. -/
theorem clean (n : Nat) : ∀ l : List Nat, l.length ≤ n → (∀ r ∈ all l, r ≠ 65533) → encAll (all l) = l := by
  induction n with
  | zero =>
    intro l h _
    obtain rfl : l = [] := List.eq_nil_of_length_eq_zero (by omega)
    rfl
  | succ n ih =>
    intro l h hc
    by_cases hl : l = []
    · subst hl; rfl
    · have hs := first_size l hl
      rw [all_step l hl] at hc ⊢
      obtain ⟨R, N, O, e⟩ : ∃ R N O, first l = (R, N, O) := ⟨_, _, _, rfl⟩
      have hR : R ≠ 65533 := by have := hc (first l).1 (by simp); rwa [e] at this
      have hO : O = false := by
        cases O with
        | false => rfl
        | true => have := first_isOpen l hl (by rw [e]); rw [e] at this; simp at this; omega
      subst hO
      have := (enc_first l hl R N e hR).1
      simp only [encAll]
      rw [ih (l.drop (first l).2.1) (by simp; omega) (fun r hr => hc r (by simp [hr])), e, this]
      exact List.take_append_drop _ _

/-- A character as it is told: what has no sequence is fffd. -/
def fix (r : Int) : Nat := if 0 ≤ r ∧ r ≤ 1114111 ∧ ¬ (55296 ≤ r ∧ r ≤ 57343) then r.toNat else 65533
theorem fix_valid (r : Int) : valid (fix r) := by
  unfold fix; split
  · unfold valid; omega
  · exact valid_bad
theorem fixes_valid (l : List Int) : ∀ r ∈ l.map fix, valid r := by
  intro r hr
  obtain ⟨x, -, rfl⟩ := List.mem_map.1 hr
  exact fix_valid x
theorem fix_nat (r : Nat) (h : valid r) : fix (r : Int) = r := by
  obtain ⟨h1, h2⟩ := h
  unfold fix; rw [if_pos (by omega)]; omega
end Ru
end Go.Proofs.Ytaagljkpihecpaa
