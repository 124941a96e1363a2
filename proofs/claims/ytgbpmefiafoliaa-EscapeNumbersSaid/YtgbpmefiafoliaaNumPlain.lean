/- A control sequence's numbers, plainly. No condition beyond each theorem's own premises. -/
import Derived.Test.YtgbpmefiafoliaaPlain
namespace Go.Proofs.Ytgbpmefiafoliaa
namespace Esc
namespace Numbers
theorem upd_upd (x : Nat → Int) (k : Nat) (a b : Int) : upd (upd x k a) k b = upd x k b := by
  funext i; unfold upd; split <;> rfl
theorem upd_same (x : Nat → Int) (k : Nat) (a : Int) : upd x k a k = a := by simp [upd]
/-- In a control sequence. -/
def C (n : Int) (x : Nat → Int) : PS := ⟨2, 0, 0, n, x⟩
theorem step_digit (n : Int) (x : Nat → Int) (r : Int) (h1 : 48 ≤ r) (h2 : r ≤ 57) : step (C n x) r = (digit (C n x) r, .zero, false) := by
  unfold step
  rw [if_neg (by omega), if_neg (by omega), if_neg (by omega), if_neg (by omega), if_neg (by omega), if_neg (by simp [C]), if_neg (by simp [C]), if_pos (by simp [C])]
  unfold ctl
  rw [if_pos ⟨⟨h1, h2⟩, rfl⟩]
theorem step_sep (n : Int) (x : Nat → Int) (r : Int) (h : r = 58 ∨ r = 59) : step (C n x) r = (C (min (one n + 1) 9) x, .zero, false) := by
  unfold step
  rw [if_neg (by omega), if_neg (by omega), if_neg (by omega), if_neg (by omega), if_neg (by omega), if_neg (by simp [C]), if_neg (by simp [C]), if_pos (by simp [C])]
  unfold ctl
  rw [if_neg (by omega), if_pos ⟨h, rfl⟩]
  rfl
theorem step_last (n : Int) (x : Nat → Int) (r : Int) (h1 : 64 ≤ r) (h2 : r ≤ 126) : step (C n x) r = (.zero, ⟨4, r, 0, 0, min n 8, x⟩, true) := by
  unfold step
  rw [if_neg (by omega), if_neg (by omega), if_neg (by omega), if_neg (by omega), if_neg (by omega), if_neg (by simp [C]), if_neg (by simp [C]), if_pos (by simp [C])]
  unfold ctl
  rw [if_neg (by omega), if_neg (by omega), if_neg (by omega), if_neg (by omega), if_pos ⟨h1, h2⟩]
  rfl
theorem digit_in (n : Int) (x : Nat → Int) (j : Nat) (d : Int) (h : one n = (j : Int) + 1) (hj : j < 8) : digit (C n x) (48 + d) = C ((j : Int) + 1) (upd x j (min (x j * 10 + d) 9999)) := by
  unfold digit
  show (if one n ≤ 8 then _ else _) = _
  rw [if_pos (by omega)]
  show PS.mk 2 0 0 (one n) (upd x ((one n).toNat - 1) (min (x ((one n).toNat - 1) * 10 + (48 + d - 48)) 9999)) = _
  rw [h, show ((j : Int) + 1).toNat - 1 = j by omega, show (48 + d - 48 : Int) = d by omega]
  rfl
theorem digit_out (x : Nat → Int) (d : Int) : digit (C 9 x) (48 + d) = C 9 x := by
  unfold digit
  show (if one 9 ≤ 8 then _ else _) = _
  rw [if_neg (by decide)]
  rfl
/-- A number, written. -/
def digs (k : Int) : List Int := [48 + k / 10000 % 10, 48 + k / 1000 % 10, 48 + k / 100 % 10, 48 + k / 10 % 10, 48 + k / 1 % 10]
theorem one_succ (j : Nat) : one ((j : Int) + 1) = (j : Int) + 1 := by unfold one; omega
theorem feed_digs_in (n : Int) (x : Nat → Int) (j : Nat) (k : Int) (h : one n = (j : Int) + 1) (hj : j < 8) (hx : x j = 0) :
    feed (C n x) (digs k) = (C ((j : Int) + 1) (upd x j (min (k % 100000) 9999)), []) := by
  have s := fun (n : Int) (x : Nat → Int) (d : Int) (h0 : 0 ≤ d) (h9 : d ≤ 9) => step_digit n x (48 + d) (by omega) (by omega)
  simp only [digs, feed]
  rw [s _ _ _ (by omega) (by omega)]
  dsimp only
  rw [digit_in n x j _ h hj, s _ _ _ (by omega) (by omega)]
  dsimp only
  rw [digit_in _ _ j _ (one_succ j) hj, s _ _ _ (by omega) (by omega)]
  dsimp only
  rw [digit_in _ _ j _ (one_succ j) hj, s _ _ _ (by omega) (by omega)]
  dsimp only
  rw [digit_in _ _ j _ (one_succ j) hj, s _ _ _ (by omega) (by omega)]
  dsimp only
  rw [digit_in _ _ j _ (one_succ j) hj]
  simp only [upd_upd, upd_same, hx]
  simp only [Bool.false_eq_true, if_false, List.append_nil, Prod.mk.injEq, and_true]
  congr 2
  omega
theorem feed_digs_out (x : Nat → Int) (k : Int) : feed (C 9 x) (digs k) = (C 9 x, []) := by
  have s := fun (d : Int) (h0 : 0 ≤ d) (h9 : d ≤ 9) => step_digit 9 x (48 + d) (by omega) (by omega)
  simp only [digs, feed]
  rw [s _ (by omega) (by omega)]
  dsimp only
  rw [digit_out, s _ (by omega) (by omega)]
  dsimp only
  rw [digit_out, s _ (by omega) (by omega)]
  dsimp only
  rw [digit_out, s _ (by omega) (by omega)]
  dsimp only
  rw [digit_out, s _ (by omega) (by omega)]
  dsimp only
  rw [digit_out]
  simp
/-- What is written of so many numbers. -/
def ins (f : Nat → Int) : Nat → List Int
  | 0 => []
  | j + 1 => ins f j ++ (if j = 0 then [] else [58 + f j % 2]) ++ digs (f j)
/-- What is wanted of so many numbers. -/
def want (f : Nat → Int) (j : Nat) : Nat → Int := fun i => if i < j ∧ i < 8 then min (f i % 100000) 9999 else 0
theorem want_zero (f : Nat → Int) : want f 0 = fun _ => 0 := by funext i; simp [want]
theorem want_succ (f : Nat → Int) (j : Nat) (h : j < 8) : want f (j + 1) = upd (want f j) j (min (f j % 100000) 9999) := by
  funext i
  unfold want upd
  by_cases e : i = j
  · subst e; rw [if_pos rfl, if_pos (by omega)]
  · rw [if_neg e]
    show _ = (if i < j ∧ i < 8 then _ else _)
    by_cases c : i < j ∧ i < 8
    · rw [if_pos c, if_pos (by omega)]
    · rw [if_neg c, if_neg (by omega)]
theorem want_past (f : Nat → Int) (j : Nat) (h : 8 ≤ j) : want f (j + 1) = want f j := by
  funext i
  unfold want
  by_cases c : i < j ∧ i < 8
  · rw [if_pos c, if_pos (by omega)]
  · rw [if_neg c, if_neg (by omega)]
theorem want_at (f : Nat → Int) (j : Nat) : want f j j = 0 := by unfold want; rw [if_neg (by omega)]
theorem feed_ins (f : Nat → Int) (hf : ∀ i, 0 ≤ f i) (j : Nat) : feed (C 0 fun _ => 0) (ins f j) = (C (min (j : Int) 9) (want f j), []) := by
  induction j with
  | zero => rw [want_zero]; rfl
  | succ j ih =>
    have hs : feed (C 0 fun _ => 0) (ins f j ++ (if j = 0 then [] else [58 + f j % 2])) = (C (if j = 0 then 0 else min ((j : Int) + 1) 9) (want f j), []) := by
      rw [feed_append, ih]
      by_cases h0 : j = 0
      · subst h0; simp [feed]; rfl
      · have hm := hf j
        rw [if_neg h0, if_neg h0]
        simp only [feed]
        rw [step_sep _ _ _ (by omega)]
        dsimp only
        rw [show min (one (min (j : Int) 9) + 1) 9 = min ((j : Int) + 1) 9 by unfold one; omega]
        simp
    simp only [ins]
    rw [feed_append, hs]
    dsimp only
    by_cases h8 : j < 8
    · rw [feed_digs_in _ _ j (f j) (by unfold one; split <;> omega) h8 (want_at f j), want_succ f j h8, show min (((j + 1 : Nat) : Int)) 9 = (j : Int) + 1 by omega]
      simp
    · rw [if_neg (by omega), show min ((j : Int) + 1) 9 = 9 by omega, feed_digs_out _ _, want_past f j (by omega), show min (((j + 1 : Nat) : Int)) 9 = 9 by omega]
      simp
theorem feed_start (r : List Int) : feed .zero (27 :: 91 :: r) = feed (C 0 fun _ => 0) r := by
  have h1 : step .zero 27 = ({ PS.zero with inn := 1 }, .zero, false) := by unfold step; rw [if_pos rfl]
  have h2 : step { PS.zero with inn := 1 } 91 = ({ PS.zero with inn := 2 }, .zero, false) := by rfl
  simp only [feed, h1, h2]
  simp
  rfl
/-- What the numbers tell. -/
theorem told (f : Nat → Int) (hf : ∀ i, 0 ≤ f i) (j : Nat) : feed .zero ([27, 91] ++ ins f j) = (C (min (j : Int) 9) (want f j), []) := by
  show feed .zero (27 :: 91 :: ins f j) = _
  rw [feed_start, feed_ins f hf j]
theorem ins_len (f : Nat → Int) (j : Nat) : (ins f j).length ≤ 6 * j := by
  induction j with
  | zero => simp [ins]
  | succ j ih => simp only [ins, List.length_append, digs, List.length_cons, List.length_nil]; split <;> simp <;> omega
end Numbers
end Esc
end Go.Proofs.Ytgbpmefiafoliaa
