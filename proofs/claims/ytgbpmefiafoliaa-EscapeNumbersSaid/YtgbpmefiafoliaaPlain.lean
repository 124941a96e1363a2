/- A parser of escapes, plainly: no program in sight. No condition beyond each theorem's own premises. -/
import Derived.WalkKit
namespace Go.Proofs.Ytgbpmefiafoliaa
open Go.RowKit
namespace Esc

/-- A parser. -/
structure PS where
  inn : Int
  priv : Int
  mid : Int
  n : Int
  x : Nat → Int
def PS.zero : PS := ⟨0, 0, 0, 0, fun _ => 0⟩
/-- An act. -/
structure AC where
  kind : Int
  r : Int
  priv : Int
  mid : Int
  n : Int
  x : Nat → Int
def AC.zero : AC := ⟨0, 0, 0, 0, 0, fun _ => 0⟩
def AC.of (kind r mid : Int) : AC := ⟨kind, r, 0, mid, 0, fun _ => 0⟩

def PS.list (s : PS) : List Value := [.int .i64 s.inn, .int .u8 s.priv, .int .u8 s.mid, .int .i64 s.n, .int .i64 (s.x 0), .int .i64 (s.x 1), .int .i64 (s.x 2), .int .i64 (s.x 3), .int .i64 (s.x 4), .int .i64 (s.x 5), .int .i64 (s.x 6), .int .i64 (s.x 7)]
def AC.list (a : AC) : List Value := [.int .i64 a.kind, .int .i32 a.r, .int .u8 a.priv, .int .u8 a.mid, .int .i64 a.n, .int .i64 (a.x 0), .int .i64 (a.x 1), .int .i64 (a.x 2), .int .i64 (a.x 3), .int .i64 (a.x 4), .int .i64 (a.x 5), .int .i64 (a.x 6), .int .i64 (a.x 7)]
def PS.cells (s : PS) : Array Value := s.list.toArray
def AC.cells (a : AC) : Array Value := a.list.toArray

def upd (x : Nat → Int) (k : Nat) (v : Int) : Nat → Int := fun i => if i = k then v else x i

def esc (s : PS) (r : Int) : PS × AC × Bool :=
  if r ≤ 47 ∧ s.mid = 0 then ({ s with mid := r }, .zero, false)
  else if r ≤ 47 then ({ s with mid := 255 }, .zero, false)
  else if r = 91 ∧ s.mid = 0 then ({ PS.zero with inn := 2 }, .zero, false)
  else if (r = 80 ∨ r = 88 ∨ 93 ≤ r ∧ r ≤ 95) ∧ s.mid = 0 then ({ PS.zero with inn := 4 }, .zero, false)
  else if r ≤ 126 ∧ s.mid ≠ 255 then (.zero, .of 3 r s.mid, true)
  else (.zero, .zero, false)

/-- At most one. -/
def one (n : Int) : Int := max n 1
def digit (s : PS) (r : Int) : PS :=
  if one s.n ≤ 8 then { s with n := one s.n, x := upd s.x ((one s.n).toNat - 1) (min (s.x ((one s.n).toNat - 1) * 10 + (r - 48)) 9999) } else { s with n := one s.n }

def ctl (s : PS) (r : Int) : PS × AC × Bool :=
  if (48 ≤ r ∧ r ≤ 57) ∧ s.mid = 0 then (digit s r, .zero, false)
  else if (r = 58 ∨ r = 59) ∧ s.mid = 0 then ({ s with n := min (one s.n + 1) 9 }, .zero, false)
  else if (60 ≤ r ∧ r ≤ 63) ∧ s.priv = 0 ∧ s.mid = 0 ∧ s.n = 0 then ({ s with priv := r }, .zero, false)
  else if r ≤ 47 ∧ s.mid = 0 then ({ s with mid := r }, .zero, false)
  else if 64 ≤ r ∧ r ≤ 126 then (.zero, ⟨4, r, s.priv, s.mid, min s.n 8, s.x⟩, true)
  else ({ PS.zero with inn := 3 }, .zero, false)

/-- A character is taken. -/
def step (s : PS) (r : Int) : PS × AC × Bool :=
  if r = 27 then ({ PS.zero with inn := 1 }, .zero, false)
  else if r = 24 ∨ r = 26 then (.zero, .zero, false)
  else if r < 0 ∨ (127 ≤ r ∧ r ≤ 159) ∨ 1114111 < r then (s, .zero, false)
  else if r < 32 ∧ s.inn = 4 then (if r = 7 then .zero else s, .zero, false)
  else if r < 32 then (s, .of 2 r 0, true)
  else if s.inn = 0 then (s, .of 1 r 0, true)
  else if s.inn = 1 then esc s r
  else if s.inn = 2 then ctl s r
  else if s.inn = 3 then (if 64 ≤ r ∧ r ≤ 126 then .zero else s, .zero, false)
  else (s, .zero, false)

/-- What a parser is at all times. -/
structure PS.Ok (s : PS) : Prop where
  inn : 0 ≤ s.inn ∧ s.inn ≤ 4
  n : 0 ≤ s.n ∧ s.n ≤ 9
  x : ∀ i, 0 ≤ s.x i ∧ s.x i ≤ 9999
  out : ∀ i : Nat, s.n ≤ i → s.x i = 0
  eight : ∀ i : Nat, 8 ≤ i → s.x i = 0
  priv : 0 ≤ s.priv ∧ s.priv ≤ 255
  mid : 0 ≤ s.mid ∧ s.mid ≤ 255
/-- What an act is at all times. -/
structure AC.Ok (a : AC) (b : Bool) (c : Int) : Prop where
  told : b = decide (a.kind ≠ 0)
  kind : 0 ≤ a.kind ∧ a.kind ≤ 4
  n : 0 ≤ a.n ∧ a.n ≤ 8
  csi : a.kind ≠ 4 → a.n = 0
  r : b = true → a.r = c
  x : ∀ i, 0 ≤ a.x i ∧ a.x i ≤ 9999
  out : ∀ i : Nat, a.n ≤ i → a.x i = 0

theorem PS.zero_ok : PS.zero.Ok := ⟨by simp [PS.zero], by simp [PS.zero], fun _ => by simp [PS.zero], fun _ _ => rfl, fun _ _ => rfl, by simp [PS.zero], by simp [PS.zero]⟩
theorem PS.in_ok (k : Int) (h0 : 0 ≤ k) (h4 : k ≤ 4) : PS.Ok { PS.zero with inn := k } := ⟨⟨h0, h4⟩, PS.zero_ok.n, PS.zero_ok.x, PS.zero_ok.out, PS.zero_ok.eight, PS.zero_ok.priv, PS.zero_ok.mid⟩
theorem AC.zero_ok (r : Int) : AC.zero.Ok false r := ⟨by simp [AC.zero], by simp [AC.zero], by simp [AC.zero], fun _ => rfl, (fun h => by cases h), fun _ => by simp [AC.zero], fun _ _ => rfl⟩
theorem AC.of_ok (k r m : Int) (h0 : 1 ≤ k) (h4 : k ≤ 3) : (AC.of k r m).Ok true r :=
  ⟨by rw [eq_comm, decide_eq_true_eq]; show k ≠ 0; omega, ⟨by show 0 ≤ k; omega, by show k ≤ 4; omega⟩, by simp [AC.of], fun _ => rfl, fun _ => rfl, fun _ => by simp [AC.of], fun _ _ => rfl⟩

theorem esc_ok (s : PS) (r : Int) (h : s.Ok) (h32 : 32 ≤ r) : (esc s r).1.Ok ∧ (esc s r).2.1.Ok (esc s r).2.2 r := by
  unfold esc
  split
  · exact ⟨⟨h.inn, h.n, h.x, h.out, h.eight, h.priv, ⟨by simp; omega, by simp; omega⟩⟩, AC.zero_ok r⟩
  · split
    · exact ⟨⟨h.inn, h.n, h.x, h.out, h.eight, h.priv, by simp⟩, AC.zero_ok r⟩
    · split
      · exact ⟨PS.in_ok 2 (by decide) (by decide), AC.zero_ok r⟩
      · split
        · exact ⟨PS.in_ok 4 (by decide) (by decide), AC.zero_ok r⟩
        · split
          · exact ⟨PS.zero_ok, AC.of_ok 3 r s.mid (by decide) (by decide)⟩
          · exact ⟨PS.zero_ok, AC.zero_ok r⟩

theorem one_bd (n : Int) (h0 : 0 ≤ n) (h9 : n ≤ 9) : 1 ≤ one n ∧ one n ≤ 9 ∧ n ≤ one n := by unfold one; omega
theorem digit_ok (s : PS) (r : Int) (h : s.Ok) (h1 : 48 ≤ r) (h2 : r ≤ 57) : (digit s r).Ok := by
  have hb := one_bd s.n h.n.1 h.n.2
  unfold digit
  split
  · rename_i h8
    refine ⟨h.inn, ⟨by show 0 ≤ one s.n; omega, by show one s.n ≤ 9; omega⟩, fun i => ?_, fun i hi => ?_, fun i hi => ?_, h.priv, h.mid⟩
    · have := h.x i
      have := h.x ((one s.n).toNat - 1)
      show 0 ≤ upd _ _ _ i ∧ upd _ _ _ i ≤ 9999
      unfold upd; split <;> omega
    · have hi' : one s.n ≤ i := hi
      show upd _ _ _ i = 0
      unfold upd
      rw [if_neg (by omega)]
      exact h.out i (by omega)
    · show upd _ _ _ i = 0
      unfold upd
      rw [if_neg (by omega)]
      exact h.eight i hi
  · exact ⟨h.inn, ⟨by show 0 ≤ one s.n; omega, by show one s.n ≤ 9; omega⟩, h.x, fun i hi => h.out i (by have hi' : one s.n ≤ i := hi; omega), h.eight, h.priv, h.mid⟩

theorem ctl_ok (s : PS) (r : Int) (h : s.Ok) (h32 : 32 ≤ r) : (ctl s r).1.Ok ∧ (ctl s r).2.1.Ok (ctl s r).2.2 r := by
  have hb := one_bd s.n h.n.1 h.n.2
  unfold ctl
  split
  · rename_i hc
    exact ⟨digit_ok s r h hc.1.1 hc.1.2, AC.zero_ok r⟩
  · split
    · refine ⟨⟨h.inn, ⟨by simp; omega, by simp; omega⟩, h.x, fun i hi => h.out i ?_, h.eight, h.priv, h.mid⟩, AC.zero_ok r⟩
      have hi' : min (one s.n + 1) 9 ≤ i := hi
      have := h.n
      omega
    · split
      · exact ⟨⟨h.inn, h.n, h.x, h.out, h.eight, ⟨by simp; omega, by simp; omega⟩, h.mid⟩, AC.zero_ok r⟩
      · split
        · exact ⟨⟨h.inn, h.n, h.x, h.out, h.eight, h.priv, ⟨by simp; omega, by simp; omega⟩⟩, AC.zero_ok r⟩
        · split
          · refine ⟨PS.zero_ok, ⟨by simp, by simp, ⟨by have := h.n; simp; omega, by simp; omega⟩, fun hk => absurd rfl hk, fun _ => rfl, h.x, fun i hi => ?_⟩⟩
            have hi' : min s.n 8 ≤ i := hi
            by_cases h8 : 8 ≤ i
            · exact h.eight i h8
            · exact h.out i (by omega)
          · exact ⟨PS.in_ok 3 (by decide) (by decide), AC.zero_ok r⟩

theorem step_ok (s : PS) (r : Int) (h : s.Ok) : (step s r).1.Ok ∧ (step s r).2.1.Ok (step s r).2.2 r := by
  unfold step
  split
  · exact ⟨PS.in_ok 1 (by decide) (by decide), AC.zero_ok r⟩
  · split
    · exact ⟨PS.zero_ok, AC.zero_ok r⟩
    · split
      · exact ⟨h, AC.zero_ok r⟩
      · split
        · refine ⟨?_, AC.zero_ok r⟩
          show PS.Ok (if r = 7 then _ else _)
          split
          · exact PS.zero_ok
          · exact h
        · split
          · exact ⟨h, AC.of_ok 2 r 0 (by decide) (by decide)⟩
          · split
            · exact ⟨h, AC.of_ok 1 r 0 (by decide) (by decide)⟩
            · split
              · exact esc_ok s r h (by omega)
              · split
                · exact ctl_ok s r h (by omega)
                · split
                  · refine ⟨?_, AC.zero_ok r⟩
                    show PS.Ok (if _ then _ else _)
                    split
                    · exact PS.zero_ok
                    · exact h
                  · exact ⟨h, AC.zero_ok r⟩

/-- All characters are taken. -/
def feed : PS → List Int → PS × List AC
  | s, [] => (s, [])
  | s, r :: l => ((feed (step s r).1 l).1, (if (step s r).2.2 then [(step s r).2.1] else []) ++ (feed (step s r).1 l).2)
theorem feed_append (s : PS) (l m : List Int) : feed s (l ++ m) = ((feed (feed s l).1 m).1, (feed s l).2 ++ (feed (feed s l).1 m).2) := by
  induction l generalizing s with
  | nil => simp [feed]
  | cons r l ih => simp [feed, ih]
theorem feed_snoc (s : PS) (l : List Int) (r : Int) : feed s (l ++ [r]) = ((step (feed s l).1 r).1, (feed s l).2 ++ if (step (feed s l).1 r).2.2 then [(step (feed s l).1 r).2.1] else []) := by
  rw [feed_append]; simp [feed]
theorem feed_ok (s : PS) (l : List Int) (h : s.Ok) : (feed s l).1.Ok := by
  induction l generalizing s with
  | nil => exact h
  | cons r l ih => exact ih _ (step_ok s r h).1
theorem feed_len (s : PS) (l : List Int) : (feed s l).2.length ≤ l.length := by
  induction l generalizing s with
  | nil => simp [feed]
  | cons r l ih =>
    have := ih (step s r).1
    simp only [feed, List.length_append, List.length_cons]
    split <;> simp <;> omega
end Esc
end Go.Proofs.Ytgbpmefiafoliaa
