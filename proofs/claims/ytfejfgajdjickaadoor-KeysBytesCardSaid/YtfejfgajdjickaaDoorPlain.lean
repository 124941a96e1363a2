/- What a reader of keys does, plainly: no program here. No condition. -/
import Derived.WalkKit
import Derived.Lib.Bytealg
namespace Go.Proofs.YtfejfgajdjickaaDoor
namespace Keys
/-- A key. -/
structure K where
  kind : Int
  n : Int
  s : List UInt8
deriving DecidableEq
def behind : List UInt8 := [37, 34, 111, 120, 99, 110, 112, 100, 91, 49, 50, 51, 52, 53, 54, 55, 56, 57, 104, 108, 107, 106]
def behindM : List (Int × Int) := [(2, 0), (3, 0), (4, 0), (5, 0), (6, 0), (7, 0), (8, 0), (13, 0), (14, 0), (9, 1), (9, 2), (9, 3), (9, 4), (9, 5), (9, 6), (9, 7), (9, 8), (9, 9), (10, 1), (10, 2), (10, 3), (10, 4)]
def copied : List UInt8 := [107, 106, 117, 100, 103, 71, 113]
def copiedM : List (Int × Int) := [(11, 1), (11, -1), (11, 10), (11, -10), (11, 1000), (11, -1000), (12, 0)]
/-- The reader, what it told, what it read of a text. -/
structure St where
  c : Bool
  p : Bool
  ks : List K
  tx : List UInt8
def St.new (c p : Bool) : St := ⟨c, p, [], []⟩
def St.ends (s : St) : St := if s.tx = [] then s else ⟨s.c, s.p, s.ks ++ [⟨1, 0, s.tx⟩], []⟩
def after (kind : Int) (c : Bool) : Bool := if kind = 14 then true else if kind = 12 then false else c
def St.tell (s : St) (m : Int × Int) : St := ⟨after m.1 s.ends.c, s.ends.p, s.ends.ks ++ [⟨m.1, m.2, []⟩], s.ends.tx⟩
def St.off (s : St) : St := ⟨s.c, false, s.ks, s.tx⟩
def St.add (s : St) (b : UInt8) : St := ⟨s.c, s.p, s.ks, s.tx ++ [b]⟩
def step (s : St) (b : UInt8) : St :=
  if s.p then
    if b = 2 then s.off.add b
    else if 0 ≤ Lib.indexByte behind b then s.off.tell (behindM.getD (Lib.indexByte behind b).toNat (0, 0)) else s.off
  else if b = 2 then ⟨s.ends.c, true, s.ends.ks, s.ends.tx⟩
  else if s.c then
    if 0 ≤ Lib.indexByte copied b then s.tell (copiedM.getD (Lib.indexByte copied b).toNat (0, 0)) else s
  else s.add b
def run (s : St) (l : List UInt8) : St := l.foldl step s
def feed (c p : Bool) (l : List UInt8) : St := (run (.new c p) l).ends

theorem step_behind (s : St) (b : UInt8) (i : Nat) (hp : s.p = true) (hb : ¬ b = 2) (hie : Lib.indexByte behind b = (i : Int)) : step s b = s.off.tell (behindM.getD i (0, 0)) := by
  have h : 0 ≤ Lib.indexByte behind b := by omega
  simp only [step, hp, hb, h, if_true, if_false]
  rw [hie]; rfl
theorem step_behind_no (s : St) (b : UInt8) (hp : s.p = true) (hb : ¬ b = 2) (h : ¬ 0 ≤ Lib.indexByte behind b) : step s b = s.off := by
  simp only [step, hp, hb, h, if_true, if_false]
theorem step_copied (s : St) (b : UInt8) (i : Nat) (hp : s.p = false) (hc : s.c = true) (hb : ¬ b = 2) (hie : Lib.indexByte copied b = (i : Int)) : step s b = s.tell (copiedM.getD i (0, 0)) := by
  have h : 0 ≤ Lib.indexByte copied b := by omega
  simp only [step, hp, hb, hc, h, if_true, if_false, Bool.false_eq_true]
  rw [hie]; rfl
theorem step_copied_no (s : St) (b : UInt8) (hp : s.p = false) (hc : s.c = true) (hb : ¬ b = 2) (h : ¬ 0 ≤ Lib.indexByte copied b) : step s b = s := by
  simp only [step, hp, hb, hc, h, if_true, if_false, Bool.false_eq_true]

theorem run_snoc (s : St) (l : List UInt8) (b : UInt8) : run s (l ++ [b]) = step (run s l) b := by simp [run]
theorem run_append (s : St) (l m : List UInt8) : run s (l ++ m) = run (run s l) m := by simp [run]

/-- Each text is parted into its bytes. -/
def one (b : UInt8) : K := ⟨1, 0, [b]⟩
def K.flat (k : K) : List K := (if k.kind ≠ 1 then [k] else []) ++ k.s.map one
def flat (l : List K) : List K := l.flatMap K.flat
theorem flat_append (a b : List K) : flat (a ++ b) = flat a ++ flat b := by simp [flat]
theorem flat_one (k : K) : flat [k] = k.flat := by simp [flat]
def St.F (s : St) : List K := flat s.ks ++ s.tx.map one

@[simp] theorem ends_c (s : St) : s.ends.c = s.c := by unfold St.ends; split <;> rfl
@[simp] theorem ends_p (s : St) : s.ends.p = s.p := by unfold St.ends; split <;> rfl
@[simp] theorem ends_tx (s : St) : s.ends.tx = [] := by unfold St.ends; split <;> simp_all
@[simp] theorem ends_F (s : St) : s.ends.F = s.F := by
  unfold St.ends
  split
  · rfl
  · simp [St.F, flat_append, flat_one, K.flat]
theorem ends_flat (s : St) : flat s.ends.ks = s.F := by
  have := ends_F s
  simpa [St.F] using this

/-- What a byte means, and how the reader goes on. -/
def tok (c p : Bool) (b : UInt8) : List K :=
  if p then
    if b = 2 then [one b]
    else if 0 ≤ Lib.indexByte behind b then K.flat ⟨(behindM.getD (Lib.indexByte behind b).toNat (0, 0)).1, (behindM.getD (Lib.indexByte behind b).toNat (0, 0)).2, []⟩ else []
  else if b = 2 then []
  else if c then
    if 0 ≤ Lib.indexByte copied b then K.flat ⟨(copiedM.getD (Lib.indexByte copied b).toNat (0, 0)).1, (copiedM.getD (Lib.indexByte copied b).toNat (0, 0)).2, []⟩ else []
  else [one b]
def nc (c p : Bool) (b : UInt8) : Bool :=
  if p then if b = 2 then c else if 0 ≤ Lib.indexByte behind b then after (behindM.getD (Lib.indexByte behind b).toNat (0, 0)).1 c else c
  else if b = 2 then c
  else if c then if 0 ≤ Lib.indexByte copied b then after (copiedM.getD (Lib.indexByte copied b).toNat (0, 0)).1 c else c
  else c
def np (p : Bool) (b : UInt8) : Bool := if p then false else decide (b = 2)

theorem off_F (s : St) : s.off.F = s.F := rfl
theorem add_F (s : St) (b : UInt8) : (s.add b).F = s.F ++ [one b] := by simp [St.F, St.add]
theorem tell_F (s : St) (m : Int × Int) : (s.tell m).F = s.F ++ K.flat ⟨m.1, m.2, []⟩ := by
  simp [St.F, St.tell, flat_append, flat_one, ends_flat]
theorem step_F (s : St) (b : UInt8) : (step s b).F = s.F ++ tok s.c s.p b ∧ (step s b).c = nc s.c s.p b ∧ (step s b).p = np s.p b := by
  cases hp : s.p with
  | true =>
    by_cases hb : b = 2
    · have e : step s b = s.off.add b := by simp [step, hp, hb]
      rw [e, add_F, off_F]
      refine ⟨?_, ?_, ?_⟩ <;> simp [tok, nc, np, hb, St.add, St.off]
    · by_cases hi : 0 ≤ Lib.indexByte behind b
      · have e : step s b = s.off.tell (behindM.getD (Lib.indexByte behind b).toNat (0, 0)) := by simp only [step, hp, hb, hi, if_true, if_false]
        rw [e, tell_F, off_F]
        refine ⟨?_, ?_, ?_⟩
        · simp only [tok, hb, hi, if_true, if_false]
        · simp only [nc, hb, hi, if_true, if_false, St.tell, ends_c]; rfl
        · simp [np, St.tell, St.off]
      · have e : step s b = s.off := by simp only [step, hp, hb, hi, if_true, if_false]
        rw [e, off_F]
        refine ⟨?_, ?_, ?_⟩
        · simp only [tok, hb, hi, if_true, if_false, List.append_nil]
        · simp only [nc, hb, hi, if_true, if_false]; rfl
        · simp [np, St.off]
  | false =>
    by_cases hb : b = 2
    · have e : step s b = ⟨s.ends.c, true, s.ends.ks, s.ends.tx⟩ := by simp [step, hp, hb]
      have h2 : St.F ⟨s.ends.c, true, s.ends.ks, s.ends.tx⟩ = s.F := ends_F s
      rw [e, h2]
      refine ⟨?_, ?_, ?_⟩ <;> simp [tok, nc, np, hb]
    · cases hc : s.c with
      | true =>
        by_cases hi : 0 ≤ Lib.indexByte copied b
        · have e : step s b = s.tell (copiedM.getD (Lib.indexByte copied b).toNat (0, 0)) := by simp only [step, hp, hb, hi, hc, if_true, if_false, Bool.false_eq_true]
          rw [e, tell_F]
          refine ⟨?_, ?_, ?_⟩
          · simp only [tok, hb, hi, if_true, if_false, Bool.false_eq_true]
          · simp only [nc, hb, hi, if_true, if_false, Bool.false_eq_true, St.tell, ends_c, hc]
          · simp [np, St.tell, hp, hb]
        · have e : step s b = s := by simp only [step, hp, hb, hi, hc, if_true, if_false, Bool.false_eq_true]
          rw [e]
          refine ⟨?_, ?_, ?_⟩
          · simp only [tok, hb, hi, if_true, if_false, Bool.false_eq_true, List.append_nil]
          · simp only [nc, hb, hi, if_true, if_false, Bool.false_eq_true, hc]
          · simp [np, hp, hb]
      | false =>
        have e : step s b = s.add b := by simp [step, hp, hb, hc]
        rw [e, add_F]
        refine ⟨?_, ?_, ?_⟩
        · simp [tok, hb]
        · simp [nc, hb, St.add, hc]
        · simp [np, St.add, hp, hb]

/-- What bytes mean, of a reader that stands so. -/
def toks : Bool → Bool → List UInt8 → List K
  | _, _, [] => []
  | c, p, b :: l => tok c p b ++ toks (nc c p b) (np p b) l
def goC : Bool → Bool → List UInt8 → Bool
  | c, _, [] => c
  | c, p, b :: l => goC (nc c p b) (np p b) l
def goP : Bool → List UInt8 → Bool
  | p, [] => p
  | p, b :: l => goP (np p b) l
theorem toks_append (c p : Bool) (l m : List UInt8) : toks c p (l ++ m) = toks c p l ++ toks (goC c p l) (goP p l) m := by
  induction l generalizing c p with
  | nil => rfl
  | cons b l ih => simp [toks, goC, goP, ih]
theorem goC_append (c p : Bool) (l m : List UInt8) : goC c p (l ++ m) = goC (goC c p l) (goP p l) m := by
  induction l generalizing c p with
  | nil => rfl
  | cons b l ih => simp [goC, goP, ih]
theorem goP_append (p : Bool) (l m : List UInt8) : goP p (l ++ m) = goP (goP p l) m := by
  induction l generalizing p with
  | nil => rfl
  | cons b l ih => simp [goP, ih]
theorem run_F (s : St) (l : List UInt8) : (run s l).F = s.F ++ toks s.c s.p l ∧ (run s l).c = goC s.c s.p l ∧ (run s l).p = goP s.p l := by
  induction l generalizing s with
  | nil => simp [run, toks, goC, goP]
  | cons b l ih =>
    obtain ⟨h1, h2, h3⟩ := step_F s b
    have := ih (step s b)
    simp only [run, List.foldl_cons] at this ⊢
    rw [h1, h2, h3] at this
    simpa [toks, goC, goP] using this
theorem feed_flat (c p : Bool) (l : List UInt8) : flat (feed c p l).ks = toks c p l ∧ (feed c p l).c = goC c p l ∧ (feed c p l).p = goP p l := by
  obtain ⟨h1, h2, h3⟩ := run_F (.new c p) l
  refine ⟨?_, ?_, ?_⟩
  · rw [feed, ends_flat, h1]; simp [St.new, St.F, flat]
  · rw [feed, ends_c, h2]; rfl
  · rw [feed, ends_p, h3]; rfl
/-- P13.3. -/
theorem parted (c p : Bool) (l m : List UInt8) :
    flat (feed c p (l ++ m)).ks = flat ((feed c p l).ks ++ (feed (feed c p l).c (feed c p l).p m).ks) ∧
    (feed c p (l ++ m)).c = (feed (feed c p l).c (feed c p l).p m).c ∧ (feed c p (l ++ m)).p = (feed (feed c p l).c (feed c p l).p m).p := by
  obtain ⟨h1, h2, h3⟩ := feed_flat c p (l ++ m)
  obtain ⟨a1, a2, a3⟩ := feed_flat c p l
  obtain ⟨b1, b2, b3⟩ := feed_flat (feed c p l).c (feed c p l).p m
  refine ⟨?_, ?_, ?_⟩
  · rw [h1, flat_append, a1, b1, a2, a3, toks_append]
  · rw [h2, b2, a2, a3, goC_append]
  · rw [h3, b3, a3, goP_append]

/-- How many. -/
theorem ends_len (s : St) : s.ends.ks.length ≤ s.ks.length + 1 ∧ s.ks.length ≤ s.ends.ks.length := by unfold St.ends; split <;> simp
theorem step_len (s : St) (b : UInt8) : (step s b).ks.length ≤ s.ks.length + 2 ∧ (step s b).tx.length ≤ s.tx.length + 1 := by
  have h1 := ends_len s
  have h2 := ends_len s.off
  have h3 : s.off.ks = s.ks := rfl
  have h4 : s.off.tx = s.tx := rfl
  rw [h3] at h2
  unfold step
  split
  · split
    · simp [St.add, h3, h4]
    · split
      · simp [St.tell]; omega
      · simp [h3, h4]
  · split
    · simp; omega
    · split
      · split
        · simp [St.tell]; omega
        · simp
      · simp [St.add]
theorem run_len (s : St) (l : List UInt8) : (run s l).ks.length ≤ s.ks.length + 2 * l.length ∧ (run s l).tx.length ≤ s.tx.length + l.length := by
  induction l generalizing s with
  | nil => simp [run]
  | cons b l ih =>
    have h := step_len s b
    have := ih (step s b)
    simp only [run, List.foldl_cons, List.length_cons] at this ⊢
    omega
theorem feed_len (c p : Bool) (l : List UInt8) : (feed c p l).ks.length ≤ 2 * l.length + 1 := by
  have h := run_len (.new c p) l
  have h2 := ends_len (run (.new c p) l)
  simp [St.new] at h
  unfold feed
  simp only [St.new] at h2 ⊢
  omega
theorem tok_len (c p : Bool) (b : UInt8) : (tok c p b).length ≤ 1 := by
  unfold tok
  repeat' split
  all_goals first | simp [K.flat] | skip
  all_goals (split <;> simp)
theorem toks_len (c p : Bool) (l : List UInt8) : (toks c p l).length ≤ l.length := by
  induction l generalizing c p with
  | nil => simp [toks]
  | cons b l ih =>
    have h := tok_len c p b
    have := ih (nc c p b) (np p b)
    simp [toks]
    omega
end Keys
end Go.Proofs.YtfejfgajdjickaaDoor
