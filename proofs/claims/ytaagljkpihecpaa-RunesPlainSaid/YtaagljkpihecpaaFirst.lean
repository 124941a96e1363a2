/- 'first' of package runes: the first character of a text. No condition beyond the theorem's own premises. -/
import Derived.Test.YtaagljkpihecpaaRows
import Derived.Test.YtaagljkpihecpaaPlain
import Derived.Test.YtaagljkpihecpaaSrc
import Derived.Test.YtaagljkpihecpaaMask
import Derived.BigQuiet
import Derived.Deep.QuietTactic
import Derived.WalkSpells
import Derived.Handy
namespace Go.Proofs.Ytaagljkpihecpaa
open Go.RowKit
namespace Ru

/-- A text's bytes. -/
def nb (s : ByteArray) : List Nat := s.data.toList.map UInt8.toNat
theorem nb_length (s : ByteArray) : (nb s).length = s.size := by simp [nb]
theorem nb_cons (s : ByteArray) (hs : 0 < s.size) : nb s = s[0].toNat :: (nb s).drop 1 := by
  have e : s.data.toList = s.data.toList[0]'(by simpa using hs) :: s.data.toList.drop 1 := by
    conv => lhs; rw [← List.drop_zero (l := s.data.toList)]
    rw [List.drop_eq_getElem_cons (by simpa using hs)]
  unfold nb
  rw [e]
  rfl
theorem nb_drop (s : ByteArray) (k : Nat) (hk : k < s.size) : (nb s).drop k = s[k].toNat :: (nb s).drop (k + 1) := by
  rw [List.drop_eq_getElem_cons (by simpa [nb] using hk)]
  simp [nb]
  rfl
theorem nb_end (s : ByteArray) : (nb s).drop s.size = [] := by
  apply List.drop_eq_nil_of_le; simp [nb]

/-- How great what is gathered can be, with so many bytes to come. -/
def lim (m : Nat) : Nat := match m with | 0 => 2097152 | 1 => 32768 | 2 => 512 | _ => 8
theorem lim_le (m : Nat) : lim m ≤ 2097152 := by unfold lim; split <;> omega
theorem lim_step {m acc b : Nat} (hm : m ≤ 2) (h : acc < lim (m + 1)) : acc * 64 + b % 64 < lim m := by
  match m, hm with
  | 0, _ => simp [lim] at h ⊢; omega
  | 1, _ => simp [lim] at h ⊢; omega
  | 2, _ => simp [lim] at h ⊢; omega
theorem run_zero (lo hi acc sz : Nat) (l : List Nat) : run 0 lo hi acc sz l = (acc, sz, false) := rfl
theorem run_open (m lo hi acc sz : Nat) : run (m + 1) lo hi acc sz [] = (65533, sz, true) := rfl
theorem run_low {m lo hi acc sz b : Nat} {l : List Nat} (h : b < lo) : run (m + 1) lo hi acc sz (b :: l) = (65533, sz, false) := by simp [run, h]
theorem run_high {m lo hi acc sz b : Nat} {l : List Nat} (h : hi < b) : run (m + 1) lo hi acc sz (b :: l) = (65533, sz, false) := by simp [run, h]
theorem run_in {m lo hi acc sz b : Nat} {l : List Nat} (h : ¬ b < lo) (h2 : ¬ hi < b) : run (m + 1) lo hi acc sz (b :: l) = run m 128 191 (acc * 64 + b % 64) (sz + 1) l := by simp [run, h, h2]
theorem first_kind {h : Nat} {t : List Nat} {k : Nat} (hk : kind h = k) (h0 : k ≠ 0) (h4 : k ≠ 4) : first (h :: t) = run k (least h) (most h) (init h) 1 t := by
  simp [first, hk, h0, h4]

def Says (s : ByteArray) (w : World) (e : Ending) (w' : World) : Prop :=
  e = .returned (.tuple #[.int .i32 ((first (nb s)).1 : Int), .int .i64 ((first (nb s)).2.1 : Int), .bool (first (nb s)).2.2]) ∧ w = w'

set_option maxRecDepth 100000 in
theorem first_plain (s : ByteArray) (w : World) (hs : 0 < s.size) (c : s[0].toNat ≤ 127) : Calls Try.prog 31 #[.string s] w (Says s w) := by
  have hf : first (nb s) = (s[0].toNat, 1, false) := by rw [nb_cons s hs]; simp [first, kind, c]
  have HF := Lib.hid hf
  clear hf
  go_enter Try.func31, Try.ntmps31
  go_wp2
  go_returns
  exact ⟨by rw [HF.out]; rfl, rfl⟩

set_option maxRecDepth 100000 in
theorem first_none (s : ByteArray) (w : World) (hs : 0 < s.size) (c : 128 ≤ s[0].toNat ∧ s[0].toNat ≤ 193 ∨ 245 ≤ s[0].toNat) : Calls Try.prog 31 #[.string s] w (Says s w) := by
  have hf : first (nb s) = (65533, 1, false) := by
    have hk : kind s[0].toNat = 4 := by unfold kind; repeat (first | rw [if_pos (by omega)] | rw [if_neg (by omega)])
    rw [nb_cons s hs]; simp [first, hk]
  have HF := Lib.hid hf
  clear hf
  rcases c with c | c
  · obtain ⟨c1, c2⟩ := c
    go_enter Try.func31, Try.ntmps31
    go_wp2
    go_returns
    exact ⟨by rw [HF.out]; rfl, rfl⟩
  · go_enter Try.func31, Try.ntmps31
    go_wp2
    go_returns
    exact ⟨by rw [HF.out]; rfl, rfl⟩

set_option maxRecDepth 100000 in
theorem first_1 (s : ByteArray) (w : World) (hs : 0 < s.size) (hm : s.size ≤ 1000000) (c1 : 194 ≤ s[0].toNat) (c2 : s[0].toNat ≤ 223) : Calls Try.prog 31 #[.string s] w (Says s w) := by
  have hf : first (nb s) = run 1 128 191 (s[0].toNat % 32) 1 ((nb s).drop 1) := by
    have hk : kind s[0].toNat = 1 := by unfold kind; repeat (first | rw [if_pos (by omega)] | rw [if_neg (by omega)])
    have h1 : least s[0].toNat = 128 := by unfold least; repeat (first | rw [if_pos (by omega)] | rw [if_neg (by omega)])
    have h2 : most s[0].toNat = 191 := by unfold most; repeat (first | rw [if_pos (by omega)] | rw [if_neg (by omega)])
    have h3 : init s[0].toNat = s[0].toNat % 32 := by unfold init; repeat (first | rw [if_pos (by omega)] | rw [if_neg (by omega)])
    rw [nb_cons s hs, first_kind hk (by decide) (by decide), h1, h2, h3]
    rfl
  have hacc0 : s[0].toNat % 32 < lim 1 := by simp [lim]; omega
  have HF := Lib.hid hf
  have HA := Lib.hid hacc0
  clear hf hacc0
  go_enter Try.func31, Try.ntmps31
  go_wp2
  go_loop [2, 3, 7, 8] (fun rv sv lv hv => ∃ m lo hi acc sz : Nat, rv = .int .i32 acc ∧ sv = .int .i64 sz ∧ lv = .int .u8 lo ∧ hv = .int .u8 hi ∧ sz + m = 1 + 1 ∧ 1 ≤ sz ∧ sz ≤ s.size ∧ acc < lim m ∧ lo < 256 ∧ hi < 256 ∧ first (nb s) = run m lo hi acc sz ((nb s).drop sz)) (fun _ sv _ _ => 10 - (intOf sv).toNat)
  case atStart => exact ⟨1, 128, 191, s[0].toNat % 32, 1, by simp, rfl, rfl, rfl, by omega, by omega, by omega, HA.out, by omega, by omega, HF.out⟩
  case round =>
    clear HF HA
    obtain ⟨m, lo, hi, acc, sz, rfl, rfl, rfl, rfl, hsm, h1, hsz, hacc, hlo, hhi, hrun⟩ := hrel
    cases m with
    | zero =>
      rw [run_zero] at hrun
      have HR := Lib.hid hrun
      clear hrun hacc
      go_wp2
      go_returns
      exact ⟨by rw [HR.out]; rfl, rfl⟩
    | succ m =>
      by_cases he : sz = s.size
      · rw [he, nb_end, run_open] at hrun
        have HR := Lib.hid hrun
        have he1 : ((sz : Int) == (s.size : Int)) = true := by simp [he]
        have HE := Lib.hid he
        clear hrun hacc he
        go_wp2
        go_returns
        exact ⟨by rw [HR.out, HE.out]; rfl, rfl⟩
      · have hlt : sz < s.size := by omega
        rw [nb_drop s sz hlt] at hrun
        have hacc2 : acc < 2097152 := Nat.lt_of_lt_of_le hacc (lim_le _)
        have he1 : ((sz : Int) == (s.size : Int)) = false := by simp; omega
        clear he
        by_cases hb : s[sz].toNat < lo
        · rw [run_low hb] at hrun
          have HR := Lib.hid hrun
          clear hrun hacc
          go_wp2
          go_returns
          exact ⟨by rw [HR.out]; rfl, rfl⟩
        · by_cases hb2 : hi < s[sz].toNat
          · rw [run_high hb2] at hrun
            have HR := Lib.hid hrun
            clear hrun hacc
            go_wp2
            go_returns
            exact ⟨by rw [HR.out]; rfl, rfl⟩
          · rw [run_in hb hb2] at hrun
            have HR := Lib.hid hrun
            have HA := Lib.hid (lim_step (b := s[sz].toNat) (by omega) hacc)
            clear hrun hacc
            go_wp2
            go_round
            case rel => exact ⟨m, 128, 191, acc * 64 + s[sz].toNat % 64, sz + 1, by simp, by simp, rfl, rfl, by omega, by omega, by omega, HA.out, by omega, by omega, HR.out⟩
            case measure => simp [intOf]; omega

set_option maxRecDepth 100000 in
theorem first_2 (s : ByteArray) (w : World) (hs : 0 < s.size) (hm : s.size ≤ 1000000) (c1 : 224 ≤ s[0].toNat) (c2 : s[0].toNat ≤ 224) : Calls Try.prog 31 #[.string s] w (Says s w) := by
  have hf : first (nb s) = run 2 160 191 (s[0].toNat % 16) 1 ((nb s).drop 1) := by
    have hk : kind s[0].toNat = 2 := by unfold kind; repeat (first | rw [if_pos (by omega)] | rw [if_neg (by omega)])
    have h1 : least s[0].toNat = 160 := by unfold least; repeat (first | rw [if_pos (by omega)] | rw [if_neg (by omega)])
    have h2 : most s[0].toNat = 191 := by unfold most; repeat (first | rw [if_pos (by omega)] | rw [if_neg (by omega)])
    have h3 : init s[0].toNat = s[0].toNat % 16 := by unfold init; repeat (first | rw [if_pos (by omega)] | rw [if_neg (by omega)])
    rw [nb_cons s hs, first_kind hk (by decide) (by decide), h1, h2, h3]
    rfl
  have hacc0 : s[0].toNat % 16 < lim 2 := by simp [lim]; omega
  have HF := Lib.hid hf
  have HA := Lib.hid hacc0
  clear hf hacc0
  go_enter Try.func31, Try.ntmps31
  go_wp2
  go_loop [2, 3, 7, 8] (fun rv sv lv hv => ∃ m lo hi acc sz : Nat, rv = .int .i32 acc ∧ sv = .int .i64 sz ∧ lv = .int .u8 lo ∧ hv = .int .u8 hi ∧ sz + m = 2 + 1 ∧ 1 ≤ sz ∧ sz ≤ s.size ∧ acc < lim m ∧ lo < 256 ∧ hi < 256 ∧ first (nb s) = run m lo hi acc sz ((nb s).drop sz)) (fun _ sv _ _ => 10 - (intOf sv).toNat)
  case atStart => exact ⟨2, 160, 191, s[0].toNat % 16, 1, by simp, rfl, rfl, rfl, by omega, by omega, by omega, HA.out, by omega, by omega, HF.out⟩
  case round =>
    clear HF HA
    obtain ⟨m, lo, hi, acc, sz, rfl, rfl, rfl, rfl, hsm, h1, hsz, hacc, hlo, hhi, hrun⟩ := hrel
    cases m with
    | zero =>
      rw [run_zero] at hrun
      have HR := Lib.hid hrun
      clear hrun hacc
      go_wp2
      go_returns
      exact ⟨by rw [HR.out]; rfl, rfl⟩
    | succ m =>
      by_cases he : sz = s.size
      · rw [he, nb_end, run_open] at hrun
        have HR := Lib.hid hrun
        have he1 : ((sz : Int) == (s.size : Int)) = true := by simp [he]
        have HE := Lib.hid he
        clear hrun hacc he
        go_wp2
        go_returns
        exact ⟨by rw [HR.out, HE.out]; rfl, rfl⟩
      · have hlt : sz < s.size := by omega
        rw [nb_drop s sz hlt] at hrun
        have hacc2 : acc < 2097152 := Nat.lt_of_lt_of_le hacc (lim_le _)
        have he1 : ((sz : Int) == (s.size : Int)) = false := by simp; omega
        clear he
        by_cases hb : s[sz].toNat < lo
        · rw [run_low hb] at hrun
          have HR := Lib.hid hrun
          clear hrun hacc
          go_wp2
          go_returns
          exact ⟨by rw [HR.out]; rfl, rfl⟩
        · by_cases hb2 : hi < s[sz].toNat
          · rw [run_high hb2] at hrun
            have HR := Lib.hid hrun
            clear hrun hacc
            go_wp2
            go_returns
            exact ⟨by rw [HR.out]; rfl, rfl⟩
          · rw [run_in hb hb2] at hrun
            have HR := Lib.hid hrun
            have HA := Lib.hid (lim_step (b := s[sz].toNat) (by omega) hacc)
            clear hrun hacc
            go_wp2
            go_round
            case rel => exact ⟨m, 128, 191, acc * 64 + s[sz].toNat % 64, sz + 1, by simp, by simp, rfl, rfl, by omega, by omega, by omega, HA.out, by omega, by omega, HR.out⟩
            case measure => simp [intOf]; omega

set_option maxRecDepth 100000 in
theorem first_3 (s : ByteArray) (w : World) (hs : 0 < s.size) (hm : s.size ≤ 1000000) (c1 : 225 ≤ s[0].toNat) (c2 : s[0].toNat ≤ 236) : Calls Try.prog 31 #[.string s] w (Says s w) := by
  have hf : first (nb s) = run 2 128 191 (s[0].toNat % 16) 1 ((nb s).drop 1) := by
    have hk : kind s[0].toNat = 2 := by unfold kind; repeat (first | rw [if_pos (by omega)] | rw [if_neg (by omega)])
    have h1 : least s[0].toNat = 128 := by unfold least; repeat (first | rw [if_pos (by omega)] | rw [if_neg (by omega)])
    have h2 : most s[0].toNat = 191 := by unfold most; repeat (first | rw [if_pos (by omega)] | rw [if_neg (by omega)])
    have h3 : init s[0].toNat = s[0].toNat % 16 := by unfold init; repeat (first | rw [if_pos (by omega)] | rw [if_neg (by omega)])
    rw [nb_cons s hs, first_kind hk (by decide) (by decide), h1, h2, h3]
    rfl
  have hacc0 : s[0].toNat % 16 < lim 2 := by simp [lim]; omega
  have HF := Lib.hid hf
  have HA := Lib.hid hacc0
  clear hf hacc0
  go_enter Try.func31, Try.ntmps31
  go_wp2
  go_loop [2, 3, 7, 8] (fun rv sv lv hv => ∃ m lo hi acc sz : Nat, rv = .int .i32 acc ∧ sv = .int .i64 sz ∧ lv = .int .u8 lo ∧ hv = .int .u8 hi ∧ sz + m = 2 + 1 ∧ 1 ≤ sz ∧ sz ≤ s.size ∧ acc < lim m ∧ lo < 256 ∧ hi < 256 ∧ first (nb s) = run m lo hi acc sz ((nb s).drop sz)) (fun _ sv _ _ => 10 - (intOf sv).toNat)
  case atStart => exact ⟨2, 128, 191, s[0].toNat % 16, 1, by simp, rfl, rfl, rfl, by omega, by omega, by omega, HA.out, by omega, by omega, HF.out⟩
  case round =>
    clear HF HA
    obtain ⟨m, lo, hi, acc, sz, rfl, rfl, rfl, rfl, hsm, h1, hsz, hacc, hlo, hhi, hrun⟩ := hrel
    cases m with
    | zero =>
      rw [run_zero] at hrun
      have HR := Lib.hid hrun
      clear hrun hacc
      go_wp2
      go_returns
      exact ⟨by rw [HR.out]; rfl, rfl⟩
    | succ m =>
      by_cases he : sz = s.size
      · rw [he, nb_end, run_open] at hrun
        have HR := Lib.hid hrun
        have he1 : ((sz : Int) == (s.size : Int)) = true := by simp [he]
        have HE := Lib.hid he
        clear hrun hacc he
        go_wp2
        go_returns
        exact ⟨by rw [HR.out, HE.out]; rfl, rfl⟩
      · have hlt : sz < s.size := by omega
        rw [nb_drop s sz hlt] at hrun
        have hacc2 : acc < 2097152 := Nat.lt_of_lt_of_le hacc (lim_le _)
        have he1 : ((sz : Int) == (s.size : Int)) = false := by simp; omega
        clear he
        by_cases hb : s[sz].toNat < lo
        · rw [run_low hb] at hrun
          have HR := Lib.hid hrun
          clear hrun hacc
          go_wp2
          go_returns
          exact ⟨by rw [HR.out]; rfl, rfl⟩
        · by_cases hb2 : hi < s[sz].toNat
          · rw [run_high hb2] at hrun
            have HR := Lib.hid hrun
            clear hrun hacc
            go_wp2
            go_returns
            exact ⟨by rw [HR.out]; rfl, rfl⟩
          · rw [run_in hb hb2] at hrun
            have HR := Lib.hid hrun
            have HA := Lib.hid (lim_step (b := s[sz].toNat) (by omega) hacc)
            clear hrun hacc
            go_wp2
            go_round
            case rel => exact ⟨m, 128, 191, acc * 64 + s[sz].toNat % 64, sz + 1, by simp, by simp, rfl, rfl, by omega, by omega, by omega, HA.out, by omega, by omega, HR.out⟩
            case measure => simp [intOf]; omega

set_option maxRecDepth 100000 in
theorem first_4 (s : ByteArray) (w : World) (hs : 0 < s.size) (hm : s.size ≤ 1000000) (c1 : 237 ≤ s[0].toNat) (c2 : s[0].toNat ≤ 237) : Calls Try.prog 31 #[.string s] w (Says s w) := by
  have hf : first (nb s) = run 2 128 159 (s[0].toNat % 16) 1 ((nb s).drop 1) := by
    have hk : kind s[0].toNat = 2 := by unfold kind; repeat (first | rw [if_pos (by omega)] | rw [if_neg (by omega)])
    have h1 : least s[0].toNat = 128 := by unfold least; repeat (first | rw [if_pos (by omega)] | rw [if_neg (by omega)])
    have h2 : most s[0].toNat = 159 := by unfold most; repeat (first | rw [if_pos (by omega)] | rw [if_neg (by omega)])
    have h3 : init s[0].toNat = s[0].toNat % 16 := by unfold init; repeat (first | rw [if_pos (by omega)] | rw [if_neg (by omega)])
    rw [nb_cons s hs, first_kind hk (by decide) (by decide), h1, h2, h3]
    rfl
  have hacc0 : s[0].toNat % 16 < lim 2 := by simp [lim]; omega
  have HF := Lib.hid hf
  have HA := Lib.hid hacc0
  clear hf hacc0
  go_enter Try.func31, Try.ntmps31
  go_wp2
  go_loop [2, 3, 7, 8] (fun rv sv lv hv => ∃ m lo hi acc sz : Nat, rv = .int .i32 acc ∧ sv = .int .i64 sz ∧ lv = .int .u8 lo ∧ hv = .int .u8 hi ∧ sz + m = 2 + 1 ∧ 1 ≤ sz ∧ sz ≤ s.size ∧ acc < lim m ∧ lo < 256 ∧ hi < 256 ∧ first (nb s) = run m lo hi acc sz ((nb s).drop sz)) (fun _ sv _ _ => 10 - (intOf sv).toNat)
  case atStart => exact ⟨2, 128, 159, s[0].toNat % 16, 1, by simp, rfl, rfl, rfl, by omega, by omega, by omega, HA.out, by omega, by omega, HF.out⟩
  case round =>
    clear HF HA
    obtain ⟨m, lo, hi, acc, sz, rfl, rfl, rfl, rfl, hsm, h1, hsz, hacc, hlo, hhi, hrun⟩ := hrel
    cases m with
    | zero =>
      rw [run_zero] at hrun
      have HR := Lib.hid hrun
      clear hrun hacc
      go_wp2
      go_returns
      exact ⟨by rw [HR.out]; rfl, rfl⟩
    | succ m =>
      by_cases he : sz = s.size
      · rw [he, nb_end, run_open] at hrun
        have HR := Lib.hid hrun
        have he1 : ((sz : Int) == (s.size : Int)) = true := by simp [he]
        have HE := Lib.hid he
        clear hrun hacc he
        go_wp2
        go_returns
        exact ⟨by rw [HR.out, HE.out]; rfl, rfl⟩
      · have hlt : sz < s.size := by omega
        rw [nb_drop s sz hlt] at hrun
        have hacc2 : acc < 2097152 := Nat.lt_of_lt_of_le hacc (lim_le _)
        have he1 : ((sz : Int) == (s.size : Int)) = false := by simp; omega
        clear he
        by_cases hb : s[sz].toNat < lo
        · rw [run_low hb] at hrun
          have HR := Lib.hid hrun
          clear hrun hacc
          go_wp2
          go_returns
          exact ⟨by rw [HR.out]; rfl, rfl⟩
        · by_cases hb2 : hi < s[sz].toNat
          · rw [run_high hb2] at hrun
            have HR := Lib.hid hrun
            clear hrun hacc
            go_wp2
            go_returns
            exact ⟨by rw [HR.out]; rfl, rfl⟩
          · rw [run_in hb hb2] at hrun
            have HR := Lib.hid hrun
            have HA := Lib.hid (lim_step (b := s[sz].toNat) (by omega) hacc)
            clear hrun hacc
            go_wp2
            go_round
            case rel => exact ⟨m, 128, 191, acc * 64 + s[sz].toNat % 64, sz + 1, by simp, by simp, rfl, rfl, by omega, by omega, by omega, HA.out, by omega, by omega, HR.out⟩
            case measure => simp [intOf]; omega

set_option maxRecDepth 100000 in
theorem first_5 (s : ByteArray) (w : World) (hs : 0 < s.size) (hm : s.size ≤ 1000000) (c1 : 238 ≤ s[0].toNat) (c2 : s[0].toNat ≤ 239) : Calls Try.prog 31 #[.string s] w (Says s w) := by
  have hf : first (nb s) = run 2 128 191 (s[0].toNat % 16) 1 ((nb s).drop 1) := by
    have hk : kind s[0].toNat = 2 := by unfold kind; repeat (first | rw [if_pos (by omega)] | rw [if_neg (by omega)])
    have h1 : least s[0].toNat = 128 := by unfold least; repeat (first | rw [if_pos (by omega)] | rw [if_neg (by omega)])
    have h2 : most s[0].toNat = 191 := by unfold most; repeat (first | rw [if_pos (by omega)] | rw [if_neg (by omega)])
    have h3 : init s[0].toNat = s[0].toNat % 16 := by unfold init; repeat (first | rw [if_pos (by omega)] | rw [if_neg (by omega)])
    rw [nb_cons s hs, first_kind hk (by decide) (by decide), h1, h2, h3]
    rfl
  have hacc0 : s[0].toNat % 16 < lim 2 := by simp [lim]; omega
  have HF := Lib.hid hf
  have HA := Lib.hid hacc0
  clear hf hacc0
  go_enter Try.func31, Try.ntmps31
  go_wp2
  go_loop [2, 3, 7, 8] (fun rv sv lv hv => ∃ m lo hi acc sz : Nat, rv = .int .i32 acc ∧ sv = .int .i64 sz ∧ lv = .int .u8 lo ∧ hv = .int .u8 hi ∧ sz + m = 2 + 1 ∧ 1 ≤ sz ∧ sz ≤ s.size ∧ acc < lim m ∧ lo < 256 ∧ hi < 256 ∧ first (nb s) = run m lo hi acc sz ((nb s).drop sz)) (fun _ sv _ _ => 10 - (intOf sv).toNat)
  case atStart => exact ⟨2, 128, 191, s[0].toNat % 16, 1, by simp, rfl, rfl, rfl, by omega, by omega, by omega, HA.out, by omega, by omega, HF.out⟩
  case round =>
    clear HF HA
    obtain ⟨m, lo, hi, acc, sz, rfl, rfl, rfl, rfl, hsm, h1, hsz, hacc, hlo, hhi, hrun⟩ := hrel
    cases m with
    | zero =>
      rw [run_zero] at hrun
      have HR := Lib.hid hrun
      clear hrun hacc
      go_wp2
      go_returns
      exact ⟨by rw [HR.out]; rfl, rfl⟩
    | succ m =>
      by_cases he : sz = s.size
      · rw [he, nb_end, run_open] at hrun
        have HR := Lib.hid hrun
        have he1 : ((sz : Int) == (s.size : Int)) = true := by simp [he]
        have HE := Lib.hid he
        clear hrun hacc he
        go_wp2
        go_returns
        exact ⟨by rw [HR.out, HE.out]; rfl, rfl⟩
      · have hlt : sz < s.size := by omega
        rw [nb_drop s sz hlt] at hrun
        have hacc2 : acc < 2097152 := Nat.lt_of_lt_of_le hacc (lim_le _)
        have he1 : ((sz : Int) == (s.size : Int)) = false := by simp; omega
        clear he
        by_cases hb : s[sz].toNat < lo
        · rw [run_low hb] at hrun
          have HR := Lib.hid hrun
          clear hrun hacc
          go_wp2
          go_returns
          exact ⟨by rw [HR.out]; rfl, rfl⟩
        · by_cases hb2 : hi < s[sz].toNat
          · rw [run_high hb2] at hrun
            have HR := Lib.hid hrun
            clear hrun hacc
            go_wp2
            go_returns
            exact ⟨by rw [HR.out]; rfl, rfl⟩
          · rw [run_in hb hb2] at hrun
            have HR := Lib.hid hrun
            have HA := Lib.hid (lim_step (b := s[sz].toNat) (by omega) hacc)
            clear hrun hacc
            go_wp2
            go_round
            case rel => exact ⟨m, 128, 191, acc * 64 + s[sz].toNat % 64, sz + 1, by simp, by simp, rfl, rfl, by omega, by omega, by omega, HA.out, by omega, by omega, HR.out⟩
            case measure => simp [intOf]; omega

set_option maxRecDepth 100000 in
theorem first_6 (s : ByteArray) (w : World) (hs : 0 < s.size) (hm : s.size ≤ 1000000) (c1 : 240 ≤ s[0].toNat) (c2 : s[0].toNat ≤ 240) : Calls Try.prog 31 #[.string s] w (Says s w) := by
  have hf : first (nb s) = run 3 144 191 (s[0].toNat % 8) 1 ((nb s).drop 1) := by
    have hk : kind s[0].toNat = 3 := by unfold kind; repeat (first | rw [if_pos (by omega)] | rw [if_neg (by omega)])
    have h1 : least s[0].toNat = 144 := by unfold least; repeat (first | rw [if_pos (by omega)] | rw [if_neg (by omega)])
    have h2 : most s[0].toNat = 191 := by unfold most; repeat (first | rw [if_pos (by omega)] | rw [if_neg (by omega)])
    have h3 : init s[0].toNat = s[0].toNat % 8 := by unfold init; repeat (first | rw [if_pos (by omega)] | rw [if_neg (by omega)])
    rw [nb_cons s hs, first_kind hk (by decide) (by decide), h1, h2, h3]
    rfl
  have hacc0 : s[0].toNat % 8 < lim 3 := by simp [lim]; omega
  have HF := Lib.hid hf
  have HA := Lib.hid hacc0
  clear hf hacc0
  go_enter Try.func31, Try.ntmps31
  go_wp2
  go_loop [2, 3, 7, 8] (fun rv sv lv hv => ∃ m lo hi acc sz : Nat, rv = .int .i32 acc ∧ sv = .int .i64 sz ∧ lv = .int .u8 lo ∧ hv = .int .u8 hi ∧ sz + m = 3 + 1 ∧ 1 ≤ sz ∧ sz ≤ s.size ∧ acc < lim m ∧ lo < 256 ∧ hi < 256 ∧ first (nb s) = run m lo hi acc sz ((nb s).drop sz)) (fun _ sv _ _ => 10 - (intOf sv).toNat)
  case atStart => exact ⟨3, 144, 191, s[0].toNat % 8, 1, by simp, rfl, rfl, rfl, by omega, by omega, by omega, HA.out, by omega, by omega, HF.out⟩
  case round =>
    clear HF HA
    obtain ⟨m, lo, hi, acc, sz, rfl, rfl, rfl, rfl, hsm, h1, hsz, hacc, hlo, hhi, hrun⟩ := hrel
    cases m with
    | zero =>
      rw [run_zero] at hrun
      have HR := Lib.hid hrun
      clear hrun hacc
      go_wp2
      go_returns
      exact ⟨by rw [HR.out]; rfl, rfl⟩
    | succ m =>
      by_cases he : sz = s.size
      · rw [he, nb_end, run_open] at hrun
        have HR := Lib.hid hrun
        have he1 : ((sz : Int) == (s.size : Int)) = true := by simp [he]
        have HE := Lib.hid he
        clear hrun hacc he
        go_wp2
        go_returns
        exact ⟨by rw [HR.out, HE.out]; rfl, rfl⟩
      · have hlt : sz < s.size := by omega
        rw [nb_drop s sz hlt] at hrun
        have hacc2 : acc < 2097152 := Nat.lt_of_lt_of_le hacc (lim_le _)
        have he1 : ((sz : Int) == (s.size : Int)) = false := by simp; omega
        clear he
        by_cases hb : s[sz].toNat < lo
        · rw [run_low hb] at hrun
          have HR := Lib.hid hrun
          clear hrun hacc
          go_wp2
          go_returns
          exact ⟨by rw [HR.out]; rfl, rfl⟩
        · by_cases hb2 : hi < s[sz].toNat
          · rw [run_high hb2] at hrun
            have HR := Lib.hid hrun
            clear hrun hacc
            go_wp2
            go_returns
            exact ⟨by rw [HR.out]; rfl, rfl⟩
          · rw [run_in hb hb2] at hrun
            have HR := Lib.hid hrun
            have HA := Lib.hid (lim_step (b := s[sz].toNat) (by omega) hacc)
            clear hrun hacc
            go_wp2
            go_round
            case rel => exact ⟨m, 128, 191, acc * 64 + s[sz].toNat % 64, sz + 1, by simp, by simp, rfl, rfl, by omega, by omega, by omega, HA.out, by omega, by omega, HR.out⟩
            case measure => simp [intOf]; omega

set_option maxRecDepth 100000 in
theorem first_7 (s : ByteArray) (w : World) (hs : 0 < s.size) (hm : s.size ≤ 1000000) (c1 : 241 ≤ s[0].toNat) (c2 : s[0].toNat ≤ 243) : Calls Try.prog 31 #[.string s] w (Says s w) := by
  have hf : first (nb s) = run 3 128 191 (s[0].toNat % 8) 1 ((nb s).drop 1) := by
    have hk : kind s[0].toNat = 3 := by unfold kind; repeat (first | rw [if_pos (by omega)] | rw [if_neg (by omega)])
    have h1 : least s[0].toNat = 128 := by unfold least; repeat (first | rw [if_pos (by omega)] | rw [if_neg (by omega)])
    have h2 : most s[0].toNat = 191 := by unfold most; repeat (first | rw [if_pos (by omega)] | rw [if_neg (by omega)])
    have h3 : init s[0].toNat = s[0].toNat % 8 := by unfold init; repeat (first | rw [if_pos (by omega)] | rw [if_neg (by omega)])
    rw [nb_cons s hs, first_kind hk (by decide) (by decide), h1, h2, h3]
    rfl
  have hacc0 : s[0].toNat % 8 < lim 3 := by simp [lim]; omega
  have HF := Lib.hid hf
  have HA := Lib.hid hacc0
  clear hf hacc0
  go_enter Try.func31, Try.ntmps31
  go_wp2
  go_loop [2, 3, 7, 8] (fun rv sv lv hv => ∃ m lo hi acc sz : Nat, rv = .int .i32 acc ∧ sv = .int .i64 sz ∧ lv = .int .u8 lo ∧ hv = .int .u8 hi ∧ sz + m = 3 + 1 ∧ 1 ≤ sz ∧ sz ≤ s.size ∧ acc < lim m ∧ lo < 256 ∧ hi < 256 ∧ first (nb s) = run m lo hi acc sz ((nb s).drop sz)) (fun _ sv _ _ => 10 - (intOf sv).toNat)
  case atStart => exact ⟨3, 128, 191, s[0].toNat % 8, 1, by simp, rfl, rfl, rfl, by omega, by omega, by omega, HA.out, by omega, by omega, HF.out⟩
  case round =>
    clear HF HA
    obtain ⟨m, lo, hi, acc, sz, rfl, rfl, rfl, rfl, hsm, h1, hsz, hacc, hlo, hhi, hrun⟩ := hrel
    cases m with
    | zero =>
      rw [run_zero] at hrun
      have HR := Lib.hid hrun
      clear hrun hacc
      go_wp2
      go_returns
      exact ⟨by rw [HR.out]; rfl, rfl⟩
    | succ m =>
      by_cases he : sz = s.size
      · rw [he, nb_end, run_open] at hrun
        have HR := Lib.hid hrun
        have he1 : ((sz : Int) == (s.size : Int)) = true := by simp [he]
        have HE := Lib.hid he
        clear hrun hacc he
        go_wp2
        go_returns
        exact ⟨by rw [HR.out, HE.out]; rfl, rfl⟩
      · have hlt : sz < s.size := by omega
        rw [nb_drop s sz hlt] at hrun
        have hacc2 : acc < 2097152 := Nat.lt_of_lt_of_le hacc (lim_le _)
        have he1 : ((sz : Int) == (s.size : Int)) = false := by simp; omega
        clear he
        by_cases hb : s[sz].toNat < lo
        · rw [run_low hb] at hrun
          have HR := Lib.hid hrun
          clear hrun hacc
          go_wp2
          go_returns
          exact ⟨by rw [HR.out]; rfl, rfl⟩
        · by_cases hb2 : hi < s[sz].toNat
          · rw [run_high hb2] at hrun
            have HR := Lib.hid hrun
            clear hrun hacc
            go_wp2
            go_returns
            exact ⟨by rw [HR.out]; rfl, rfl⟩
          · rw [run_in hb hb2] at hrun
            have HR := Lib.hid hrun
            have HA := Lib.hid (lim_step (b := s[sz].toNat) (by omega) hacc)
            clear hrun hacc
            go_wp2
            go_round
            case rel => exact ⟨m, 128, 191, acc * 64 + s[sz].toNat % 64, sz + 1, by simp, by simp, rfl, rfl, by omega, by omega, by omega, HA.out, by omega, by omega, HR.out⟩
            case measure => simp [intOf]; omega

set_option maxRecDepth 100000 in
theorem first_8 (s : ByteArray) (w : World) (hs : 0 < s.size) (hm : s.size ≤ 1000000) (c1 : 244 ≤ s[0].toNat) (c2 : s[0].toNat ≤ 244) : Calls Try.prog 31 #[.string s] w (Says s w) := by
  have hf : first (nb s) = run 3 128 143 (s[0].toNat % 8) 1 ((nb s).drop 1) := by
    have hk : kind s[0].toNat = 3 := by unfold kind; repeat (first | rw [if_pos (by omega)] | rw [if_neg (by omega)])
    have h1 : least s[0].toNat = 128 := by unfold least; repeat (first | rw [if_pos (by omega)] | rw [if_neg (by omega)])
    have h2 : most s[0].toNat = 143 := by unfold most; repeat (first | rw [if_pos (by omega)] | rw [if_neg (by omega)])
    have h3 : init s[0].toNat = s[0].toNat % 8 := by unfold init; repeat (first | rw [if_pos (by omega)] | rw [if_neg (by omega)])
    rw [nb_cons s hs, first_kind hk (by decide) (by decide), h1, h2, h3]
    rfl
  have hacc0 : s[0].toNat % 8 < lim 3 := by simp [lim]; omega
  have HF := Lib.hid hf
  have HA := Lib.hid hacc0
  clear hf hacc0
  go_enter Try.func31, Try.ntmps31
  go_wp2
  go_loop [2, 3, 7, 8] (fun rv sv lv hv => ∃ m lo hi acc sz : Nat, rv = .int .i32 acc ∧ sv = .int .i64 sz ∧ lv = .int .u8 lo ∧ hv = .int .u8 hi ∧ sz + m = 3 + 1 ∧ 1 ≤ sz ∧ sz ≤ s.size ∧ acc < lim m ∧ lo < 256 ∧ hi < 256 ∧ first (nb s) = run m lo hi acc sz ((nb s).drop sz)) (fun _ sv _ _ => 10 - (intOf sv).toNat)
  case atStart => exact ⟨3, 128, 143, s[0].toNat % 8, 1, by simp, rfl, rfl, rfl, by omega, by omega, by omega, HA.out, by omega, by omega, HF.out⟩
  case round =>
    clear HF HA
    obtain ⟨m, lo, hi, acc, sz, rfl, rfl, rfl, rfl, hsm, h1, hsz, hacc, hlo, hhi, hrun⟩ := hrel
    cases m with
    | zero =>
      rw [run_zero] at hrun
      have HR := Lib.hid hrun
      clear hrun hacc
      go_wp2
      go_returns
      exact ⟨by rw [HR.out]; rfl, rfl⟩
    | succ m =>
      by_cases he : sz = s.size
      · rw [he, nb_end, run_open] at hrun
        have HR := Lib.hid hrun
        have he1 : ((sz : Int) == (s.size : Int)) = true := by simp [he]
        have HE := Lib.hid he
        clear hrun hacc he
        go_wp2
        go_returns
        exact ⟨by rw [HR.out, HE.out]; rfl, rfl⟩
      · have hlt : sz < s.size := by omega
        rw [nb_drop s sz hlt] at hrun
        have hacc2 : acc < 2097152 := Nat.lt_of_lt_of_le hacc (lim_le _)
        have he1 : ((sz : Int) == (s.size : Int)) = false := by simp; omega
        clear he
        by_cases hb : s[sz].toNat < lo
        · rw [run_low hb] at hrun
          have HR := Lib.hid hrun
          clear hrun hacc
          go_wp2
          go_returns
          exact ⟨by rw [HR.out]; rfl, rfl⟩
        · by_cases hb2 : hi < s[sz].toNat
          · rw [run_high hb2] at hrun
            have HR := Lib.hid hrun
            clear hrun hacc
            go_wp2
            go_returns
            exact ⟨by rw [HR.out]; rfl, rfl⟩
          · rw [run_in hb hb2] at hrun
            have HR := Lib.hid hrun
            have HA := Lib.hid (lim_step (b := s[sz].toNat) (by omega) hacc)
            clear hrun hacc
            go_wp2
            go_round
            case rel => exact ⟨m, 128, 191, acc * 64 + s[sz].toNat % 64, sz + 1, by simp, by simp, rfl, rfl, by omega, by omega, by omega, HA.out, by omega, by omega, HR.out⟩
            case measure => simp [intOf]; omega

theorem first_any (s : ByteArray) (w : World) (hs : 0 < s.size) (hm : s.size ≤ 1000000) : Calls Try.prog 31 #[.string s] w (Says s w) := by
  by_cases c0 : s[0].toNat ≤ 127
  · exact first_plain s w hs c0
  · by_cases c1 : 194 ≤ s[0].toNat ∧ s[0].toNat ≤ 223
    · exact first_1 s w hs hm c1.1 c1.2
    · by_cases c2 : 224 ≤ s[0].toNat ∧ s[0].toNat ≤ 224
      · exact first_2 s w hs hm c2.1 c2.2
      · by_cases c3 : 225 ≤ s[0].toNat ∧ s[0].toNat ≤ 236
        · exact first_3 s w hs hm c3.1 c3.2
        · by_cases c4 : 237 ≤ s[0].toNat ∧ s[0].toNat ≤ 237
          · exact first_4 s w hs hm c4.1 c4.2
          · by_cases c5 : 238 ≤ s[0].toNat ∧ s[0].toNat ≤ 239
            · exact first_5 s w hs hm c5.1 c5.2
            · by_cases c6 : 240 ≤ s[0].toNat ∧ s[0].toNat ≤ 240
              · exact first_6 s w hs hm c6.1 c6.2
              · by_cases c7 : 241 ≤ s[0].toNat ∧ s[0].toNat ≤ 243
                · exact first_7 s w hs hm c7.1 c7.2
                · by_cases c8 : 244 ≤ s[0].toNat ∧ s[0].toNat ≤ 244
                  · exact first_8 s w hs hm c8.1 c8.2
                  · exact first_none s w hs (by omega)
end Ru
end Go.Proofs.Ytaagljkpihecpaa
