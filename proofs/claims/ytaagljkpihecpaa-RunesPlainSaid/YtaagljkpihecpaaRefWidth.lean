/- How wide a character is: the reference's. No condition beyond each theorem's own premises. -/
import Derived.Test.YtaagljkpihecpaaWidth
namespace Go.Proofs.Ytaagljkpihecpaa
open Go.RowKit
namespace Ru
def inB (lo hi r : Int) : Bool := decide (lo ≤ r ∧ r ≤ hi)
theorem inB_t {lo hi r : Int} (h1 : lo ≤ r) (h2 : r ≤ hi) : inB lo hi r = true := by unfold inB; exact decide_eq_true ⟨h1, h2⟩
theorem inB_f {lo hi r : Int} (h : ¬ (lo ≤ r ∧ r ≤ hi)) : inB lo hi r = false := by unfold inB; exact decide_eq_false h
theorem within_any (r lo hi : Int) (h1 : -2147483648 ≤ r) (h2 : r ≤ 2147483647) (w : World) : Calls Try.prog 30 #[.int .i32 r, .int .i64 lo, .int .i64 hi] w fun e w' => e = .returned (.bool (inB lo hi r)) ∧ w = w' := by
  by_cases a : lo ≤ r
  · by_cases b : r ≤ hi
    · rw [inB_t a b]
      go_enter Try.func30, Try.ntmps30
      go_wp2
      go_returns
      exact ⟨rfl, rfl⟩
    · rw [inB_f (by omega)]
      go_enter Try.func30, Try.ntmps30
      go_wp2
      go_returns
      exact ⟨rfl, rfl⟩
  · rw [inB_f (by omega)]
    go_enter Try.func30, Try.ntmps30
    go_wp2
    go_returns
    exact ⟨rfl, rfl⟩

set_option maxRecDepth 1000000 in
theorem refWidth_bad (r : Int) (h : ¬ (0 ≤ r ∧ r ≤ 1114111 ∧ ¬ (55296 ≤ r ∧ r ≤ 57343))) (w : World) : Calls Try.prog 22 #[.int .i32 r] w fun e w' => e = .returned (.int .i64 0) ∧ w = w' := by
  go_enter Try.func22, Try.ntmps22
  go_wp2_with fail
  refine (none_yes r h w).mono ?_
  rintro e w1 ⟨rfl, rfl⟩
  clear h
  go_wp2_with fail
  go_returns
  exact ⟨rfl, rfl⟩
set_option maxRecDepth 1000000 in
theorem refWidth_low (r : Nat) (hv : valid r) (h : (r : Int) < 32) (w : World) : Calls Try.prog 22 #[.int .i32 (r : Int)] w fun e w' => e = .returned (.int .i64 0) ∧ w = w' := by
  go_enter Try.func22, Try.ntmps22
  go_wp2_with fail
  refine (none_no r hv w).mono ?_
  rintro e w1 ⟨rfl, rfl⟩
  clear hv
  go_wp2_with fail
  go_returns
  exact ⟨rfl, rfl⟩

set_option maxRecDepth 1000000 in
set_option maxHeartbeats 2000000 in
theorem refWidth_0 (r : Nat) (hv : valid r) (h : ¬ (r : Int) < 32) (t : inB 127 159 (r : Int) = true) (w : World) : Calls Try.prog 22 #[.int .i32 (r : Int)] w fun e w' => e = .returned (.int .i64 0) ∧ w = w' := by
  have b1 : (-2147483648 : Int) ≤ (r : Int) := by omega
  have b2 : (r : Int) ≤ 2147483647 := by have := hv.1; omega
  go_enter Try.func22, Try.ntmps22
  go_wp2_with fail
  refine (none_no r hv w).mono ?_
  rintro e w1 ⟨rfl, rfl⟩
  clear hv
  go_wp2_with (go_at_call 30; refine (within_any (r : Int) _ _ b1 b2 _).mono ?_; rintro e w' ⟨rfl, rfl⟩)
  go_returns
  exact ⟨rfl, rfl⟩

set_option maxRecDepth 1000000 in
set_option maxHeartbeats 2000000 in
theorem refWidth_1 (r : Nat) (hv : valid r) (h : ¬ (r : Int) < 32) (f0 : inB 127 159 (r : Int) = false) (t : inB 768 879 (r : Int) = true) (w : World) : Calls Try.prog 22 #[.int .i32 (r : Int)] w fun e w' => e = .returned (.int .i64 0) ∧ w = w' := by
  have b1 : (-2147483648 : Int) ≤ (r : Int) := by omega
  have b2 : (r : Int) ≤ 2147483647 := by have := hv.1; omega
  go_enter Try.func22, Try.ntmps22
  go_wp2_with fail
  refine (none_no r hv w).mono ?_
  rintro e w1 ⟨rfl, rfl⟩
  clear hv
  go_wp2_with (go_at_call 30; refine (within_any (r : Int) _ _ b1 b2 _).mono ?_; rintro e w' ⟨rfl, rfl⟩)
  go_returns
  exact ⟨rfl, rfl⟩

set_option maxRecDepth 1000000 in
set_option maxHeartbeats 2000000 in
theorem refWidth_2 (r : Nat) (hv : valid r) (h : ¬ (r : Int) < 32) (f0 : inB 127 159 (r : Int) = false) (f1 : inB 768 879 (r : Int) = false) (t : inB 8203 8207 (r : Int) = true) (w : World) : Calls Try.prog 22 #[.int .i32 (r : Int)] w fun e w' => e = .returned (.int .i64 0) ∧ w = w' := by
  have b1 : (-2147483648 : Int) ≤ (r : Int) := by omega
  have b2 : (r : Int) ≤ 2147483647 := by have := hv.1; omega
  go_enter Try.func22, Try.ntmps22
  go_wp2_with fail
  refine (none_no r hv w).mono ?_
  rintro e w1 ⟨rfl, rfl⟩
  clear hv
  go_wp2_with (go_at_call 30; refine (within_any (r : Int) _ _ b1 b2 _).mono ?_; rintro e w' ⟨rfl, rfl⟩)
  go_returns
  exact ⟨rfl, rfl⟩

set_option maxRecDepth 1000000 in
set_option maxHeartbeats 2000000 in
theorem refWidth_3 (r : Nat) (hv : valid r) (h : ¬ (r : Int) < 32) (f0 : inB 127 159 (r : Int) = false) (f1 : inB 768 879 (r : Int) = false) (f2 : inB 8203 8207 (r : Int) = false) (t : inB 65024 65039 (r : Int) = true) (w : World) : Calls Try.prog 22 #[.int .i32 (r : Int)] w fun e w' => e = .returned (.int .i64 0) ∧ w = w' := by
  have b1 : (-2147483648 : Int) ≤ (r : Int) := by omega
  have b2 : (r : Int) ≤ 2147483647 := by have := hv.1; omega
  go_enter Try.func22, Try.ntmps22
  go_wp2_with fail
  refine (none_no r hv w).mono ?_
  rintro e w1 ⟨rfl, rfl⟩
  clear hv
  go_wp2_with (go_at_call 30; refine (within_any (r : Int) _ _ b1 b2 _).mono ?_; rintro e w' ⟨rfl, rfl⟩)
  go_returns
  exact ⟨rfl, rfl⟩

set_option maxRecDepth 1000000 in
set_option maxHeartbeats 2000000 in
theorem refWidth_4 (r : Nat) (hv : valid r) (h : ¬ (r : Int) < 32) (f0 : inB 127 159 (r : Int) = false) (f1 : inB 768 879 (r : Int) = false) (f2 : inB 8203 8207 (r : Int) = false) (f3 : inB 65024 65039 (r : Int) = false) (t : inB 4352 4447 (r : Int) = true) (w : World) : Calls Try.prog 22 #[.int .i32 (r : Int)] w fun e w' => e = .returned (.int .i64 2) ∧ w = w' := by
  have b1 : (-2147483648 : Int) ≤ (r : Int) := by omega
  have b2 : (r : Int) ≤ 2147483647 := by have := hv.1; omega
  go_enter Try.func22, Try.ntmps22
  go_wp2_with fail
  refine (none_no r hv w).mono ?_
  rintro e w1 ⟨rfl, rfl⟩
  clear hv
  go_wp2_with (go_at_call 30; refine (within_any (r : Int) _ _ b1 b2 _).mono ?_; rintro e w' ⟨rfl, rfl⟩)
  go_returns
  exact ⟨rfl, rfl⟩

set_option maxRecDepth 1000000 in
set_option maxHeartbeats 2000000 in
theorem refWidth_5 (r : Nat) (hv : valid r) (h : ¬ (r : Int) < 32) (f0 : inB 127 159 (r : Int) = false) (f1 : inB 768 879 (r : Int) = false) (f2 : inB 8203 8207 (r : Int) = false) (f3 : inB 65024 65039 (r : Int) = false) (f4 : inB 4352 4447 (r : Int) = false) (t : inB 11904 12350 (r : Int) = true) (w : World) : Calls Try.prog 22 #[.int .i32 (r : Int)] w fun e w' => e = .returned (.int .i64 2) ∧ w = w' := by
  have b1 : (-2147483648 : Int) ≤ (r : Int) := by omega
  have b2 : (r : Int) ≤ 2147483647 := by have := hv.1; omega
  go_enter Try.func22, Try.ntmps22
  go_wp2_with fail
  refine (none_no r hv w).mono ?_
  rintro e w1 ⟨rfl, rfl⟩
  clear hv
  go_wp2_with (go_at_call 30; refine (within_any (r : Int) _ _ b1 b2 _).mono ?_; rintro e w' ⟨rfl, rfl⟩)
  go_returns
  exact ⟨rfl, rfl⟩

set_option maxRecDepth 1000000 in
set_option maxHeartbeats 2000000 in
theorem refWidth_6 (r : Nat) (hv : valid r) (h : ¬ (r : Int) < 32) (f0 : inB 127 159 (r : Int) = false) (f1 : inB 768 879 (r : Int) = false) (f2 : inB 8203 8207 (r : Int) = false) (f3 : inB 65024 65039 (r : Int) = false) (f4 : inB 4352 4447 (r : Int) = false) (f5 : inB 11904 12350 (r : Int) = false) (t : inB 12353 42191 (r : Int) = true) (w : World) : Calls Try.prog 22 #[.int .i32 (r : Int)] w fun e w' => e = .returned (.int .i64 2) ∧ w = w' := by
  have b1 : (-2147483648 : Int) ≤ (r : Int) := by omega
  have b2 : (r : Int) ≤ 2147483647 := by have := hv.1; omega
  go_enter Try.func22, Try.ntmps22
  go_wp2_with fail
  refine (none_no r hv w).mono ?_
  rintro e w1 ⟨rfl, rfl⟩
  clear hv
  go_wp2_with (go_at_call 30; refine (within_any (r : Int) _ _ b1 b2 _).mono ?_; rintro e w' ⟨rfl, rfl⟩)
  go_returns
  exact ⟨rfl, rfl⟩

set_option maxRecDepth 1000000 in
set_option maxHeartbeats 2000000 in
theorem refWidth_7 (r : Nat) (hv : valid r) (h : ¬ (r : Int) < 32) (f0 : inB 127 159 (r : Int) = false) (f1 : inB 768 879 (r : Int) = false) (f2 : inB 8203 8207 (r : Int) = false) (f3 : inB 65024 65039 (r : Int) = false) (f4 : inB 4352 4447 (r : Int) = false) (f5 : inB 11904 12350 (r : Int) = false) (f6 : inB 12353 42191 (r : Int) = false) (t : inB 44032 55203 (r : Int) = true) (w : World) : Calls Try.prog 22 #[.int .i32 (r : Int)] w fun e w' => e = .returned (.int .i64 2) ∧ w = w' := by
  have b1 : (-2147483648 : Int) ≤ (r : Int) := by omega
  have b2 : (r : Int) ≤ 2147483647 := by have := hv.1; omega
  go_enter Try.func22, Try.ntmps22
  go_wp2_with fail
  refine (none_no r hv w).mono ?_
  rintro e w1 ⟨rfl, rfl⟩
  clear hv
  go_wp2_with (go_at_call 30; refine (within_any (r : Int) _ _ b1 b2 _).mono ?_; rintro e w' ⟨rfl, rfl⟩)
  go_returns
  exact ⟨rfl, rfl⟩

set_option maxRecDepth 1000000 in
set_option maxHeartbeats 2000000 in
theorem refWidth_8 (r : Nat) (hv : valid r) (h : ¬ (r : Int) < 32) (f0 : inB 127 159 (r : Int) = false) (f1 : inB 768 879 (r : Int) = false) (f2 : inB 8203 8207 (r : Int) = false) (f3 : inB 65024 65039 (r : Int) = false) (f4 : inB 4352 4447 (r : Int) = false) (f5 : inB 11904 12350 (r : Int) = false) (f6 : inB 12353 42191 (r : Int) = false) (f7 : inB 44032 55203 (r : Int) = false) (t : inB 63744 64255 (r : Int) = true) (w : World) : Calls Try.prog 22 #[.int .i32 (r : Int)] w fun e w' => e = .returned (.int .i64 2) ∧ w = w' := by
  have b1 : (-2147483648 : Int) ≤ (r : Int) := by omega
  have b2 : (r : Int) ≤ 2147483647 := by have := hv.1; omega
  go_enter Try.func22, Try.ntmps22
  go_wp2_with fail
  refine (none_no r hv w).mono ?_
  rintro e w1 ⟨rfl, rfl⟩
  clear hv
  go_wp2_with (go_at_call 30; refine (within_any (r : Int) _ _ b1 b2 _).mono ?_; rintro e w' ⟨rfl, rfl⟩)
  go_returns
  exact ⟨rfl, rfl⟩

set_option maxRecDepth 1000000 in
set_option maxHeartbeats 2000000 in
theorem refWidth_9 (r : Nat) (hv : valid r) (h : ¬ (r : Int) < 32) (f0 : inB 127 159 (r : Int) = false) (f1 : inB 768 879 (r : Int) = false) (f2 : inB 8203 8207 (r : Int) = false) (f3 : inB 65024 65039 (r : Int) = false) (f4 : inB 4352 4447 (r : Int) = false) (f5 : inB 11904 12350 (r : Int) = false) (f6 : inB 12353 42191 (r : Int) = false) (f7 : inB 44032 55203 (r : Int) = false) (f8 : inB 63744 64255 (r : Int) = false) (t : inB 65072 65135 (r : Int) = true) (w : World) : Calls Try.prog 22 #[.int .i32 (r : Int)] w fun e w' => e = .returned (.int .i64 2) ∧ w = w' := by
  have b1 : (-2147483648 : Int) ≤ (r : Int) := by omega
  have b2 : (r : Int) ≤ 2147483647 := by have := hv.1; omega
  go_enter Try.func22, Try.ntmps22
  go_wp2_with fail
  refine (none_no r hv w).mono ?_
  rintro e w1 ⟨rfl, rfl⟩
  clear hv
  go_wp2_with (go_at_call 30; refine (within_any (r : Int) _ _ b1 b2 _).mono ?_; rintro e w' ⟨rfl, rfl⟩)
  go_returns
  exact ⟨rfl, rfl⟩

set_option maxRecDepth 1000000 in
set_option maxHeartbeats 2000000 in
theorem refWidth_10 (r : Nat) (hv : valid r) (h : ¬ (r : Int) < 32) (f0 : inB 127 159 (r : Int) = false) (f1 : inB 768 879 (r : Int) = false) (f2 : inB 8203 8207 (r : Int) = false) (f3 : inB 65024 65039 (r : Int) = false) (f4 : inB 4352 4447 (r : Int) = false) (f5 : inB 11904 12350 (r : Int) = false) (f6 : inB 12353 42191 (r : Int) = false) (f7 : inB 44032 55203 (r : Int) = false) (f8 : inB 63744 64255 (r : Int) = false) (f9 : inB 65072 65135 (r : Int) = false) (t : inB 65281 65376 (r : Int) = true) (w : World) : Calls Try.prog 22 #[.int .i32 (r : Int)] w fun e w' => e = .returned (.int .i64 2) ∧ w = w' := by
  have b1 : (-2147483648 : Int) ≤ (r : Int) := by omega
  have b2 : (r : Int) ≤ 2147483647 := by have := hv.1; omega
  go_enter Try.func22, Try.ntmps22
  go_wp2_with fail
  refine (none_no r hv w).mono ?_
  rintro e w1 ⟨rfl, rfl⟩
  clear hv
  go_wp2_with (go_at_call 30; refine (within_any (r : Int) _ _ b1 b2 _).mono ?_; rintro e w' ⟨rfl, rfl⟩)
  go_returns
  exact ⟨rfl, rfl⟩

set_option maxRecDepth 1000000 in
set_option maxHeartbeats 2000000 in
theorem refWidth_11 (r : Nat) (hv : valid r) (h : ¬ (r : Int) < 32) (f0 : inB 127 159 (r : Int) = false) (f1 : inB 768 879 (r : Int) = false) (f2 : inB 8203 8207 (r : Int) = false) (f3 : inB 65024 65039 (r : Int) = false) (f4 : inB 4352 4447 (r : Int) = false) (f5 : inB 11904 12350 (r : Int) = false) (f6 : inB 12353 42191 (r : Int) = false) (f7 : inB 44032 55203 (r : Int) = false) (f8 : inB 63744 64255 (r : Int) = false) (f9 : inB 65072 65135 (r : Int) = false) (f10 : inB 65281 65376 (r : Int) = false) (t : inB 65504 65510 (r : Int) = true) (w : World) : Calls Try.prog 22 #[.int .i32 (r : Int)] w fun e w' => e = .returned (.int .i64 2) ∧ w = w' := by
  have b1 : (-2147483648 : Int) ≤ (r : Int) := by omega
  have b2 : (r : Int) ≤ 2147483647 := by have := hv.1; omega
  go_enter Try.func22, Try.ntmps22
  go_wp2_with fail
  refine (none_no r hv w).mono ?_
  rintro e w1 ⟨rfl, rfl⟩
  clear hv
  go_wp2_with (go_at_call 30; refine (within_any (r : Int) _ _ b1 b2 _).mono ?_; rintro e w' ⟨rfl, rfl⟩)
  go_returns
  exact ⟨rfl, rfl⟩

set_option maxRecDepth 1000000 in
set_option maxHeartbeats 2000000 in
theorem refWidth_12 (r : Nat) (hv : valid r) (h : ¬ (r : Int) < 32) (f0 : inB 127 159 (r : Int) = false) (f1 : inB 768 879 (r : Int) = false) (f2 : inB 8203 8207 (r : Int) = false) (f3 : inB 65024 65039 (r : Int) = false) (f4 : inB 4352 4447 (r : Int) = false) (f5 : inB 11904 12350 (r : Int) = false) (f6 : inB 12353 42191 (r : Int) = false) (f7 : inB 44032 55203 (r : Int) = false) (f8 : inB 63744 64255 (r : Int) = false) (f9 : inB 65072 65135 (r : Int) = false) (f10 : inB 65281 65376 (r : Int) = false) (f11 : inB 65504 65510 (r : Int) = false) (t : inB 127744 128591 (r : Int) = true) (w : World) : Calls Try.prog 22 #[.int .i32 (r : Int)] w fun e w' => e = .returned (.int .i64 2) ∧ w = w' := by
  have b1 : (-2147483648 : Int) ≤ (r : Int) := by omega
  have b2 : (r : Int) ≤ 2147483647 := by have := hv.1; omega
  go_enter Try.func22, Try.ntmps22
  go_wp2_with fail
  refine (none_no r hv w).mono ?_
  rintro e w1 ⟨rfl, rfl⟩
  clear hv
  go_wp2_with (go_at_call 30; refine (within_any (r : Int) _ _ b1 b2 _).mono ?_; rintro e w' ⟨rfl, rfl⟩)
  go_returns
  exact ⟨rfl, rfl⟩

set_option maxRecDepth 1000000 in
set_option maxHeartbeats 2000000 in
theorem refWidth_13 (r : Nat) (hv : valid r) (h : ¬ (r : Int) < 32) (f0 : inB 127 159 (r : Int) = false) (f1 : inB 768 879 (r : Int) = false) (f2 : inB 8203 8207 (r : Int) = false) (f3 : inB 65024 65039 (r : Int) = false) (f4 : inB 4352 4447 (r : Int) = false) (f5 : inB 11904 12350 (r : Int) = false) (f6 : inB 12353 42191 (r : Int) = false) (f7 : inB 44032 55203 (r : Int) = false) (f8 : inB 63744 64255 (r : Int) = false) (f9 : inB 65072 65135 (r : Int) = false) (f10 : inB 65281 65376 (r : Int) = false) (f11 : inB 65504 65510 (r : Int) = false) (f12 : inB 127744 128591 (r : Int) = false) (t : inB 129280 129535 (r : Int) = true) (w : World) : Calls Try.prog 22 #[.int .i32 (r : Int)] w fun e w' => e = .returned (.int .i64 2) ∧ w = w' := by
  have b1 : (-2147483648 : Int) ≤ (r : Int) := by omega
  have b2 : (r : Int) ≤ 2147483647 := by have := hv.1; omega
  go_enter Try.func22, Try.ntmps22
  go_wp2_with fail
  refine (none_no r hv w).mono ?_
  rintro e w1 ⟨rfl, rfl⟩
  clear hv
  go_wp2_with (go_at_call 30; refine (within_any (r : Int) _ _ b1 b2 _).mono ?_; rintro e w' ⟨rfl, rfl⟩)
  go_returns
  exact ⟨rfl, rfl⟩

set_option maxRecDepth 1000000 in
set_option maxHeartbeats 2000000 in
theorem refWidth_14 (r : Nat) (hv : valid r) (h : ¬ (r : Int) < 32) (f0 : inB 127 159 (r : Int) = false) (f1 : inB 768 879 (r : Int) = false) (f2 : inB 8203 8207 (r : Int) = false) (f3 : inB 65024 65039 (r : Int) = false) (f4 : inB 4352 4447 (r : Int) = false) (f5 : inB 11904 12350 (r : Int) = false) (f6 : inB 12353 42191 (r : Int) = false) (f7 : inB 44032 55203 (r : Int) = false) (f8 : inB 63744 64255 (r : Int) = false) (f9 : inB 65072 65135 (r : Int) = false) (f10 : inB 65281 65376 (r : Int) = false) (f11 : inB 65504 65510 (r : Int) = false) (f12 : inB 127744 128591 (r : Int) = false) (f13 : inB 129280 129535 (r : Int) = false) (t : inB 131072 262141 (r : Int) = true) (w : World) : Calls Try.prog 22 #[.int .i32 (r : Int)] w fun e w' => e = .returned (.int .i64 2) ∧ w = w' := by
  have b1 : (-2147483648 : Int) ≤ (r : Int) := by omega
  have b2 : (r : Int) ≤ 2147483647 := by have := hv.1; omega
  go_enter Try.func22, Try.ntmps22
  go_wp2_with fail
  refine (none_no r hv w).mono ?_
  rintro e w1 ⟨rfl, rfl⟩
  clear hv
  go_wp2_with (go_at_call 30; refine (within_any (r : Int) _ _ b1 b2 _).mono ?_; rintro e w' ⟨rfl, rfl⟩)
  go_returns
  exact ⟨rfl, rfl⟩

set_option maxRecDepth 1000000 in
set_option maxHeartbeats 2000000 in
theorem refWidth_none (r : Nat) (hv : valid r) (h : ¬ (r : Int) < 32) (f0 : inB 127 159 (r : Int) = false) (f1 : inB 768 879 (r : Int) = false) (f2 : inB 8203 8207 (r : Int) = false) (f3 : inB 65024 65039 (r : Int) = false) (f4 : inB 4352 4447 (r : Int) = false) (f5 : inB 11904 12350 (r : Int) = false) (f6 : inB 12353 42191 (r : Int) = false) (f7 : inB 44032 55203 (r : Int) = false) (f8 : inB 63744 64255 (r : Int) = false) (f9 : inB 65072 65135 (r : Int) = false) (f10 : inB 65281 65376 (r : Int) = false) (f11 : inB 65504 65510 (r : Int) = false) (f12 : inB 127744 128591 (r : Int) = false) (f13 : inB 129280 129535 (r : Int) = false) (f14 : inB 131072 262141 (r : Int) = false) (w : World) : Calls Try.prog 22 #[.int .i32 (r : Int)] w fun e w' => e = .returned (.int .i64 1) ∧ w = w' := by
  have b1 : (-2147483648 : Int) ≤ (r : Int) := by omega
  have b2 : (r : Int) ≤ 2147483647 := by have := hv.1; omega
  go_enter Try.func22, Try.ntmps22
  go_wp2_with fail
  refine (none_no r hv w).mono ?_
  rintro e w1 ⟨rfl, rfl⟩
  clear hv
  go_wp2_with (go_at_call 30; refine (within_any (r : Int) _ _ b1 b2 _).mono ?_; rintro e w' ⟨rfl, rfl⟩)
  go_returns
  exact ⟨rfl, rfl⟩

theorem wid_bad (r : Int) (h : ¬ (0 ≤ r ∧ r ≤ 1114111 ∧ ¬ (55296 ≤ r ∧ r ≤ 57343))) : wid r = 0 := by
  by_cases h1 : r < 32 ∨ 1114111 < r
  · unfold wid; rw [if_pos h1]
  · simp only [wid, look, spans]
    repeat (first | rw [if_pos (by omega)] | rw [if_neg (by omega)])
theorem refWidth_any (r : Int) (w : World) : Calls Try.prog 22 #[.int .i32 r] w fun e w' => e = .returned (.int .i64 (wid r)) ∧ w = w' := by
  rcases fix_cases r with ⟨n, rfl, hv, -⟩ | ⟨hno, -⟩
  · have hv1 := hv.1
    have hv2 := hv.2
    by_cases h : (n : Int) < 32
    · have e : wid (n : Int) = 0 := by unfold wid; rw [if_pos (.inl h)]
      rw [e]; exact refWidth_low n hv h w
    · by_cases c0 : (127 : Int) ≤ (n : Int) ∧ (n : Int) ≤ 159
      · have e : wid (n : Int) = 0 := by
          simp only [wid, look, spans]
          repeat (first | rw [if_pos (by omega)] | rw [if_neg (by omega)])
        rw [e]; exact refWidth_0 n hv h  (inB_t c0.1 c0.2) w
      · by_cases c1 : (768 : Int) ≤ (n : Int) ∧ (n : Int) ≤ 879
        · have e : wid (n : Int) = 0 := by
            simp only [wid, look, spans]
            repeat (first | rw [if_pos (by omega)] | rw [if_neg (by omega)])
          rw [e]; exact refWidth_1 n hv h (inB_f c0) (inB_t c1.1 c1.2) w
        · by_cases c2 : (8203 : Int) ≤ (n : Int) ∧ (n : Int) ≤ 8207
          · have e : wid (n : Int) = 0 := by
              simp only [wid, look, spans]
              repeat (first | rw [if_pos (by omega)] | rw [if_neg (by omega)])
            rw [e]; exact refWidth_2 n hv h (inB_f c0) (inB_f c1) (inB_t c2.1 c2.2) w
          · by_cases c3 : (65024 : Int) ≤ (n : Int) ∧ (n : Int) ≤ 65039
            · have e : wid (n : Int) = 0 := by
                simp only [wid, look, spans]
                repeat (first | rw [if_pos (by omega)] | rw [if_neg (by omega)])
              rw [e]; exact refWidth_3 n hv h (inB_f c0) (inB_f c1) (inB_f c2) (inB_t c3.1 c3.2) w
            · by_cases c4 : (4352 : Int) ≤ (n : Int) ∧ (n : Int) ≤ 4447
              · have e : wid (n : Int) = 2 := by
                  simp only [wid, look, spans]
                  repeat (first | rw [if_pos (by omega)] | rw [if_neg (by omega)])
                rw [e]; exact refWidth_4 n hv h (inB_f c0) (inB_f c1) (inB_f c2) (inB_f c3) (inB_t c4.1 c4.2) w
              · by_cases c5 : (11904 : Int) ≤ (n : Int) ∧ (n : Int) ≤ 12350
                · have e : wid (n : Int) = 2 := by
                    simp only [wid, look, spans]
                    repeat (first | rw [if_pos (by omega)] | rw [if_neg (by omega)])
                  rw [e]; exact refWidth_5 n hv h (inB_f c0) (inB_f c1) (inB_f c2) (inB_f c3) (inB_f c4) (inB_t c5.1 c5.2) w
                · by_cases c6 : (12353 : Int) ≤ (n : Int) ∧ (n : Int) ≤ 42191
                  · have e : wid (n : Int) = 2 := by
                      simp only [wid, look, spans]
                      repeat (first | rw [if_pos (by omega)] | rw [if_neg (by omega)])
                    rw [e]; exact refWidth_6 n hv h (inB_f c0) (inB_f c1) (inB_f c2) (inB_f c3) (inB_f c4) (inB_f c5) (inB_t c6.1 c6.2) w
                  · by_cases c7 : (44032 : Int) ≤ (n : Int) ∧ (n : Int) ≤ 55203
                    · have e : wid (n : Int) = 2 := by
                        simp only [wid, look, spans]
                        repeat (first | rw [if_pos (by omega)] | rw [if_neg (by omega)])
                      rw [e]; exact refWidth_7 n hv h (inB_f c0) (inB_f c1) (inB_f c2) (inB_f c3) (inB_f c4) (inB_f c5) (inB_f c6) (inB_t c7.1 c7.2) w
                    · by_cases c8 : (63744 : Int) ≤ (n : Int) ∧ (n : Int) ≤ 64255
                      · have e : wid (n : Int) = 2 := by
                          simp only [wid, look, spans]
                          repeat (first | rw [if_pos (by omega)] | rw [if_neg (by omega)])
                        rw [e]; exact refWidth_8 n hv h (inB_f c0) (inB_f c1) (inB_f c2) (inB_f c3) (inB_f c4) (inB_f c5) (inB_f c6) (inB_f c7) (inB_t c8.1 c8.2) w
                      · by_cases c9 : (65072 : Int) ≤ (n : Int) ∧ (n : Int) ≤ 65135
                        · have e : wid (n : Int) = 2 := by
                            simp only [wid, look, spans]
                            repeat (first | rw [if_pos (by omega)] | rw [if_neg (by omega)])
                          rw [e]; exact refWidth_9 n hv h (inB_f c0) (inB_f c1) (inB_f c2) (inB_f c3) (inB_f c4) (inB_f c5) (inB_f c6) (inB_f c7) (inB_f c8) (inB_t c9.1 c9.2) w
                        · by_cases c10 : (65281 : Int) ≤ (n : Int) ∧ (n : Int) ≤ 65376
                          · have e : wid (n : Int) = 2 := by
                              simp only [wid, look, spans]
                              repeat (first | rw [if_pos (by omega)] | rw [if_neg (by omega)])
                            rw [e]; exact refWidth_10 n hv h (inB_f c0) (inB_f c1) (inB_f c2) (inB_f c3) (inB_f c4) (inB_f c5) (inB_f c6) (inB_f c7) (inB_f c8) (inB_f c9) (inB_t c10.1 c10.2) w
                          · by_cases c11 : (65504 : Int) ≤ (n : Int) ∧ (n : Int) ≤ 65510
                            · have e : wid (n : Int) = 2 := by
                                simp only [wid, look, spans]
                                repeat (first | rw [if_pos (by omega)] | rw [if_neg (by omega)])
                              rw [e]; exact refWidth_11 n hv h (inB_f c0) (inB_f c1) (inB_f c2) (inB_f c3) (inB_f c4) (inB_f c5) (inB_f c6) (inB_f c7) (inB_f c8) (inB_f c9) (inB_f c10) (inB_t c11.1 c11.2) w
                            · by_cases c12 : (127744 : Int) ≤ (n : Int) ∧ (n : Int) ≤ 128591
                              · have e : wid (n : Int) = 2 := by
                                  simp only [wid, look, spans]
                                  repeat (first | rw [if_pos (by omega)] | rw [if_neg (by omega)])
                                rw [e]; exact refWidth_12 n hv h (inB_f c0) (inB_f c1) (inB_f c2) (inB_f c3) (inB_f c4) (inB_f c5) (inB_f c6) (inB_f c7) (inB_f c8) (inB_f c9) (inB_f c10) (inB_f c11) (inB_t c12.1 c12.2) w
                              · by_cases c13 : (129280 : Int) ≤ (n : Int) ∧ (n : Int) ≤ 129535
                                · have e : wid (n : Int) = 2 := by
                                    simp only [wid, look, spans]
                                    repeat (first | rw [if_pos (by omega)] | rw [if_neg (by omega)])
                                  rw [e]; exact refWidth_13 n hv h (inB_f c0) (inB_f c1) (inB_f c2) (inB_f c3) (inB_f c4) (inB_f c5) (inB_f c6) (inB_f c7) (inB_f c8) (inB_f c9) (inB_f c10) (inB_f c11) (inB_f c12) (inB_t c13.1 c13.2) w
                                · by_cases c14 : (131072 : Int) ≤ (n : Int) ∧ (n : Int) ≤ 262141
                                  · have e : wid (n : Int) = 2 := by
                                      simp only [wid, look, spans]
                                      repeat (first | rw [if_pos (by omega)] | rw [if_neg (by omega)])
                                    rw [e]; exact refWidth_14 n hv h (inB_f c0) (inB_f c1) (inB_f c2) (inB_f c3) (inB_f c4) (inB_f c5) (inB_f c6) (inB_f c7) (inB_f c8) (inB_f c9) (inB_f c10) (inB_f c11) (inB_f c12) (inB_f c13) (inB_t c14.1 c14.2) w
                                  · have e : wid (n : Int) = 1 := by
                                      by_cases k : (n : Int) < 127
                                      · unfold wid; rw [if_neg (by omega), if_pos k]
                                      · simp only [wid, look, spans]
                                        repeat (first | rw [if_pos (by omega)] | rw [if_neg (by omega)])
                                    rw [e]; exact refWidth_none n hv h (inB_f c0) (inB_f c1) (inB_f c2) (inB_f c3) (inB_f c4) (inB_f c5) (inB_f c6) (inB_f c7) (inB_f c8) (inB_f c9) (inB_f c10) (inB_f c11) (inB_f c12) (inB_f c13) (inB_f c14) w
  · rw [wid_bad r hno]
    exact refWidth_bad r hno w
end Ru
end Go.Proofs.Ytaagljkpihecpaa
