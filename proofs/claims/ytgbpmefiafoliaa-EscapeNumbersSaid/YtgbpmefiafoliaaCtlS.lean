/- What a parser does in a control sequence, but for digits and its last character. No condition beyond each theorem's own premises. -/
import Derived.Test.YtgbpmefiafoliaaCtlW
namespace Go.Proofs.Ytgbpmefiafoliaa
open Go.RowKit
namespace Esc
set_option maxRecDepth 100000 in
set_option maxHeartbeats 2000000 in
theorem ctl_sep58 (p : Nat) (s : PS) (w : World) (hP : PAt w p s) (hm : s.mid = 0) (n0 : 0 ≤ s.n) (n9 : s.n ≤ 9) :
    Calls Try.prog 17 #[.pointer (some ⟨p, 0, none⟩), .int .i32 58] w (Tells p ({ s with n := min (one s.n + 1) 9 }, .zero, false) w) := by
  have hlt := hP.lt
  have c2 := cell_of_heap hP 2 (.int .u8 s.mid) rfl
  have c3 := cell_of_heap hP 3 (.int .i64 s.n) rfl
  have f3 := free_of_heap hP 3
  rw [hm] at c2
  have HP := Lib.hid hP
  clear hP hm
  generalize hn : s.n = n at c3 n0 n9
  have HN := Lib.hid hn
  clear hn
  go_enter Try.func17, Try.ntmps17
  go_wp2_with fail
  all_goals
    go_returns
    have hn := HN.out
    exact tells_n HP.out (by unfold one; omega) rfl

set_option maxRecDepth 100000 in
set_option maxHeartbeats 2000000 in
theorem ctl_sep59 (p : Nat) (s : PS) (w : World) (hP : PAt w p s) (hm : s.mid = 0) (n0 : 0 ≤ s.n) (n9 : s.n ≤ 9) :
    Calls Try.prog 17 #[.pointer (some ⟨p, 0, none⟩), .int .i32 59] w (Tells p ({ s with n := min (one s.n + 1) 9 }, .zero, false) w) := by
  have hlt := hP.lt
  have c2 := cell_of_heap hP 2 (.int .u8 s.mid) rfl
  have c3 := cell_of_heap hP 3 (.int .i64 s.n) rfl
  have f3 := free_of_heap hP 3
  rw [hm] at c2
  have HP := Lib.hid hP
  clear hP hm
  generalize hn : s.n = n at c3 n0 n9
  have HN := Lib.hid hn
  clear hn
  go_enter Try.func17, Try.ntmps17
  go_wp2_with fail
  all_goals
    go_returns
    have hn := HN.out
    exact tells_n HP.out (by unfold one; omega) rfl

set_option maxRecDepth 100000 in
set_option maxHeartbeats 2000000 in
theorem ctl_priv (p : Nat) (s : PS) (r : Int) (w : World) (hP : PAt w p s) (h1 : 60 ≤ r) (h2 : r ≤ 63) (hm : s.mid = 0) (hp : s.priv = 0) (hn : s.n = 0) :
    Calls Try.prog 17 #[.pointer (some ⟨p, 0, none⟩), .int .i32 r] w (Tells p ({ s with priv := r }, .zero, false) w) := by
  have hlt := hP.lt
  have e58 : (r == 58) = false := by simp; omega
  have e59 : (r == 59) = false := by simp; omega
  have c1 := cell_of_heap hP 1 (.int .u8 s.priv) rfl
  have c2 := cell_of_heap hP 2 (.int .u8 s.mid) rfl
  have c3 := cell_of_heap hP 3 (.int .i64 s.n) rfl
  have f1 := free_of_heap hP 1
  rw [hm] at c2
  rw [hp] at c1
  rw [hn] at c3
  have HP := Lib.hid hP
  clear hP hm hp hn
  go_enter Try.func17, Try.ntmps17
  go_wp2_with fail
  go_returns
  exact tells_set HP.out rfl rfl
set_option maxRecDepth 100000 in
set_option maxHeartbeats 2000000 in
theorem ctl_mid (p : Nat) (s : PS) (r : Int) (w : World) (hP : PAt w p s) (h1 : 32 ≤ r) (h2 : r ≤ 47) (hm : s.mid = 0) :
    Calls Try.prog 17 #[.pointer (some ⟨p, 0, none⟩), .int .i32 r] w (Tells p ({ s with mid := r }, .zero, false) w) := by
  have hlt := hP.lt
  have e58 : (r == 58) = false := by simp; omega
  have e59 : (r == 59) = false := by simp; omega
  have c2 := cell_of_heap hP 2 (.int .u8 s.mid) rfl
  have f2 := free_of_heap hP 2
  rw [hm] at c2
  have HP := Lib.hid hP
  clear hP hm
  go_enter Try.func17, Try.ntmps17
  go_wp2_with fail
  go_returns
  exact tells_set HP.out rfl rfl

set_option maxRecDepth 100000 in
set_option maxHeartbeats 2000000 in
theorem spoilt_low (p : Nat) (s : PS) (r : Int) (w : World) (hP : PAt w p s) (h2 : r ≤ 47) (m0 : (s.mid == 0) = false) :
    Calls Try.prog 17 #[.pointer (some ⟨p, 0, none⟩), .int .i32 r] w (Tells p ({ PS.zero with inn := 3 }, .zero, false) w) := by
  have e58 : (r == 58) = false := by simp; omega
  have e59 : (r == 59) = false := by simp; omega
  have hlt := hP.lt
  have c1 := cell_of_heap hP 1 (.int .u8 s.priv) rfl
  have c2 := cell_of_heap hP 2 (.int .u8 s.mid) rfl
  have c3 := cell_of_heap hP 3 (.int .i64 s.n) rfl
  have HP := Lib.hid hP
  clear hP 
  go_enter Try.func17, Try.ntmps17
  go_wp2_with (refine wpList_store_row (by rfl) 27 (.tmp 9) (.tmp 8) (by rfl) p (PS.cells { PS.zero with inn := 3 }) (by rfl) (by rfl) 27 s.cells (hk_alloc hlt HP.out) size27 (by rfl) (PS.one _) ?_; rw [alloc_setRow _ _ _ _ hlt])
  go_returns
  exact tells_row HP.out rfl

set_option maxRecDepth 100000 in
set_option maxHeartbeats 2000000 in
theorem spoilt_dig (p : Nat) (s : PS) (r : Int) (w : World) (hP : PAt w p s) (h1 : 48 ≤ r) (h2 : r ≤ 57) (m0 : (s.mid == 0) = false) :
    Calls Try.prog 17 #[.pointer (some ⟨p, 0, none⟩), .int .i32 r] w (Tells p ({ PS.zero with inn := 3 }, .zero, false) w) := by
  have e58 : (r == 58) = false := by simp; omega
  have e59 : (r == 59) = false := by simp; omega
  have hlt := hP.lt
  have c1 := cell_of_heap hP 1 (.int .u8 s.priv) rfl
  have c2 := cell_of_heap hP 2 (.int .u8 s.mid) rfl
  have c3 := cell_of_heap hP 3 (.int .i64 s.n) rfl
  have HP := Lib.hid hP
  clear hP 
  go_enter Try.func17, Try.ntmps17
  go_wp2_with (refine wpList_store_row (by rfl) 27 (.tmp 9) (.tmp 8) (by rfl) p (PS.cells { PS.zero with inn := 3 }) (by rfl) (by rfl) 27 s.cells (hk_alloc hlt HP.out) size27 (by rfl) (PS.one _) ?_; rw [alloc_setRow _ _ _ _ hlt])
  go_returns
  exact tells_row HP.out rfl

set_option maxRecDepth 100000 in
set_option maxHeartbeats 2000000 in
theorem spoilt_s58 (p : Nat) (s : PS) (r : Int) (w : World) (hP : PAt w p s) (h : r = 58) (m0 : (s.mid == 0) = false) :
    Calls Try.prog 17 #[.pointer (some ⟨p, 0, none⟩), .int .i32 r] w (Tells p ({ PS.zero with inn := 3 }, .zero, false) w) := by
  subst h
  have hlt := hP.lt
  have c1 := cell_of_heap hP 1 (.int .u8 s.priv) rfl
  have c2 := cell_of_heap hP 2 (.int .u8 s.mid) rfl
  have c3 := cell_of_heap hP 3 (.int .i64 s.n) rfl
  have HP := Lib.hid hP
  clear hP 
  go_enter Try.func17, Try.ntmps17
  go_wp2_with (refine wpList_store_row (by rfl) 27 (.tmp 9) (.tmp 8) (by rfl) p (PS.cells { PS.zero with inn := 3 }) (by rfl) (by rfl) 27 s.cells (hk_alloc hlt HP.out) size27 (by rfl) (PS.one _) ?_; rw [alloc_setRow _ _ _ _ hlt])
  go_returns
  exact tells_row HP.out rfl

set_option maxRecDepth 100000 in
set_option maxHeartbeats 2000000 in
theorem spoilt_s59 (p : Nat) (s : PS) (r : Int) (w : World) (hP : PAt w p s) (h : r = 59) (m0 : (s.mid == 0) = false) :
    Calls Try.prog 17 #[.pointer (some ⟨p, 0, none⟩), .int .i32 r] w (Tells p ({ PS.zero with inn := 3 }, .zero, false) w) := by
  subst h
  have hlt := hP.lt
  have c1 := cell_of_heap hP 1 (.int .u8 s.priv) rfl
  have c2 := cell_of_heap hP 2 (.int .u8 s.mid) rfl
  have c3 := cell_of_heap hP 3 (.int .i64 s.n) rfl
  have HP := Lib.hid hP
  clear hP 
  go_enter Try.func17, Try.ntmps17
  go_wp2_with (refine wpList_store_row (by rfl) 27 (.tmp 9) (.tmp 8) (by rfl) p (PS.cells { PS.zero with inn := 3 }) (by rfl) (by rfl) 27 s.cells (hk_alloc hlt HP.out) size27 (by rfl) (PS.one _) ?_; rw [alloc_setRow _ _ _ _ hlt])
  go_returns
  exact tells_row HP.out rfl

set_option maxRecDepth 100000 in
set_option maxHeartbeats 2000000 in
theorem spoilt_top (p : Nat) (s : PS) (r : Int) (w : World) (hP : PAt w p s) (h1 : 127 ≤ r) :
    Calls Try.prog 17 #[.pointer (some ⟨p, 0, none⟩), .int .i32 r] w (Tells p ({ PS.zero with inn := 3 }, .zero, false) w) := by
  have e58 : (r == 58) = false := by simp; omega
  have e59 : (r == 59) = false := by simp; omega
  have hlt := hP.lt
  have c1 := cell_of_heap hP 1 (.int .u8 s.priv) rfl
  have c2 := cell_of_heap hP 2 (.int .u8 s.mid) rfl
  have c3 := cell_of_heap hP 3 (.int .i64 s.n) rfl
  have HP := Lib.hid hP
  clear hP 
  go_enter Try.func17, Try.ntmps17
  go_wp2_with (refine wpList_store_row (by rfl) 27 (.tmp 9) (.tmp 8) (by rfl) p (PS.cells { PS.zero with inn := 3 }) (by rfl) (by rfl) 27 s.cells (hk_alloc hlt HP.out) size27 (by rfl) (PS.one _) ?_; rw [alloc_setRow _ _ _ _ hlt])
  go_returns
  exact tells_row HP.out rfl

set_option maxRecDepth 100000 in
set_option maxHeartbeats 2000000 in
theorem spoilt_p1 (p : Nat) (s : PS) (r : Int) (w : World) (hP : PAt w p s) (h1 : 60 ≤ r) (h2 : r ≤ 63) (p0 : (s.priv == 0) = false) :
    Calls Try.prog 17 #[.pointer (some ⟨p, 0, none⟩), .int .i32 r] w (Tells p ({ PS.zero with inn := 3 }, .zero, false) w) := by
  have e58 : (r == 58) = false := by simp; omega
  have e59 : (r == 59) = false := by simp; omega
  have hlt := hP.lt
  have c1 := cell_of_heap hP 1 (.int .u8 s.priv) rfl
  have c2 := cell_of_heap hP 2 (.int .u8 s.mid) rfl
  have c3 := cell_of_heap hP 3 (.int .i64 s.n) rfl
  have HP := Lib.hid hP
  clear hP 
  go_enter Try.func17, Try.ntmps17
  go_wp2_with (refine wpList_store_row (by rfl) 27 (.tmp 9) (.tmp 8) (by rfl) p (PS.cells { PS.zero with inn := 3 }) (by rfl) (by rfl) 27 s.cells (hk_alloc hlt HP.out) size27 (by rfl) (PS.one _) ?_; rw [alloc_setRow _ _ _ _ hlt])
  go_returns
  exact tells_row HP.out rfl

set_option maxRecDepth 100000 in
set_option maxHeartbeats 2000000 in
theorem spoilt_p2 (p : Nat) (s : PS) (r : Int) (w : World) (hP : PAt w p s) (h1 : 60 ≤ r) (h2 : r ≤ 63) (hp : s.priv = 0) (m0 : (s.mid == 0) = false) :
    Calls Try.prog 17 #[.pointer (some ⟨p, 0, none⟩), .int .i32 r] w (Tells p ({ PS.zero with inn := 3 }, .zero, false) w) := by
  have e58 : (r == 58) = false := by simp; omega
  have e59 : (r == 59) = false := by simp; omega
  have hlt := hP.lt
  have c1 := cell_of_heap hP 1 (.int .u8 s.priv) rfl
  have c2 := cell_of_heap hP 2 (.int .u8 s.mid) rfl
  have c3 := cell_of_heap hP 3 (.int .i64 s.n) rfl
  rw [hp] at c1
  have HP := Lib.hid hP
  clear hP hp
  go_enter Try.func17, Try.ntmps17
  go_wp2_with (refine wpList_store_row (by rfl) 27 (.tmp 9) (.tmp 8) (by rfl) p (PS.cells { PS.zero with inn := 3 }) (by rfl) (by rfl) 27 s.cells (hk_alloc hlt HP.out) size27 (by rfl) (PS.one _) ?_; rw [alloc_setRow _ _ _ _ hlt])
  go_returns
  exact tells_row HP.out rfl

set_option maxRecDepth 100000 in
set_option maxHeartbeats 2000000 in
theorem spoilt_p3 (p : Nat) (s : PS) (r : Int) (w : World) (hP : PAt w p s) (h1 : 60 ≤ r) (h2 : r ≤ 63) (hp : s.priv = 0) (hm : s.mid = 0) (n0 : (s.n == 0) = false) :
    Calls Try.prog 17 #[.pointer (some ⟨p, 0, none⟩), .int .i32 r] w (Tells p ({ PS.zero with inn := 3 }, .zero, false) w) := by
  have e58 : (r == 58) = false := by simp; omega
  have e59 : (r == 59) = false := by simp; omega
  have hlt := hP.lt
  have c1 := cell_of_heap hP 1 (.int .u8 s.priv) rfl
  have c2 := cell_of_heap hP 2 (.int .u8 s.mid) rfl
  have c3 := cell_of_heap hP 3 (.int .i64 s.n) rfl
  rw [hp] at c1
  rw [hm] at c2
  have HP := Lib.hid hP
  clear hP hp hm
  go_enter Try.func17, Try.ntmps17
  go_wp2_with (refine wpList_store_row (by rfl) 27 (.tmp 9) (.tmp 8) (by rfl) p (PS.cells { PS.zero with inn := 3 }) (by rfl) (by rfl) 27 s.cells (hk_alloc hlt HP.out) size27 (by rfl) (PS.one _) ?_; rw [alloc_setRow _ _ _ _ hlt])
  go_returns
  exact tells_row HP.out rfl

end Esc
end Go.Proofs.Ytgbpmefiafoliaa
