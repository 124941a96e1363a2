/- What a parser does in a control sequence, but for its last character. No condition beyond each theorem's own premises. -/
import Derived.Test.YtgbpmefiafoliaaEscW
namespace Go.Proofs.Ytgbpmefiafoliaa
open Go.RowKit
namespace Esc
theorem tells_digit {p k : Nat} {s s' : PS} {v m : Int} {w : World} {o : Obj} {cs : Array Value} (hP : PAt w p s) (hk : k < 8) (hs : s' = { s with n := (k : Int) + 1, x := upd s.x k m }) (hv : v = m) (hc : cs = AC.zero.cells) :
    Tells p (s', .zero, false) w (.returned (.tuple #[.agg cs, .bool false])) ((((w.setCell ⟨p, 3, none⟩ (.int .i64 ((k : Int) + 1))).setCell ⟨p, 4 + k, none⟩ (.int .i64 v)).alloc o).drew) := by
  subst hs hv hc
  refine ⟨rfl, ((((Only.refl [p] w).setCell (p := ⟨p, 3, none⟩) (.inl (by simp)) _).setCell (p := ⟨p, 4 + k, none⟩) (.inl (by simp)) _).alloc o).drew, ?_⟩
  have h1 := heap_setCell_self hP 3 (.int .i64 ((k : Int) + 1))
  have h2 := heap_setCell_self h1 (4 + k) (.int .i64 v)
  have he : (s.cells.setIfInBounds 3 (.int .i64 ((k : Int) + 1))).setIfInBounds (4 + k) (.int .i64 v) = PS.cells { s with n := (k : Int) + 1, x := upd s.x k v } := by
    obtain rfl | rfl | rfl | rfl | rfl | rfl | rfl | rfl : k = 0 ∨ k = 1 ∨ k = 2 ∨ k = 3 ∨ k = 4 ∨ k = 5 ∨ k = 6 ∨ k = 7 := by omega
    all_goals rfl
  rw [he] at h2
  exact hk_drew (hk_alloc (lt_of_heap h2) h2)
theorem tells_n {p : Nat} {s : PS} {v m : Int} {w : World} {o : Obj} {cs : Array Value} (hP : PAt w p s) (hv : v = m) (hc : cs = AC.zero.cells) :
    Tells p ({ s with n := m }, .zero, false) w (.returned (.tuple #[.agg cs, .bool false])) ((w.setCell ⟨p, 3, none⟩ (.int .i64 v)).alloc o) := by
  subst hv hc
  exact tells_set hP rfl rfl
theorem digit_at (s : PS) (r : Int) (k : Nat) (h : one s.n = (k : Int) + 1) (hk : k < 8) : digit s r = { s with n := (k : Int) + 1, x := upd s.x k (min (s.x k * 10 + (r - 48)) 9999) } := by
  unfold digit
  rw [h, if_pos (by omega)]
  simp
theorem cell_x {w : World} {p k : Nat} {s : PS} (hP : PAt w p s) (k8 : k < 8) : w.cell? ⟨p, 4 + k, none⟩ = some (.int .i64 (s.x k)) := by
  refine cell_of_heap hP (4 + k) _ ?_
  obtain rfl | rfl | rfl | rfl | rfl | rfl | rfl | rfl : k = 0 ∨ k = 1 ∨ k = 2 ∨ k = 3 ∨ k = 4 ∨ k = 5 ∨ k = 6 ∨ k = 7 := by omega
  all_goals rfl

set_option maxRecDepth 100000 in
set_option maxHeartbeats 2000000 in
theorem ctl_more (p : Nat) (s : PS) (r : Int) (w : World) (k : Nat) (hP : PAt w p s) (h1 : 48 ≤ r) (h2 : r ≤ 57) (hm : s.mid = 0) (hk : s.n = (k : Int) + 1) (k8 : k < 8) (hx0 : 0 ≤ s.x k) (hx1 : s.x k ≤ 9999) :
    Calls Try.prog 17 #[.pointer (some ⟨p, 0, none⟩), .int .i32 r] w (Tells p (digit s r, .zero, false) w) := by
  have HD := Lib.hid (digit_at s r k (by unfold one; omega) k8)
  have hlt := hP.lt
  have c2 := cell_of_heap hP 2 (.int .u8 s.mid) rfl
  have c3 := cell_of_heap hP 3 (.int .i64 s.n) rfl
  have f3 := free_of_heap hP 3
  have ck := cell_x hP k8
  have fk := free_of_heap hP (4 + k)
  rw [hm] at c2
  rw [hk] at c3
  have k0 : (0 : Int) ≤ (k : Int) := by omega
  have k1 : (k : Int) < 8 := by omega
  have k2 : (k : Int) + 1 ≤ 8 := by omega
  have HP := Lib.hid hP
  clear hP hm hk
  have w1 : IntKind.i64.wrap ((k : Int) + 1 - 1) = (k : Int) := by rw [IntKind.wrap_i64]; omega
  have w1' : IntKind.i64.wrap (k : Int) = (k : Int) := by rw [IntKind.wrap_i64]; omega
  have w2 : IntKind.i64.wrap (s.x k * 10) = s.x k * 10 := by rw [IntKind.wrap_i64]; omega
  have w3 : IntKind.i32.wrap (r - 48) = r - 48 := by rw [IntKind.wrap_i32]; omega
  have w3' : IntKind.i64.wrap (r - 48) = r - 48 := by rw [IntKind.wrap_i64]; omega
  have w4 : IntKind.i64.wrap (s.x k * 10 + (r - 48)) = s.x k * 10 + (r - 48) := by rw [IntKind.wrap_i64]; omega
  go_enter Try.func17, Try.ntmps17
  go_wp2_with fail
  refine still_tail 25 (by kernel_rfl) (by kernel_rfl) ?_
  simp only [List.take_succ_cons, List.take_zero, List.drop_succ_cons, List.drop_zero]
  repeat still_step
  refine wpStill_nil ?_
  clear w1 w1' w2 w3 w3' w4
  go_wp2_with fail
  all_goals
    go_returns
    exact tells_digit HP.out k8 HD.out (by omega) rfl

set_option maxRecDepth 100000 in
set_option maxHeartbeats 2000000 in
theorem ctl_first (p : Nat) (s : PS) (r : Int) (w : World) (hP : PAt w p s) (h1 : 48 ≤ r) (h2 : r ≤ 57) (hm : s.mid = 0) (hk : s.n = 0) (hx0 : 0 ≤ s.x 0) (hx1 : s.x 0 ≤ 9999) :
    Calls Try.prog 17 #[.pointer (some ⟨p, 0, none⟩), .int .i32 r] w (Tells p (digit s r, .zero, false) w) := by
  have HD := Lib.hid (digit_at s r 0 (by unfold one; omega) (by decide))
  have hlt := hP.lt
  have c2 := cell_of_heap hP 2 (.int .u8 s.mid) rfl
  have c3 := cell_of_heap hP 3 (.int .i64 s.n) rfl
  have f3 := free_of_heap hP 3
  have ck := cell_of_heap hP 4 (.int .i64 (s.x 0)) rfl
  have fk := free_of_heap hP 4
  rw [hm] at c2
  rw [hk] at c3
  have HP := Lib.hid hP
  clear hP hm hk
  have w1 : IntKind.i64.wrap ((1 : Int) - 1) = 0 := by decide
  have w1' : IntKind.i64.wrap (0 : Int) = 0 := by decide
  have w2 : IntKind.i64.wrap (s.x 0 * 10) = s.x 0 * 10 := by rw [IntKind.wrap_i64]; omega
  have w3 : IntKind.i32.wrap (r - 48) = r - 48 := by rw [IntKind.wrap_i32]; omega
  have w3' : IntKind.i64.wrap (r - 48) = r - 48 := by rw [IntKind.wrap_i64]; omega
  have w4 : IntKind.i64.wrap (s.x 0 * 10 + (r - 48)) = s.x 0 * 10 + (r - 48) := by rw [IntKind.wrap_i64]; omega
  go_enter Try.func17, Try.ntmps17
  go_wp2_with fail
  refine still_tail 25 (by kernel_rfl) (by kernel_rfl) ?_
  simp only [List.take_succ_cons, List.take_zero, List.drop_succ_cons, List.drop_zero]
  repeat still_step
  refine wpStill_nil ?_
  clear w1 w1' w2 w3 w3' w4
  go_wp2_with fail
  all_goals
    go_returns
    exact tells_digit (k := 0) HP.out (by decide) HD.out (by omega) rfl

set_option maxRecDepth 100000 in
set_option maxHeartbeats 2000000 in
theorem ctl_over (p : Nat) (s : PS) (r : Int) (w : World) (hP : PAt w p s) (h1 : 48 ≤ r) (h2 : r ≤ 57) (hm : s.mid = 0) (hk : s.n = 9) :
    Calls Try.prog 17 #[.pointer (some ⟨p, 0, none⟩), .int .i32 r] w (Tells p (digit s r, .zero, false) w) := by
  have hd : digit s r = { s with n := 9 } := by unfold digit; rw [show one s.n = 9 by unfold one; omega, if_neg (by decide)]
  rw [hd]
  have hlt := hP.lt
  have c2 := cell_of_heap hP 2 (.int .u8 s.mid) rfl
  have c3 := cell_of_heap hP 3 (.int .i64 s.n) rfl
  have f3 := free_of_heap hP 3
  rw [hm] at c2
  rw [hk] at c3
  have HP := Lib.hid hP
  clear hP hm hk hd
  go_enter Try.func17, Try.ntmps17
  go_wp2_with fail
  go_returns
  exact tells_set HP.out rfl rfl

end Esc
end Go.Proofs.Ytgbpmefiafoliaa
