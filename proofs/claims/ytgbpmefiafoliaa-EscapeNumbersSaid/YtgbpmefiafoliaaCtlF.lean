/- The last character of a control sequence. No condition beyond each theorem's own premises. -/
import Derived.Test.YtgbpmefiafoliaaEscW
namespace Go.Proofs.Ytgbpmefiafoliaa
open Go.RowKit
namespace Esc
theorem setRow_drew (w : World) (g : Nat) (cs : Array Value) : w.drew.setRow g cs = (w.setRow g cs).drew := rfl
theorem tells_row2 {p : Nat} {s s' : PS} {a : AC} {b : Bool} {w : World} {o o' : Obj} {cs : Array Value} (hP : PAt w p s) (hc : cs = a.cells) :
    Tells p (s', a, b) w (.returned (.tuple #[.agg cs, .bool b])) (((w.setRow p s'.cells).alloc o).alloc o').drew := by
  subst hc
  have h := hk_alloc (o := o) (lt_of_heap (hP.set s')) (hP.set s')
  exact ⟨rfl, (((setRow_only w p _).alloc o).alloc o').drew, hk_drew (hk_alloc (lt_of_heap h) h)⟩
set_option maxRecDepth 100000 in
set_option maxHeartbeats 2000000 in
theorem ctl_final (p : Nat) (s : PS) (r : Int) (w : World) (hP : PAt w p s) (h1 : 64 ≤ r) (h2 : r ≤ 126) (n0 : 0 ≤ s.n) (n9 : s.n ≤ 9) :
    Calls Try.prog 17 #[.pointer (some ⟨p, 0, none⟩), .int .i32 r] w (Tells p (.zero, ⟨4, r, s.priv, s.mid, min s.n 8, s.x⟩, true) w) := by
  have e58 : (r == 58) = false := by simp; omega
  have e59 : (r == 59) = false := by simp; omega
  have hlt := hP.lt
  have c1 := cell_of_heap hP 1 (.int .u8 s.priv) rfl
  have c2 := cell_of_heap hP 2 (.int .u8 s.mid) rfl
  have c3 := cell_of_heap hP 3 (.int .i64 s.n) rfl
  have x0 := cell_of_heap hP 4 (.int .i64 (s.x 0)) rfl
  have x1 := cell_of_heap hP 5 (.int .i64 (s.x 1)) rfl
  have x2 := cell_of_heap hP 6 (.int .i64 (s.x 2)) rfl
  have x3 := cell_of_heap hP 7 (.int .i64 (s.x 3)) rfl
  have x4 := cell_of_heap hP 8 (.int .i64 (s.x 4)) rfl
  have x5 := cell_of_heap hP 9 (.int .i64 (s.x 5)) rfl
  have x6 := cell_of_heap hP 10 (.int .i64 (s.x 6)) rfl
  have x7 := cell_of_heap hP 11 (.int .i64 (s.x 7)) rfl
  have HP := Lib.hid hP
  clear hP
  by_cases k : s.n ≤ 8
  · have hn : min s.n 8 = s.n := by omega
    rw [hn]
    clear hn
    go_enter Try.func17, Try.ntmps17
    go_wp2_with fail
    go_region_held3 (fun w' => w'.cell? ⟨p, 1, none⟩ = some (.int .u8 s.priv) ∧ w'.cell? ⟨p, 2, none⟩ = some (.int .u8 s.mid) ∧ w'.cell? ⟨p, 3, none⟩ = some (.int .i64 s.n) ∧ w'.cell? ⟨p, 4, none⟩ = some (.int .i64 (s.x 0)) ∧ w'.cell? ⟨p, 5, none⟩ = some (.int .i64 (s.x 1)) ∧ w'.cell? ⟨p, 6, none⟩ = some (.int .i64 (s.x 2)) ∧ w'.cell? ⟨p, 7, none⟩ = some (.int .i64 (s.x 3)) ∧ w'.cell? ⟨p, 8, none⟩ = some (.int .i64 (s.x 4)) ∧ w'.cell? ⟨p, 9, none⟩ = some (.int .i64 (s.x 5)) ∧ w'.cell? ⟨p, 10, none⟩ = some (.int .i64 (s.x 6)) ∧ w'.cell? ⟨p, 11, none⟩ = some (.int .i64 (s.x 7))) (go_keep) (fail)
    all_goals
      go_wp2_with fail
      refine (reset_any p s _ ?_).mono ?_
      · exact hk_drew (hk_alloc (by simp; omega) (hk_alloc hlt HP.out))
      rintro e w1 ⟨rfl, rfl⟩
      rw [setRow_drew, alloc_setRow _ _ _ _ (by simp; omega), alloc_setRow _ _ _ _ hlt]
      go_wp2_with fail
      go_returns
      exact tells_row2 HP.out rfl
  · have hn : s.n = 9 := by omega
    have hn8 : min s.n 8 = 8 := by omega
    rw [hn8]
    rw [hn] at c3
    clear hn hn8 k n0 n9
    go_enter Try.func17, Try.ntmps17
    go_wp2_with fail
    go_region_held3 (fun w' => w'.cell? ⟨p, 1, none⟩ = some (.int .u8 s.priv) ∧ w'.cell? ⟨p, 2, none⟩ = some (.int .u8 s.mid) ∧ w'.cell? ⟨p, 3, none⟩ = some (.int .i64 9) ∧ w'.cell? ⟨p, 4, none⟩ = some (.int .i64 (s.x 0)) ∧ w'.cell? ⟨p, 5, none⟩ = some (.int .i64 (s.x 1)) ∧ w'.cell? ⟨p, 6, none⟩ = some (.int .i64 (s.x 2)) ∧ w'.cell? ⟨p, 7, none⟩ = some (.int .i64 (s.x 3)) ∧ w'.cell? ⟨p, 8, none⟩ = some (.int .i64 (s.x 4)) ∧ w'.cell? ⟨p, 9, none⟩ = some (.int .i64 (s.x 5)) ∧ w'.cell? ⟨p, 10, none⟩ = some (.int .i64 (s.x 6)) ∧ w'.cell? ⟨p, 11, none⟩ = some (.int .i64 (s.x 7))) (go_keep) (fail)
    all_goals
      go_wp2_with fail
      refine (reset_any p s _ ?_).mono ?_
      · exact hk_drew (hk_alloc (by simp; omega) (hk_alloc hlt HP.out))
      rintro e w1 ⟨rfl, rfl⟩
      rw [setRow_drew, alloc_setRow _ _ _ _ (by simp; omega), alloc_setRow _ _ _ _ hlt]
      go_wp2_with fail
      go_returns
      exact tells_row2 HP.out rfl
end Esc
end Go.Proofs.Ytgbpmefiafoliaa
