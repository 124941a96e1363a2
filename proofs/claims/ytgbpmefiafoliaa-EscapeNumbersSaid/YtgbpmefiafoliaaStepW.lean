/- A parser's step. No condition beyond each theorem's own premises. -/
import Derived.Test.YtgbpmefiafoliaaCtlS
import Derived.Test.YtgbpmefiafoliaaCtlF
namespace Go.Proofs.Ytgbpmefiafoliaa
open Go.RowKit
namespace Esc
theorem control_any (p : Nat) (s : PS) (r : Int) (w : World) (hP : PAt w p s) (h32 : 32 ≤ r) (hok : s.Ok) :
    Calls Try.prog 17 #[.pointer (some ⟨p, 0, none⟩), .int .i32 r] w (Tells p (ctl s r) w) := by
  have hn := hok.n
  have hsp : ∀ {x : PS × AC × Bool}, x = ({ PS.zero with inn := 3 }, .zero, false) → Calls Try.prog 17 #[.pointer (some ⟨p, 0, none⟩), .int .i32 r] w (Tells p ({ PS.zero with inn := 3 }, .zero, false) w) → Calls Try.prog 17 #[.pointer (some ⟨p, 0, none⟩), .int .i32 r] w (Tells p x w) := fun e h => e ▸ h
  by_cases hd : 48 ≤ r ∧ r ≤ 57
  · by_cases hm : s.mid = 0
    · have e : ctl s r = (digit s r, .zero, false) := by unfold ctl; rw [if_pos ⟨hd, hm⟩]
      rw [e]
      by_cases k0 : s.n = 0
      · exact ctl_first p s r w hP hd.1 hd.2 hm k0 (hok.x 0).1 (hok.x 0).2
      · by_cases k9 : s.n = 9
        · exact ctl_over p s r w hP hd.1 hd.2 hm k9
        · exact ctl_more p s r w (s.n.toNat - 1) hP hd.1 hd.2 hm (by omega) (by omega) (hok.x _).1 (hok.x _).2
    · exact hsp (by unfold ctl; repeat (first | rw [if_pos (by omega)] | rw [if_neg (by omega)])) (spoilt_dig p s r w hP hd.1 hd.2 (by simpa using hm))
  · by_cases h58 : r = 58
    · by_cases hm : s.mid = 0
      · have e : ctl s r = ({ s with n := min (one s.n + 1) 9 }, .zero, false) := by unfold ctl; rw [if_neg (by omega), if_pos (by omega)]
        rw [e, h58]
        exact ctl_sep58 p s w hP hm hn.1 hn.2
      · exact hsp (by unfold ctl; repeat (first | rw [if_pos (by omega)] | rw [if_neg (by omega)])) (spoilt_s58 p s r w hP h58 (by simpa using hm))
    · by_cases h59 : r = 59
      · by_cases hm : s.mid = 0
        · have e : ctl s r = ({ s with n := min (one s.n + 1) 9 }, .zero, false) := by unfold ctl; rw [if_neg (by omega), if_pos (by omega)]
          rw [e, h59]
          exact ctl_sep59 p s w hP hm hn.1 hn.2
        · exact hsp (by unfold ctl; repeat (first | rw [if_pos (by omega)] | rw [if_neg (by omega)])) (spoilt_s59 p s r w hP h59 (by simpa using hm))
      · by_cases hp : 60 ≤ r ∧ r ≤ 63
        · by_cases k1 : s.priv = 0
          · by_cases k2 : s.mid = 0
            · by_cases k3 : s.n = 0
              · have e : ctl s r = ({ s with priv := r }, .zero, false) := by unfold ctl; rw [if_neg (by omega), if_neg (by omega), if_pos (by omega)]
                rw [e]
                exact ctl_priv p s r w hP hp.1 hp.2 k2 k1 k3
              · exact hsp (by unfold ctl; repeat (first | rw [if_pos (by omega)] | rw [if_neg (by omega)])) (spoilt_p3 p s r w hP hp.1 hp.2 k1 k2 (by simpa using k3))
            · exact hsp (by unfold ctl; repeat (first | rw [if_pos (by omega)] | rw [if_neg (by omega)])) (spoilt_p2 p s r w hP hp.1 hp.2 k1 (by simpa using k2))
          · exact hsp (by unfold ctl; repeat (first | rw [if_pos (by omega)] | rw [if_neg (by omega)])) (spoilt_p1 p s r w hP hp.1 hp.2 (by simpa using k1))
        · by_cases h47 : r ≤ 47
          · by_cases hm : s.mid = 0
            · have e : ctl s r = ({ s with mid := r }, .zero, false) := by unfold ctl; rw [if_neg (by omega), if_neg (by omega), if_neg (by omega), if_pos (by omega)]
              rw [e]
              exact ctl_mid p s r w hP h32 h47 hm
            · exact hsp (by unfold ctl; repeat (first | rw [if_pos (by omega)] | rw [if_neg (by omega)])) (spoilt_low p s r w hP h47 (by simpa using hm))
          · by_cases hf : r ≤ 126
            · have e : ctl s r = (.zero, ⟨4, r, s.priv, s.mid, min s.n 8, s.x⟩, true) := by unfold ctl; repeat (first | rw [if_pos (by omega)] | rw [if_neg (by omega)])
              rw [e]
              exact ctl_final p s r w hP (by omega) hf hn.1 hn.2
            · exact hsp (by unfold ctl; repeat (first | rw [if_pos (by omega)] | rw [if_neg (by omega)])) (spoilt_top p s r w hP (by omega))

theorem hP1_only {w1 w2 : World} {p H : Nat} {s : PS} (h : PAt w1 p s) (ho : Only [H] w1 w2) (hlt : p < H) : PAt w2 p s := h.only ho (by simp; omega)

set_option maxRecDepth 100000 in
set_option maxHeartbeats 2000000 in
theorem step_27 (p : Nat) (s : PS) (w : World) (hP : PAt w p s) :
    Calls Try.prog 10 #[.pointer (some ⟨p, 0, none⟩), .int .i32 27] w (Tells p ({ PS.zero with inn := 1 }, .zero, false) w) := by
  have hlt := hP.lt
  have c0 := cell_of_heap hP 0 (.int .i64 s.inn) rfl
  have HP := Lib.hid hP
  clear hP
  go_enter Try.func10, Try.ntmps10
  go_wp2_with (refine wpList_store_row (by rfl) 27 (.tmp 14) (.tmp 13) (by rfl) p (PS.cells { PS.zero with inn := 1 }) (by rfl) (by rfl) 27 s.cells (hk_alloc hlt HP.out) size27 (by rfl) (PS.one _) ?_; rw [alloc_setRow _ _ _ _ hlt])
  go_returns
  exact tells_row HP.out rfl

set_option maxRecDepth 100000 in
set_option maxHeartbeats 2000000 in
theorem step_24 (p : Nat) (s : PS) (w : World) (hP : PAt w p s) :
    Calls Try.prog 10 #[.pointer (some ⟨p, 0, none⟩), .int .i32 24] w (Tells p (.zero, .zero, false) w) := by
  have hlt := hP.lt
  have c0 := cell_of_heap hP 0 (.int .i64 s.inn) rfl
  have HP := Lib.hid hP
  clear hP
  go_enter Try.func10, Try.ntmps10
  go_wp2_with fail
  refine (reset_any p s _ (hk_alloc hlt HP.out)).mono ?_
  rintro e w1 ⟨rfl, rfl⟩
  rw [alloc_setRow _ _ _ _ hlt]
  go_wp2_with fail
  go_returns
  exact tells_row HP.out rfl

set_option maxRecDepth 100000 in
set_option maxHeartbeats 2000000 in
theorem step_26 (p : Nat) (s : PS) (w : World) (hP : PAt w p s) :
    Calls Try.prog 10 #[.pointer (some ⟨p, 0, none⟩), .int .i32 26] w (Tells p (.zero, .zero, false) w) := by
  have hlt := hP.lt
  have c0 := cell_of_heap hP 0 (.int .i64 s.inn) rfl
  have HP := Lib.hid hP
  clear hP
  go_enter Try.func10, Try.ntmps10
  go_wp2_with fail
  refine (reset_any p s _ (hk_alloc hlt HP.out)).mono ?_
  rintro e w1 ⟨rfl, rfl⟩
  rw [alloc_setRow _ _ _ _ hlt]
  go_wp2_with fail
  go_returns
  exact tells_row HP.out rfl

set_option maxRecDepth 100000 in
set_option maxHeartbeats 2000000 in
theorem step_lt (p : Nat) (s : PS) (r : Int) (w : World) (hP : PAt w p s) (h : r < 0) :
    Calls Try.prog 10 #[.pointer (some ⟨p, 0, none⟩), .int .i32 r] w (Tells p (s, .zero, false) w) := by
  have hlt := hP.lt
  have c0 := cell_of_heap hP 0 (.int .i64 s.inn) rfl
  have e27 : (r == 27) = false := by simp; omega
  have e24 : (r == 24) = false := by simp; omega
  have e26 : (r == 26) = false := by simp; omega
  have HP := Lib.hid hP
  clear hP
  go_enter Try.func10, Try.ntmps10
  go_wp2_with fail
  go_returns
  exact tells_same HP.out rfl

set_option maxRecDepth 100000 in
set_option maxHeartbeats 2000000 in
theorem step_del (p : Nat) (s : PS) (r : Int) (w : World) (hP : PAt w p s) (h1 : 127 ≤ r) (h2 : r ≤ 159) :
    Calls Try.prog 10 #[.pointer (some ⟨p, 0, none⟩), .int .i32 r] w (Tells p (s, .zero, false) w) := by
  have hlt := hP.lt
  have c0 := cell_of_heap hP 0 (.int .i64 s.inn) rfl
  have e27 : (r == 27) = false := by simp; omega
  have e24 : (r == 24) = false := by simp; omega
  have e26 : (r == 26) = false := by simp; omega
  have HP := Lib.hid hP
  clear hP
  go_enter Try.func10, Try.ntmps10
  go_wp2_with fail
  go_returns
  exact tells_same HP.out rfl

set_option maxRecDepth 100000 in
set_option maxHeartbeats 2000000 in
theorem step_gt (p : Nat) (s : PS) (r : Int) (w : World) (hP : PAt w p s) (h : 1114111 < r) :
    Calls Try.prog 10 #[.pointer (some ⟨p, 0, none⟩), .int .i32 r] w (Tells p (s, .zero, false) w) := by
  have hlt := hP.lt
  have c0 := cell_of_heap hP 0 (.int .i64 s.inn) rfl
  have e27 : (r == 27) = false := by simp; omega
  have e24 : (r == 24) = false := by simp; omega
  have e26 : (r == 26) = false := by simp; omega
  have HP := Lib.hid hP
  clear hP
  go_enter Try.func10, Try.ntmps10
  go_wp2_with fail
  go_returns
  exact tells_same HP.out rfl

set_option maxRecDepth 100000 in
set_option maxHeartbeats 2000000 in
theorem step_bell (p : Nat) (s : PS) (w : World) (hP : PAt w p s) (hi : s.inn = 4) :
    Calls Try.prog 10 #[.pointer (some ⟨p, 0, none⟩), .int .i32 7] w (Tells p (.zero, .zero, false) w) := by
  have hlt := hP.lt
  have c0 := cell_of_heap hP 0 (.int .i64 s.inn) rfl
  rw [hi] at c0
  have HP := Lib.hid hP
  clear hP hi
  go_enter Try.func10, Try.ntmps10
  go_wp2_with fail
  refine (reset_any p s _ (hk_alloc hlt HP.out)).mono ?_
  rintro e w1 ⟨rfl, rfl⟩
  rw [alloc_setRow _ _ _ _ hlt]
  go_wp2_with fail
  go_returns
  exact tells_row HP.out rfl

set_option maxRecDepth 100000 in
set_option maxHeartbeats 2000000 in
theorem step_text (p : Nat) (s : PS) (r : Int) (w : World) (hP : PAt w p s) (hi : s.inn = 4) (h0 : 0 ≤ r) (h1 : r < 32) (e7 : (r == 7) = false) (e27 : (r == 27) = false) (e24 : (r == 24) = false) (e26 : (r == 26) = false) :
    Calls Try.prog 10 #[.pointer (some ⟨p, 0, none⟩), .int .i32 r] w (Tells p (s, .zero, false) w) := by
  have hlt := hP.lt
  have c0 := cell_of_heap hP 0 (.int .i64 s.inn) rfl
  rw [hi] at c0
  have HP := Lib.hid hP
  clear hP hi
  go_enter Try.func10, Try.ntmps10
  go_wp2_with fail
  go_returns
  exact tells_same HP.out rfl

set_option maxRecDepth 100000 in
set_option maxHeartbeats 2000000 in
theorem step_ctl (p : Nat) (s : PS) (r : Int) (w : World) (hP : PAt w p s) (hi : (s.inn == 4) = false) (h0 : 0 ≤ r) (h1 : r < 32) (e27 : (r == 27) = false) (e24 : (r == 24) = false) (e26 : (r == 26) = false) :
    Calls Try.prog 10 #[.pointer (some ⟨p, 0, none⟩), .int .i32 r] w (Tells p (s, .of 2 r 0, true) w) := by
  have hlt := hP.lt
  have c0 := cell_of_heap hP 0 (.int .i64 s.inn) rfl
  have HP := Lib.hid hP
  clear hP
  go_enter Try.func10, Try.ntmps10
  go_wp2_with fail
  go_returns
  exact tells_same HP.out rfl

set_option maxRecDepth 100000 in
set_option maxHeartbeats 2000000 in
theorem step_print_a (p : Nat) (s : PS) (r : Int) (w : World) (hP : PAt w p s) (hi : s.inn = 0) (h1 : 32 ≤ r) (h2 : r ≤ 126) :
    Calls Try.prog 10 #[.pointer (some ⟨p, 0, none⟩), .int .i32 r] w (Tells p (s, .of 1 r 0, true) w) := by
  have hlt := hP.lt
  have c0 := cell_of_heap hP 0 (.int .i64 s.inn) rfl
  have e27 : (r == 27) = false := by simp; omega
  have e24 : (r == 24) = false := by simp; omega
  have e26 : (r == 26) = false := by simp; omega
  rw [hi] at c0
  have HP := Lib.hid hP
  clear hP hi
  go_enter Try.func10, Try.ntmps10
  go_wp2_with fail
  go_returns
  exact tells_same HP.out rfl

set_option maxRecDepth 100000 in
set_option maxHeartbeats 2000000 in
theorem step_left_a (p : Nat) (s : PS) (r : Int) (w : World) (hP : PAt w p s) (hi : s.inn = 4) (h1 : 32 ≤ r) (h2 : r ≤ 126) :
    Calls Try.prog 10 #[.pointer (some ⟨p, 0, none⟩), .int .i32 r] w (Tells p (s, .zero, false) w) := by
  have hlt := hP.lt
  have c0 := cell_of_heap hP 0 (.int .i64 s.inn) rfl
  have e27 : (r == 27) = false := by simp; omega
  have e24 : (r == 24) = false := by simp; omega
  have e26 : (r == 26) = false := by simp; omega
  rw [hi] at c0
  have HP := Lib.hid hP
  clear hP hi
  go_enter Try.func10, Try.ntmps10
  go_wp2_with fail
  go_returns
  exact tells_same HP.out rfl

set_option maxRecDepth 100000 in
set_option maxHeartbeats 2000000 in
theorem step_esc_a (p : Nat) (s : PS) (r : Int) (w : World) (hP : PAt w p s) (hi : s.inn = 1) (h1 : 32 ≤ r) (h2 : r ≤ 126) :
    Calls Try.prog 10 #[.pointer (some ⟨p, 0, none⟩), .int .i32 r] w (Tells p (esc s r) w) := by
  have hlt := hP.lt
  have c0 := cell_of_heap hP 0 (.int .i64 s.inn) rfl
  have e27 : (r == 27) = false := by simp; omega
  have e24 : (r == 24) = false := by simp; omega
  have e26 : (r == 26) = false := by simp; omega
  rw [hi] at c0
  have HP := Lib.hid hP
  clear hP hi
  go_enter Try.func10, Try.ntmps10
  go_wp2_with fail
  refine (escape_any p s r _ (hk_alloc hlt HP.out) (by omega)).mono ?_
  obtain ⟨s', a, b, hx⟩ : ∃ s' a b, esc s r = (s', a, b) := ⟨_, _, _, rfl⟩
  rw [hx]
  have HX := Lib.hid hx
  clear hx
  rintro e w1 ⟨rfl, ho, hP1⟩
  have hH : w1.heap[w.heap.size]? = some (.cells AC.zero.cells 30 (0, 0)) := (ho.block _ (by simp) (by simp; omega)).trans (heap_alloc_new w _)
  have HO := Lib.hid ho
  have HP1 := Lib.hid hP1
  have HH := Lib.hid hH
  clear ho hP1 hH HP
  dsimp only
  go_wp2_with (refine wpList_store_abs (by rfl) 30 (.tmp 4) (.tmp 75) (by rfl) w.heap.size a.cells (by rfl) (by rfl) 30 AC.zero.cells HH.out size30 (by rfl) (AC.one _) ?_; intro w2 ho2 hz2 hg2)
  refine bodyPost_ret_by (results_act Try.results10 (by rfl) (by rfl) hg2 rfl) rfl ?_
  rw [HX.out]
  refine ⟨rfl, ?_, hP1_only HP1.out ho2 hlt⟩
  exact (((Only.refl [p] w).alloc _).and HO.out (fun i hi => .inl hi)).and ho2 (fun i hi => .inr (by simp at hi; omega))

set_option maxRecDepth 100000 in
set_option maxHeartbeats 2000000 in
theorem step_ctl_a (p : Nat) (s : PS) (r : Int) (w : World) (hP : PAt w p s) (hi : s.inn = 2) (h1 : 32 ≤ r) (h2 : r ≤ 126) (hok : s.Ok) :
    Calls Try.prog 10 #[.pointer (some ⟨p, 0, none⟩), .int .i32 r] w (Tells p (ctl s r) w) := by
  have hlt := hP.lt
  have c0 := cell_of_heap hP 0 (.int .i64 s.inn) rfl
  have e27 : (r == 27) = false := by simp; omega
  have e24 : (r == 24) = false := by simp; omega
  have e26 : (r == 26) = false := by simp; omega
  rw [hi] at c0
  have HP := Lib.hid hP
  clear hP hi
  go_enter Try.func10, Try.ntmps10
  go_wp2_with fail
  refine (control_any p s r _ (hk_alloc hlt HP.out) (by omega) hok).mono ?_
  obtain ⟨s', a, b, hx⟩ : ∃ s' a b, ctl s r = (s', a, b) := ⟨_, _, _, rfl⟩
  rw [hx]
  have HX := Lib.hid hx
  clear hx hok
  rintro e w1 ⟨rfl, ho, hP1⟩
  have hH : w1.heap[w.heap.size]? = some (.cells AC.zero.cells 30 (0, 0)) := (ho.block _ (by simp) (by simp; omega)).trans (heap_alloc_new w _)
  have HO := Lib.hid ho
  have HP1 := Lib.hid hP1
  have HH := Lib.hid hH
  clear ho hP1 hH HP
  dsimp only
  go_wp2_with (refine wpList_store_abs (by rfl) 30 (.tmp 4) (.tmp 82) (by rfl) w.heap.size a.cells (by rfl) (by rfl) 30 AC.zero.cells HH.out size30 (by rfl) (AC.one _) ?_; intro w2 ho2 hz2 hg2)
  refine bodyPost_ret_by (results_act Try.results10 (by rfl) (by rfl) hg2 rfl) rfl ?_
  rw [HX.out]
  refine ⟨rfl, ?_, hP1_only HP1.out ho2 hlt⟩
  exact (((Only.refl [p] w).alloc _).and HO.out (fun i hi => .inl hi)).and ho2 (fun i hi => .inr (by simp at hi; omega))

set_option maxRecDepth 100000 in
set_option maxHeartbeats 2000000 in
theorem step_end_1 (p : Nat) (s : PS) (r : Int) (w : World) (hP : PAt w p s) (hi : s.inn = 3) (h1 : 64 ≤ r) (h2 : r ≤ 126) :
    Calls Try.prog 10 #[.pointer (some ⟨p, 0, none⟩), .int .i32 r] w (Tells p (.zero, .zero, false) w) := by
  have hlt := hP.lt
  have c0 := cell_of_heap hP 0 (.int .i64 s.inn) rfl
  have e27 : (r == 27) = false := by simp; omega
  have e24 : (r == 24) = false := by simp; omega
  have e26 : (r == 26) = false := by simp; omega
  rw [hi] at c0
  have HP := Lib.hid hP
  clear hP hi
  go_enter Try.func10, Try.ntmps10
  go_wp2_with fail
  refine (reset_any p s _ (hk_alloc hlt HP.out)).mono ?_
  rintro e w1 ⟨rfl, rfl⟩
  rw [alloc_setRow _ _ _ _ hlt]
  go_wp2_with fail
  go_returns
  exact tells_row HP.out rfl

set_option maxRecDepth 100000 in
set_option maxHeartbeats 2000000 in
theorem step_end_2 (p : Nat) (s : PS) (r : Int) (w : World) (hP : PAt w p s) (hi : s.inn = 3) (h1 : 32 ≤ r) (h2 : r < 64) :
    Calls Try.prog 10 #[.pointer (some ⟨p, 0, none⟩), .int .i32 r] w (Tells p (s, .zero, false) w) := by
  have hlt := hP.lt
  have c0 := cell_of_heap hP 0 (.int .i64 s.inn) rfl
  have e27 : (r == 27) = false := by simp; omega
  have e24 : (r == 24) = false := by simp; omega
  have e26 : (r == 26) = false := by simp; omega
  rw [hi] at c0
  have HP := Lib.hid hP
  clear hP hi
  go_enter Try.func10, Try.ntmps10
  go_wp2_with fail
  go_returns
  exact tells_same HP.out rfl

set_option maxRecDepth 100000 in
set_option maxHeartbeats 2000000 in
theorem step_print_b (p : Nat) (s : PS) (r : Int) (w : World) (hP : PAt w p s) (hi : s.inn = 0) (h1 : 160 ≤ r) (h2 : r ≤ 1114111) :
    Calls Try.prog 10 #[.pointer (some ⟨p, 0, none⟩), .int .i32 r] w (Tells p (s, .of 1 r 0, true) w) := by
  have hlt := hP.lt
  have c0 := cell_of_heap hP 0 (.int .i64 s.inn) rfl
  have e27 : (r == 27) = false := by simp; omega
  have e24 : (r == 24) = false := by simp; omega
  have e26 : (r == 26) = false := by simp; omega
  rw [hi] at c0
  have HP := Lib.hid hP
  clear hP hi
  go_enter Try.func10, Try.ntmps10
  go_wp2_with fail
  go_returns
  exact tells_same HP.out rfl

set_option maxRecDepth 100000 in
set_option maxHeartbeats 2000000 in
theorem step_left_b (p : Nat) (s : PS) (r : Int) (w : World) (hP : PAt w p s) (hi : s.inn = 4) (h1 : 160 ≤ r) (h2 : r ≤ 1114111) :
    Calls Try.prog 10 #[.pointer (some ⟨p, 0, none⟩), .int .i32 r] w (Tells p (s, .zero, false) w) := by
  have hlt := hP.lt
  have c0 := cell_of_heap hP 0 (.int .i64 s.inn) rfl
  have e27 : (r == 27) = false := by simp; omega
  have e24 : (r == 24) = false := by simp; omega
  have e26 : (r == 26) = false := by simp; omega
  rw [hi] at c0
  have HP := Lib.hid hP
  clear hP hi
  go_enter Try.func10, Try.ntmps10
  go_wp2_with fail
  go_returns
  exact tells_same HP.out rfl

set_option maxRecDepth 100000 in
set_option maxHeartbeats 2000000 in
theorem step_esc_b (p : Nat) (s : PS) (r : Int) (w : World) (hP : PAt w p s) (hi : s.inn = 1) (h1 : 160 ≤ r) (h2 : r ≤ 1114111) :
    Calls Try.prog 10 #[.pointer (some ⟨p, 0, none⟩), .int .i32 r] w (Tells p (esc s r) w) := by
  have hlt := hP.lt
  have c0 := cell_of_heap hP 0 (.int .i64 s.inn) rfl
  have e27 : (r == 27) = false := by simp; omega
  have e24 : (r == 24) = false := by simp; omega
  have e26 : (r == 26) = false := by simp; omega
  rw [hi] at c0
  have HP := Lib.hid hP
  clear hP hi
  go_enter Try.func10, Try.ntmps10
  go_wp2_with fail
  refine (escape_any p s r _ (hk_alloc hlt HP.out) (by omega)).mono ?_
  obtain ⟨s', a, b, hx⟩ : ∃ s' a b, esc s r = (s', a, b) := ⟨_, _, _, rfl⟩
  rw [hx]
  have HX := Lib.hid hx
  clear hx
  rintro e w1 ⟨rfl, ho, hP1⟩
  have hH : w1.heap[w.heap.size]? = some (.cells AC.zero.cells 30 (0, 0)) := (ho.block _ (by simp) (by simp; omega)).trans (heap_alloc_new w _)
  have HO := Lib.hid ho
  have HP1 := Lib.hid hP1
  have HH := Lib.hid hH
  clear ho hP1 hH HP
  dsimp only
  go_wp2_with (refine wpList_store_abs (by rfl) 30 (.tmp 4) (.tmp 75) (by rfl) w.heap.size a.cells (by rfl) (by rfl) 30 AC.zero.cells HH.out size30 (by rfl) (AC.one _) ?_; intro w2 ho2 hz2 hg2)
  refine bodyPost_ret_by (results_act Try.results10 (by rfl) (by rfl) hg2 rfl) rfl ?_
  rw [HX.out]
  refine ⟨rfl, ?_, hP1_only HP1.out ho2 hlt⟩
  exact (((Only.refl [p] w).alloc _).and HO.out (fun i hi => .inl hi)).and ho2 (fun i hi => .inr (by simp at hi; omega))

set_option maxRecDepth 100000 in
set_option maxHeartbeats 2000000 in
theorem step_ctl_b (p : Nat) (s : PS) (r : Int) (w : World) (hP : PAt w p s) (hi : s.inn = 2) (h1 : 160 ≤ r) (h2 : r ≤ 1114111) (hok : s.Ok) :
    Calls Try.prog 10 #[.pointer (some ⟨p, 0, none⟩), .int .i32 r] w (Tells p (ctl s r) w) := by
  have hlt := hP.lt
  have c0 := cell_of_heap hP 0 (.int .i64 s.inn) rfl
  have e27 : (r == 27) = false := by simp; omega
  have e24 : (r == 24) = false := by simp; omega
  have e26 : (r == 26) = false := by simp; omega
  rw [hi] at c0
  have HP := Lib.hid hP
  clear hP hi
  go_enter Try.func10, Try.ntmps10
  go_wp2_with fail
  refine (control_any p s r _ (hk_alloc hlt HP.out) (by omega) hok).mono ?_
  obtain ⟨s', a, b, hx⟩ : ∃ s' a b, ctl s r = (s', a, b) := ⟨_, _, _, rfl⟩
  rw [hx]
  have HX := Lib.hid hx
  clear hx hok
  rintro e w1 ⟨rfl, ho, hP1⟩
  have hH : w1.heap[w.heap.size]? = some (.cells AC.zero.cells 30 (0, 0)) := (ho.block _ (by simp) (by simp; omega)).trans (heap_alloc_new w _)
  have HO := Lib.hid ho
  have HP1 := Lib.hid hP1
  have HH := Lib.hid hH
  clear ho hP1 hH HP
  dsimp only
  go_wp2_with (refine wpList_store_abs (by rfl) 30 (.tmp 4) (.tmp 82) (by rfl) w.heap.size a.cells (by rfl) (by rfl) 30 AC.zero.cells HH.out size30 (by rfl) (AC.one _) ?_; intro w2 ho2 hz2 hg2)
  refine bodyPost_ret_by (results_act Try.results10 (by rfl) (by rfl) hg2 rfl) rfl ?_
  rw [HX.out]
  refine ⟨rfl, ?_, hP1_only HP1.out ho2 hlt⟩
  exact (((Only.refl [p] w).alloc _).and HO.out (fun i hi => .inl hi)).and ho2 (fun i hi => .inr (by simp at hi; omega))

set_option maxRecDepth 100000 in
set_option maxHeartbeats 2000000 in
theorem step_end_3 (p : Nat) (s : PS) (r : Int) (w : World) (hP : PAt w p s) (hi : s.inn = 3) (h1 : 160 ≤ r) (h2 : r ≤ 1114111) :
    Calls Try.prog 10 #[.pointer (some ⟨p, 0, none⟩), .int .i32 r] w (Tells p (s, .zero, false) w) := by
  have hlt := hP.lt
  have c0 := cell_of_heap hP 0 (.int .i64 s.inn) rfl
  have e27 : (r == 27) = false := by simp; omega
  have e24 : (r == 24) = false := by simp; omega
  have e26 : (r == 26) = false := by simp; omega
  rw [hi] at c0
  have HP := Lib.hid hP
  clear hP hi
  go_enter Try.func10, Try.ntmps10
  go_wp2_with fail
  go_returns
  exact tells_same HP.out rfl

theorem step_any (p : Nat) (s : PS) (r : Int) (w : World) (hP : PAt w p s) (hok : s.Ok) :
    Calls Try.prog 10 #[.pointer (some ⟨p, 0, none⟩), .int .i32 r] w (Tells p (step s r) w) := by
  have hin := hok.inn
  have go : ∀ {x y : PS × AC × Bool}, x = y → Calls Try.prog 10 #[.pointer (some ⟨p, 0, none⟩), .int .i32 r] w (Tells p y w) → Calls Try.prog 10 #[.pointer (some ⟨p, 0, none⟩), .int .i32 r] w (Tells p x w) := fun e h => e ▸ h
  by_cases h27 : r = 27
  · subst h27; exact go (by unfold step; rw [if_pos rfl]) (step_27 p s w hP)
  · by_cases h24 : r = 24
    · subst h24; exact go (by unfold step; repeat (first | rw [if_pos (by omega)] | rw [if_neg (by omega)])) (step_24 p s w hP)
    · by_cases h26 : r = 26
      · subst h26; exact go (by unfold step; repeat (first | rw [if_pos (by omega)] | rw [if_neg (by omega)])) (step_26 p s w hP)
      · have e27 : (r == 27) = false := by simpa using h27
        have e24 : (r == 24) = false := by simpa using h24
        have e26 : (r == 26) = false := by simpa using h26
        by_cases b1 : r < 0
        · exact go (by unfold step; repeat (first | rw [if_pos (by omega)] | rw [if_neg (by omega)])) (step_lt p s r w hP b1)
        · by_cases b2 : 127 ≤ r ∧ r ≤ 159
          · exact go (by unfold step; repeat (first | rw [if_pos (by omega)] | rw [if_neg (by omega)])) (step_del p s r w hP b2.1 b2.2)
          · by_cases b3 : 1114111 < r
            · exact go (by unfold step; repeat (first | rw [if_pos (by omega)] | rw [if_neg (by omega)])) (step_gt p s r w hP b3)
            · by_cases c : r < 32
              · by_cases hi : s.inn = 4
                · by_cases h7 : r = 7
                  · subst h7; exact go (by unfold step; repeat (first | rw [if_pos (by omega)] | rw [if_neg (by omega)])) (step_bell p s w hP hi)
                  · exact go (by unfold step; repeat (first | rw [if_pos (by omega)] | rw [if_neg (by omega)])) (step_text p s r w hP hi (by omega) c (by simpa using h7) e27 e24 e26)
                · exact go (by unfold step; repeat (first | rw [if_pos (by omega)] | rw [if_neg (by omega)])) (step_ctl p s r w hP (by simpa using hi) (by omega) c e27 e24 e26)
              · by_cases d : r ≤ 126
                · by_cases i0 : s.inn = 0
                  · exact go (by unfold step; repeat (first | rw [if_pos (by omega)] | rw [if_neg (by omega)])) (step_print_a p s r w hP i0 (by omega) d)
                  · by_cases i1 : s.inn = 1
                    · exact go (by unfold step; repeat (first | rw [if_pos (by omega)] | rw [if_neg (by omega)])) (step_esc_a p s r w hP i1 (by omega) d)
                    · by_cases i2 : s.inn = 2
                      · exact go (by unfold step; repeat (first | rw [if_pos (by omega)] | rw [if_neg (by omega)])) (step_ctl_a p s r w hP i2 (by omega) d hok)
                      · by_cases i3 : s.inn = 3
                        · by_cases f : 64 ≤ r
                          · exact go (by unfold step; repeat (first | rw [if_pos (by omega)] | rw [if_neg (by omega)])) (step_end_1 p s r w hP i3 f d)
                          · exact go (by unfold step; repeat (first | rw [if_pos (by omega)] | rw [if_neg (by omega)])) (step_end_2 p s r w hP i3 (by omega) (by omega))
                        · exact go (by unfold step; repeat (first | rw [if_pos (by omega)] | rw [if_neg (by omega)])) (step_left_a p s r w hP (by omega) (by omega) d)
                · by_cases i0 : s.inn = 0
                  · exact go (by unfold step; repeat (first | rw [if_pos (by omega)] | rw [if_neg (by omega)])) (step_print_b p s r w hP i0 (by omega) (by omega))
                  · by_cases i1 : s.inn = 1
                    · exact go (by unfold step; repeat (first | rw [if_pos (by omega)] | rw [if_neg (by omega)])) (step_esc_b p s r w hP i1 (by omega) (by omega))
                    · by_cases i2 : s.inn = 2
                      · exact go (by unfold step; repeat (first | rw [if_pos (by omega)] | rw [if_neg (by omega)])) (step_ctl_b p s r w hP i2 (by omega) (by omega) hok)
                      · by_cases i3 : s.inn = 3
                        · exact go (by unfold step; repeat (first | rw [if_pos (by omega)] | rw [if_neg (by omega)])) (step_end_3 p s r w hP i3 (by omega) (by omega))
                        · exact go (by unfold step; repeat (first | rw [if_pos (by omega)] | rw [if_neg (by omega)])) (step_left_b p s r w hP (by omega) (by omega) (by omega))
end Esc
end Go.Proofs.Ytgbpmefiafoliaa
