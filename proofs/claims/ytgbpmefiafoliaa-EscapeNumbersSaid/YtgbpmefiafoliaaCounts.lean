/- EscapeCounts returns true for every input, and leaves what was there as it was. No condition. -/
import Derived.Test.YtgbpmefiafoliaaSmall
import Derived.Test.YtgbpmefiafoliaaQuiet
import Derived.ProofKit
import Derived.OpenShut
import Derived.ShutString
import Derived.ChangeOld
import Derived.Deep.LoopGhost
import Derived.Deep.DeepCutAuto
namespace Go.Proofs.Ytgbpmefiafoliaa
open Go.ChangeShapes Go.WideShapes Go.ChangeAt Go.RowKit
namespace Esc
namespace Counts
theorem act_cell {w : World} {H k : Nat} {A : AC} (h : w.heap[H]? = some (.cells A.cells 30 (0, 0))) (hk : k < 8) : w.cell? ⟨H, 5 + k, none⟩ = some (.int .i64 (A.x k)) := by
  refine cell_of_heap h (5 + k) _ ?_
  obtain rfl | rfl | rfl | rfl | rfl | rfl | rfl | rfl : k = 0 ∨ k = 1 ∨ k = 2 ∨ k = 3 ∨ k = 4 ∨ k = 5 ∨ k = 6 ∨ k = 7 := by omega
  all_goals rfl
set_option maxRecDepth 1000000 in
set_option maxHeartbeats 8000000 in
theorem walk (a : Option Addr) (n c : Nat) (xs : List Int) (w : World) (h : In32 w w.heap.size a n c xs) :
    Calls Try.prog 3 #[.slice a n c] w fun e w' => e = .returned (.bool true) ∧ Below w.heap.size w w' := by
  go_enter Try.func3, Try.ntmps3
  go_wp2_with fail
  refine (awake_any w).mono ?_
  rintro e w1 ⟨rfl, hb1⟩
  have z1 := hb1.size
  have h1 := h.keep hb1
  clear h
  have hb2 : Below w.heap.size w (w1.alloc (.cells PS.zero.cells 27)) := hb1.alloc z1 _
  have h2 : In32 (w1.alloc (.cells PS.zero.cells 27)) w.heap.size a n c xs := h1.keep ((Below.refl _ _).alloc z1 _)
  have hP : PAt (w1.alloc (.cells PS.zero.cells 27)) w1.heap.size .zero := new_at rfl
  clear h1 hb1
  go_wp2_with fail
  refine (few_any w.heap.size a n c xs _ h2).mono ?_
  rintro e w2 ⟨rfl, hw2⟩
  have hf := few_reads h2
  have hfl := few_len xs
  change PAt (w1.alloc (.cells PS.zero.cells 27)) w1.heap.size .zero at hP
  rw [hw2] at hb2 hf hP
  clear h2 hw2
  generalize few xs = fs at hf hfl ⊢
  generalize w1.heap.size = p at hP z1 ⊢
  obtain ⟨m, hm⟩ : ∃ m, m = fs.length := ⟨_, rfl⟩
  rw [← hm] at hf hfl ⊢
  have HM := Lib.hid hm
  have HR := Lib.hid hf
  have HP := Lib.hid hP
  have HB := Lib.hid hb2
  clear hm hf hP hb2
  go_wp2_with fail
  go_loopw [6] (fun iv wr => ∃ (i : Nat) (s : PS), i ≤ m ∧ iv = .int .i64 (i : Int) ∧ s.Ok ∧ PAt wr p s ∧ Below w.heap.size w wr ∧ Below w.heap.size w2 wr) (fun iv _ => m - (intOf iv).toNat)
  case atStart => exact ⟨0, .zero, Nat.zero_le _, rfl, PS.zero_ok, HP.out, HB.out, Below.refl _ _⟩
  case round =>
    obtain ⟨i, s, hi, rfl, hok, hP, hb, hb2⟩ := hrel
    have z := hb.size
    by_cases hlt : i < m
    · have hml := HM.out
      obtain ⟨g, off, ea, hg, k1⟩ := (HR.out.keep hb2).cells hlt
      subst ea
      obtain ⟨x, hx⟩ : ∃ x, x = fs[i]'(by omega) := ⟨_, rfl⟩
      have cx := k1 (.int .i32 x) (by simp [is, show i < fs.length by omega, hx])
      have i0 : (0 : Int) ≤ (i : Int) := by omega
      have i1 : (i : Int) < (m : Int) := by omega
      obtain ⟨t, A, B, hst⟩ : ∃ t A B, step s x = (t, A, B) := ⟨_, _, _, rfl⟩
      have hok2 := step_ok s x hok
      have hstep := step_any p s x wr hP hok
      rw [hst] at hok2 hstep
      have HS := Lib.hid hstep
      have hpl := hP.lt
      clear k1 hx hml hstep hst hok hP
      obtain ⟨htok, hA⟩ := hok2
      dsimp only at htok hA
      go_wp2_with fail
      refine HS.out.mono ?_
      rintro e w4 ⟨rfl, ho, hP4⟩
      dsimp only at hP4 ⊢
      have hb4 : Below w.heap.size w w4 := hb.trans (ho.below z (by simp; omega))
      have hb24 : Below w.heap.size w2 w4 := hb2.trans (ho.below z (by simp; omega))
      have cx4 : w4.cell? ⟨g, off + i, none⟩ = some (.int .i32 x) := (World.cell?_of_block (ho.block g (by omega) (by simp; omega))).trans cx
      have hg4 : g < w4.heap.size := by have := hb4.size; omega
      have z4 := hb4.size
      have HP4 := Lib.hid hP4
      have HB4 := Lib.hid hb4
      have HB24 := Lib.hid hb24
      clear HS ho hP4 cx hb hb2 hb4 hb24
      go_wp2_with (refine wpList_store_abs (by rfl) 30 (.tmp 7) (.tmp 28) (by rfl) w4.heap.size A.cells (by rfl) (by rfl) 30 AC.zero.cells (heap_alloc_new _ _) size30 (by rfl) (AC.one _) ?_; intro w5 ho5 hsz5 hg5)
      have hP5 : PAt w5 p t := (ho5.block p (by have := HP4.out.lt; simp; omega) (by have := HP4.out.lt; simp; omega)).trans (hk_alloc HP4.out.lt HP4.out)
      have hb5 : Below w.heap.size w w5 := (HB4.out.alloc z4 _).trans (ho5.below (by simp; omega) (by simp; omega))
      have hb25 : Below w.heap.size w2 w5 := (HB24.out.alloc z4 _).trans (ho5.below (by simp; omega) (by simp; omega))
      have cx5 : w5.cell? ⟨g, off + i, none⟩ = some (.int .i32 x) := (World.cell?_of_block (ho5.block g (by simp; omega) (by simp; omega))).trans ((World.cell?_alloc_lt _ _ _ hg4).trans cx4)
      have q0 := cell_of_heap hg5 0 (.int .i64 A.kind) rfl
      have q1 := cell_of_heap hg5 1 (.int .i32 A.r) rfl
      have q4 := cell_of_heap hg5 4 (.int .i64 A.n) rfl
      have hx5 : ∀ k : Nat, k < 8 → w5.cell? ⟨w4.heap.size, 5 + k, none⟩ = some (.int .i64 (A.x k)) := fun k hk => act_cell hg5 hk
      obtain ⟨u1, ⟨u2, u3⟩, ⟨u4, u5⟩, u6, u7, u8, u9⟩ := hA
      have z5 := hb5.size
      have HP5 := Lib.hid hP5
      have HB5 := Lib.hid hb5
      have HB25 := Lib.hid hb25
      have HX5 := Lib.hid hx5
      have U8 := Lib.hid u8
      have U9 := Lib.hid u9
      clear HP4 HB4 HB24 ho5 hg5 hP5 hb5 hb25 hx5 u8 u9 cx4 hg4
      cases B with
      | false =>
        have hk0 : A.kind = 0 := by simpa using u1
        have hn0 : A.n = 0 := u6 (by omega)
        rw [hk0] at q0
        rw [hn0] at q4
        have NZ := Lib.hid hn0
        clear u1 u6 u7 hk0 hn0
        go_quiet (fail)
        have HP6 : Hid (PAt (w5.drewN nq) p t) := HP5
        have HB6 : Hid (Below w.heap.size w (w5.drewN nq)) := Lib.hid (below_drewN HB5.out nq)
        have HB26 : Hid (Below w.heap.size w2 (w5.drewN nq)) := Lib.hid (below_drewN HB25.out nq)
        have HX6 : Hid (∀ k : Nat, k < 8 → (w5.drewN nq).cell? ⟨w4.heap.size, 5 + k, none⟩ = some (.int .i64 (A.x k))) := HX5
        have r4 : (w5.drewN nq).cell? ⟨w4.heap.size, 4, none⟩ = some (.int .i64 0) := q4
        clear HP5 HB5 HB25 HX5 q0 q1 q4 cx5
        generalize w5.drewN nq = w6 at HP6 HB6 HB26 HX6 r4 ⊢
        go_wp2_with fail
        go_loopw [9] (fun kv wr => ∃ k : Nat, k ≤ 8 ∧ kv = .int .i64 (k : Int) ∧ wr = w6) (fun kv _ => 8 - (intOf kv).toNat)
        case atStart => exact ⟨0, by omega, rfl, rfl⟩
        case round =>
          obtain ⟨k, hk, rfl, rfl⟩ := hrel
          by_cases hk8 : k < 8
          · have y0 := HX6.out k hk8
            have yb := U8.out k
            have yz := U9.out k
            generalize A.x k = y at y0 yb yz
            have k0 : (0 : Int) ≤ (k : Int) := by omega
            have k1 : (k : Int) < 8 := by omega
            obtain ⟨yb1, yb2⟩ := yb
            by_cases hnk : 0 ≤ (k : Int)
            · obtain rfl : y = 0 := yz (by rw [NZ.out]; exact hnk)
              clear yz
              go_wp2_with fail
              go_roundw
              case rel => exact ⟨k + 1, by omega, by go_num, trivial⟩
              case measure => simp [intOf]; omega
            · exact absurd k0 hnk
          · obtain rfl : k = 8 := by omega
            go_wp2_with fail
            go_roundw
            case rel => exact ⟨i + 1, t, by omega, by go_num, htok, HP6.out, HB6.out, HB26.out⟩
            case measure => simp [intOf]; omega
      | true =>
        have hkn : A.kind ≠ 0 := by simpa using u1
        have hr := u7 rfl
        rw [hr] at q1
        have e1 : ((x : Int) != x) = false := by simp
        by_cases hk4 : A.kind = 4
        · rw [hk4] at q0
          have d3 : decide (A.n < 0) = false := by simp; omega
          have d4 : decide (8 < A.n) = false := by simp; omega
          clear u1 u6 u7 hk4 hkn hr
          go_quiet (fail)
          have HP6 : Hid (PAt (w5.drewN nq) p t) := HP5
          have HB6 : Hid (Below w.heap.size w (w5.drewN nq)) := Lib.hid (below_drewN HB5.out nq)
          have HB26 : Hid (Below w.heap.size w2 (w5.drewN nq)) := Lib.hid (below_drewN HB25.out nq)
          have HX6 : Hid (∀ k : Nat, k < 8 → (w5.drewN nq).cell? ⟨w4.heap.size, 5 + k, none⟩ = some (.int .i64 (A.x k))) := HX5
          have r4 : (w5.drewN nq).cell? ⟨w4.heap.size, 4, none⟩ = some (.int .i64 A.n) := q4
          clear HP5 HB5 HB25 HX5 q0 q1 q4 cx5
          generalize w5.drewN nq = w6 at HP6 HB6 HB26 HX6 r4 ⊢
          go_wp2_with fail
          go_loopw [9] (fun kv wr => ∃ k : Nat, k ≤ 8 ∧ kv = .int .i64 (k : Int) ∧ wr = w6) (fun kv _ => 8 - (intOf kv).toNat)
          case atStart => exact ⟨0, by omega, rfl, rfl⟩
          case round =>
            obtain ⟨k, hk, rfl, rfl⟩ := hrel
            by_cases hk8 : k < 8
            · have y0 := HX6.out k hk8
              have yb := U8.out k
              have yz := U9.out k
              generalize A.x k = y at y0 yb yz
              have k0 : (0 : Int) ≤ (k : Int) := by omega
              have k1 : (k : Int) < 8 := by omega
              obtain ⟨yb1, yb2⟩ := yb
              by_cases hnk : A.n ≤ (k : Int)
              · obtain rfl : y = 0 := yz hnk
                clear yz
                go_wp2_with fail
                go_roundw
                case rel => exact ⟨k + 1, by omega, by go_num, trivial⟩
                case measure => simp [intOf]; omega
              · clear yz
                go_wp2_with fail
                go_roundw
                case rel => exact ⟨k + 1, by omega, by go_num, trivial⟩
                case measure => simp [intOf]; omega
            · obtain rfl : k = 8 := by omega
              go_wp2_with fail
              go_roundw
              case rel => exact ⟨i + 1, t, by omega, by go_num, htok, HP6.out, HB6.out, HB26.out⟩
              case measure => simp [intOf]; omega
        · have hn0 : A.n = 0 := u6 hk4
          rw [hn0] at q4
          have NZ := Lib.hid hn0
          have d0 : (A.kind != 0) = true := by simpa using hkn
          have d1 : decide (A.kind < 0) = false := by simp; omega
          have d2 : decide (4 < A.kind) = false := by simp; omega
          have d5 : (A.kind != 4) = true := by simpa using hk4
          clear u1 u6 u7 hk4 hkn hr hn0
          go_quiet (fail)
          have HP6 : Hid (PAt (w5.drewN nq) p t) := HP5
          have HB6 : Hid (Below w.heap.size w (w5.drewN nq)) := Lib.hid (below_drewN HB5.out nq)
          have HB26 : Hid (Below w.heap.size w2 (w5.drewN nq)) := Lib.hid (below_drewN HB25.out nq)
          have HX6 : Hid (∀ k : Nat, k < 8 → (w5.drewN nq).cell? ⟨w4.heap.size, 5 + k, none⟩ = some (.int .i64 (A.x k))) := HX5
          have r4 : (w5.drewN nq).cell? ⟨w4.heap.size, 4, none⟩ = some (.int .i64 0) := q4
          clear HP5 HB5 HB25 HX5 q0 q1 q4 cx5
          generalize w5.drewN nq = w6 at HP6 HB6 HB26 HX6 r4 ⊢
          go_wp2_with fail
          go_loopw [9] (fun kv wr => ∃ k : Nat, k ≤ 8 ∧ kv = .int .i64 (k : Int) ∧ wr = w6) (fun kv _ => 8 - (intOf kv).toNat)
          case atStart => exact ⟨0, by omega, rfl, rfl⟩
          case round =>
            obtain ⟨k, hk, rfl, rfl⟩ := hrel
            by_cases hk8 : k < 8
            · have y0 := HX6.out k hk8
              have yb := U8.out k
              have yz := U9.out k
              generalize A.x k = y at y0 yb yz
              have k0 : (0 : Int) ≤ (k : Int) := by omega
              have k1 : (k : Int) < 8 := by omega
              obtain ⟨yb1, yb2⟩ := yb
              by_cases hnk : 0 ≤ (k : Int)
              · obtain rfl : y = 0 := yz (by rw [NZ.out]; exact hnk)
                clear yz
                go_wp2_with fail
                go_roundw
                case rel => exact ⟨k + 1, by omega, by go_num, trivial⟩
                case measure => simp [intOf]; omega
              · exact absurd k0 hnk
            · obtain rfl : k = 8 := by omega
              go_wp2_with fail
              go_roundw
              case rel => exact ⟨i + 1, t, by omega, by go_num, htok, HP6.out, HB6.out, HB26.out⟩
              case measure => simp [intOf]; omega
    · obtain rfl : i = m := by omega
      go_wp2_with fail
      go_returns
      exact ⟨rfl, hb⟩
end Counts
end Esc
end Go.Proofs.Ytgbpmefiafoliaa
