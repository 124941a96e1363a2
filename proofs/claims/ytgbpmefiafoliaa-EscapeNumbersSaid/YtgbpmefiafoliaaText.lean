/- EscapeText returns true for every input, and leaves what was there as it was. No condition. -/
import Derived.Test.YtgbpmefiafoliaaEnds
import Derived.Test.YtgbpmefiafoliaaMask
namespace Go.Proofs.Ytgbpmefiafoliaa
open Go.ChangeShapes Go.WideShapes Go.ChangeAt Go.RowKit
namespace Esc
theorem mod_place (a : Int) (n : Nat) : ∃ i : Nat, i ≤ n ∧ -(n : Int) ≤ a.tmod ((n : Int) + 1) ∧ a.tmod ((n : Int) + 1) ≤ n ∧ (a.tmod ((n : Int) + 1) + n + 1).tmod ((n : Int) + 1) = i := by
  have h1 : a.tmod ((n : Int) + 1) < (n : Int) + 1 := Int.tmod_lt_of_pos _ (by omega)
  have h2 : -((n : Int) + 1) < a.tmod ((n : Int) + 1) := Int.lt_tmod_of_pos _ (by omega)
  have h3 : (a.tmod ((n : Int) + 1) + n + 1).tmod ((n : Int) + 1) < (n : Int) + 1 := Int.tmod_lt_of_pos _ (by omega)
  have h4 : 0 ≤ (a.tmod ((n : Int) + 1) + n + 1).tmod ((n : Int) + 1) := Int.tmod_nonneg _ (by omega)
  exact ⟨((a.tmod ((n : Int) + 1) + n + 1).tmod ((n : Int) + 1)).toNat, by omega, by omega, by omega, by omega⟩
theorem place5 (a : Int) : ∃ i : Nat, i ≤ 4 ∧ -4 ≤ a.tmod 5 ∧ a.tmod 5 ≤ 4 ∧ (a.tmod 5 + 5).tmod 5 = i := by
  have h1 : a.tmod 5 < 5 := Int.tmod_lt_of_pos _ (by omega)
  have h2 : -5 < a.tmod 5 := Int.lt_tmod_of_pos _ (by omega)
  have h3 : (a.tmod 5 + 5).tmod 5 < 5 := Int.tmod_lt_of_pos _ (by omega)
  have h4 : 0 ≤ (a.tmod 5 + 5).tmod 5 := Int.tmod_nonneg _ (by omega)
  exact ⟨((a.tmod 5 + 5).tmod 5).toNat, by omega, by omega, by omega, by omega⟩
theorem PAt.grow {w : World} {p : Nat} {s : PS} (h : PAt w p s) (o : Obj) : PAt (w.alloc o) p s := hk_alloc h.lt h
namespace Text
/-- In a text that is left out. -/
def Q : PS := { PS.zero with inn := 4 }
theorem starts (k : Nat) (hk : k < 5) : ∃ st : Int, (#[Value.int .i32 80, .int .i32 88, .int .i32 93, .int .i32 94, .int .i32 95] : Array Value)[k]? = some (.int .i32 st) ∧ feed .zero [27, st] = (Q, []) := by
  obtain rfl | rfl | rfl | rfl | rfl : k = 0 ∨ k = 1 ∨ k = 2 ∨ k = 3 ∨ k = 4 := by omega
  all_goals exact ⟨_, rfl, rfl⟩
theorem prints (r : Int) (h1 : 32 ≤ r) (h2 : ¬ (127 ≤ r ∧ r ≤ 159)) (h3 : r ≤ 1114111) : step .zero r = (.zero, .of 1 r 0, true) := by
  unfold step
  rw [if_neg (by omega), if_neg (by omega), if_neg (by omega), if_neg (by omega), if_neg (by omega), if_pos (by rfl)]
theorem left (r : Int) (h1 : 32 ≤ r) (h2 : ¬ (127 ≤ r ∧ r ≤ 159)) (h3 : r ≤ 1114111) : step Q r = (Q, .zero, false) := by
  unfold step
  rw [if_neg (by omega), if_neg (by omega), if_neg (by omega), if_neg (by omega), if_neg (by omega), if_neg (by decide), if_neg (by decide), if_neg (by decide), if_neg (by decide)]
theorem ends : step Q 7 = (.zero, .zero, false) := by unfold step; rw [if_neg (by decide), if_neg (by decide), if_neg (by decide), if_pos (by decide), if_pos (by decide)]
theorem Q_ok : Q.Ok := PS.in_ok 4 (by decide) (by decide)
set_option maxRecDepth 1000000 in
set_option maxHeartbeats 8000000 in
theorem walk (a : Option Addr) (n c : Nat) (xs : List Int) (bg : Int) (w : World) (h : In32 w w.heap.size a n c xs) :
    Calls Try.prog 6 #[.slice a n c, .int .i64 bg] w fun e w' => e = .returned (.bool true) ∧ Below w.heap.size w w' := by
  obtain ⟨k, hk, k1, k2, k3⟩ := place5 bg
  obtain ⟨st, hst, hfst⟩ := starts k (by omega)
  generalize hX : bg.tmod 5 = X at k1 k2 k3
  have HX := Lib.hid hX
  have kk0 : (0 : Int) ≤ (k : Int) := by omega
  have kk1 : (k : Int) < 5 := by omega
  go_enter Try.func6, Try.ntmps6
  go_wp2_with fail
  refine (awake_any w).mono ?_
  rintro e w1 ⟨rfl, hb1⟩
  have z1 := hb1.size
  have h1 := h.keep hb1
  clear h
  go_wp2_with fail
  refine (few_any w.heap.size a n c xs _ h1).mono ?_
  rintro e w2 ⟨rfl, rfl⟩
  have fx := few_reads h1
  have lx := few_len xs
  generalize few xs = fs at fx lx ⊢
  clear h1
  have W3 : ∃ W : World, W = (((w1.alloc (.cells PS.zero.cells 27)).alloc (.cells PS.zero.cells 27)).alloc (.cells #[.int .i32 80, .int .i32 88, .int .i32 93, .int .i32 94, .int .i32 95] 39)).alloc (.cells #[.int .i32 27, .int .i32 st] 21) := ⟨_, rfl⟩
  obtain ⟨w3, hw3⟩ := W3
  have hb3 : Below w.heap.size w w3 := by rw [hw3]; exact (((hb1.alloc z1 _).alloc (by simp; omega) _).alloc (by simp; omega) _).alloc (by simp; omega) _
  have hb13 : Below w.heap.size w1 w3 := by rw [hw3]; exact ((((Below.refl _ w1).alloc z1 _).alloc (by simp; omega) _).alloc (by simp; omega) _).alloc (by simp; omega) _
  have hP : PAt w3 w1.heap.size .zero := by rw [hw3]; exact hk_alloc (by simp; omega) (hk_alloc (by simp; omega) (hk_alloc (by simp) (new_at rfl)))
  have hQ : PAt w3 (w1.heap.size + 1) .zero := by rw [hw3]; exact hk_alloc (by simp) (hk_alloc (by simp) (new_at (by simp)))
  have hS : ((w1.alloc (.cells PS.zero.cells 27)).alloc (.cells PS.zero.cells 27)).alloc (.cells #[.int .i32 80, .int .i32 88, .int .i32 93, .int .i32 94, .int .i32 95] 39) = ((w1.alloc (.cells PS.zero.cells 27)).alloc (.cells PS.zero.cells 27)).alloc (.cells #[.int .i32 80, .int .i32 88, .int .i32 93, .int .i32 94, .int .i32 95] 39) := rfl
  have cst : (((w1.alloc (.cells PS.zero.cells 27)).alloc (.cells PS.zero.cells 27)).alloc (.cells #[.int .i32 80, .int .i32 88, .int .i32 93, .int .i32 94, .int .i32 95] 39)).cell? ⟨w1.heap.size + 1 + 1, k, none⟩ = some (.int .i32 st) := cell_of_heap (new_at (by simp)) k _ hst
  have hR : Rd w3 (w1.heap.size + 1) (some ⟨w1.heap.size + 1 + 1 + 1, 0, none⟩) 2 (is [27, st]) := by
    rw [hw3]
    refine ⟨rfl, .inr ⟨w1.heap.size + 1 + 1 + 1, 0, rfl, by simp, by omega, fun j u hu => ?_⟩⟩
    refine cell_of_heap (new_at (by simp)) (0 + j) u ?_
    simpa [is] using hu
  have hfeed := feed_any (w1.heap.size + 1) .zero (some ⟨w1.heap.size + 1 + 1 + 1, 0, none⟩) 2 2 [27, st] w3 hQ PS.zero_ok hR (by decide)
  rw [hfst] at hfeed
  rw [hw3] at hfeed
  have HF := Lib.hid hfeed
  have HB3 := Lib.hid hb3
  have HB13 := Lib.hid hb13
  have HP := Lib.hid hP
  have HW := Lib.hid hw3
  clear hfeed hfst hb3 hb13 hP hQ hR hS hw3 hb1
  go_wp2_with fail
  refine HF.out.mono ?_
  rintro e w4 ⟨xa4, xc4, rfl, -, ho4, hQ4⟩
  dsimp only at hQ4 ⊢
  rw [← HW.out] at ho4
  have hb4 : Below w.heap.size w w4 := HB3.out.trans (only_below ho4 (by have := HB3.out.size; omega) (by omega))
  have hb14 : Below w.heap.size w1 w4 := HB13.out.trans (only_below ho4 (by have := HB3.out.size; omega) (by omega))
  have hP4 := HP.out.far ho4 (by omega)
  clear HF HB3 HB13 HP HW ho4 hX cst hst kk0 kk1
  generalize w1.heap.size = A at hP4 hQ4 z1 ⊢
  obtain ⟨m, hm⟩ : ∃ m, m = fs.length := ⟨_, rfl⟩
  rw [← hm] at fx lx ⊢
  have HM := Lib.hid hm
  have HR := Lib.hid fx
  have HB4 := Lib.hid hb4
  have HB14 := Lib.hid hb14
  have HP4 := Lib.hid hP4
  have HQ4 := Lib.hid hQ4
  clear hm fx hb4 hb14 hP4 hQ4
  go_wp2_with fail
  go_loopw [10] (fun iv wr => ∃ i : Nat, i ≤ m ∧ iv = .int .i64 (i : Int) ∧ PAt wr A .zero ∧ PAt wr (A + 1) Q ∧ Below w.heap.size w wr ∧ Below w.heap.size w1 wr) (fun iv _ => m - (intOf iv).toNat)
  case atStart => exact ⟨0, Nat.zero_le _, rfl, HP4.out, HQ4.out, HB4.out, HB14.out⟩
  case round =>
    obtain ⟨i, hi, rfl, hP, hQ, hb, hb2⟩ := hrel
    have z := hb.size
    by_cases hlt : i < m
    · have hml := HM.out
      obtain ⟨g, off, ea, hg, c1⟩ := (HR.out.keep hb2).cells hlt
      subst ea
      obtain ⟨r, hx⟩ : ∃ x, x = fs[i]'(by omega) := ⟨_, rfl⟩
      have cx := c1 (.int .i32 r) (by simp [is, show i < fs.length by omega, hx])
      have i0 : (0 : Int) ≤ (i : Int) := by omega
      have i1 : (i : Int) < (m : Int) := by omega
      have HP := Lib.hid hP
      have HQ := Lib.hid hQ
      have HB := Lib.hid hb
      have HB2 := Lib.hid hb2
      clear c1 hx hml hP hQ hb hb2
      by_cases t1 : r < 32
      · go_wp2_with fail
        go_roundw
        case rel => exact ⟨i + 1, by omega, by go_num, HP.out, HQ.out, HB.out, HB2.out⟩
        case measure => simp [intOf]; omega
      · by_cases t2 : 127 ≤ r ∧ r ≤ 159
        · obtain ⟨t3, t4⟩ := t2
          go_wp2_with fail
          go_roundw
          case rel => exact ⟨i + 1, by omega, by go_num, HP.out, HQ.out, HB.out, HB2.out⟩
          case measure => simp [intOf]; omega
        · by_cases t5 : 1114111 < r
          · have t3 : 127 ≤ r := by omega
            have t4 : ¬ r ≤ 159 := by omega
            clear t2
            go_wp2_with fail
            go_roundw
            case rel => exact ⟨i + 1, by omega, by go_num, HP.out, HQ.out, HB.out, HB2.out⟩
            case measure => simp [intOf]; omega
          · have hp1 := step_any A .zero r wr HP.out PS.zero_ok
            rw [prints r (by omega) t2 (by omega)] at hp1
            have hq1 : ∀ W, PAt W (A + 1) Q → Calls Try.prog 10 #[.pointer (some ⟨A + 1, 0, none⟩), .int .i32 r] W (Tells (A + 1) (Q, .zero, false) W) := fun W hW => by
              have h := step_any (A + 1) Q r W hW Q_ok
              rwa [left r (by omega) t2 (by omega)] at h
            have HS := Lib.hid hp1
            have HT := Lib.hid hq1
            clear hp1 hq1
            by_cases t3 : 127 ≤ r
            all_goals
              first | (have t4 : ¬ r ≤ 159 := by omega) | skip
              clear t2
              go_wp2_with fail
              refine HS.out.mono ?_
              rintro e w5 ⟨rfl, ho5, hP5⟩
              dsimp only at hP5 ⊢
              have hb5 : Below w.heap.size w w5 := HB.out.trans (only_below ho5 z z1)
              have hb25 : Below w.heap.size w1 w5 := HB2.out.trans (only_below ho5 z z1)
              have hQ5 := HQ.out.far ho5 (by omega)
              have z5 := hb5.size
              clear ho5
              have HB5 := Lib.hid hb5
              have HB25 := Lib.hid hb25
              have HP5 := Lib.hid hP5
              have HQ5 := Lib.hid hQ5
              clear hb5 hb25 hP5 hQ5
              go_wp2_with (refine wpList_store_abs (by rfl) 30 (.tmp 12) (.tmp 65) (by rfl) w5.heap.size (AC.of 1 r 0).cells (by rfl) (by rfl) 30 AC.zero.cells (heap_alloc_new _ _) size30 (by rfl) (AC.one _) ?_; intro w6 ho6 hsz6 hg6)
              have hP6 : PAt w6 A .zero := (HP5.out.grow _).far ho6 (by have := HP5.out.lt; omega)
              have hQ6 : PAt w6 (A + 1) Q := (HQ5.out.grow _).far ho6 (by have := HQ5.out.lt; omega)
              have hb6 : Below w.heap.size w w6 := (HB5.out.alloc z5 _).trans (ho6.below (by simp; omega) (by simp; omega))
              have hb26 : Below w.heap.size w1 w6 := (HB25.out.alloc z5 _).trans (ho6.below (by simp; omega) (by simp; omega))
              have z6 := hb6.size
              have q5 := HQ5.out.lt
              refine (HT.out w6 hQ6).mono ?_
              rintro e w7 ⟨rfl, ho7, hQ7⟩
              dsimp only at hQ7 ⊢
              have hg7 : w7.heap[w5.heap.size]? = some (.cells (AC.of 1 r 0).cells 30 (0, 0)) := (ho7.block _ (lt_of_heap hg6) (by simp; omega)).trans hg6
              have hP7 := hP6.far ho7 (by omega)
              have hb7 : Below w.heap.size w w7 := hb6.trans (only_below ho7 z6 (by omega))
              have hb27 : Below w.heap.size w1 w7 := hb26.trans (only_below ho7 z6 (by omega))
              have z7 := hb7.size
              have hs7 : w5.heap.size < w7.heap.size := lt_of_heap hg7
              have HG7 := Lib.hid hg7
              have HP7 := Lib.hid hP7
              have HQ7 := Lib.hid hQ7
              have HB7 := Lib.hid hb7
              have HB27 := Lib.hid hb27
              clear ho6 hsz6 hg6 ho7 hg7 hP6 hQ6 hb6 hb26 hP7 hQ7 hb7 hb27 HP5 HQ5 HB5 HB25 HS HT HP HQ HB HB2 q5
              go_wp2_with (first
                | (refine wpList_store_abs (by rfl) 30 (.tmp 14) (.tmp 71) (by rfl) w7.heap.size AC.zero.cells (by rfl) (by rfl) 30 AC.zero.cells (heap_alloc_new _ _) size30 (by rfl) (AC.one _) ?_; intro w8 ho8 hsz8 hg8; have hg8a : w8.heap[w5.heap.size]? = some (.cells (AC.of 1 r 0).cells 30 (0, 0)) := (ho8.block _ (by simp; omega) (by simp; omega)).trans (hk_alloc hs7 HG7.out); have n0 := cell_of_heap hg8a 0 (.int .i64 1) rfl; have n1 := cell_of_heap hg8a 1 (.int .i32 r) rfl; have n4 := cell_of_heap hg8a 4 (.int .i64 0) rfl; have HP8 : Hid (PAt w8 A .zero) := Lib.hid ((HP7.out.grow _).far ho8 (by have := HP7.out.lt; omega)); have HQ8 : Hid (PAt w8 (A + 1) Q) := Lib.hid ((HQ7.out.grow _).far ho8 (by have := HQ7.out.lt; omega)); have HB8 : Hid (Below w.heap.size w w8) := Lib.hid ((HB7.out.alloc z7 _).trans (ho8.below (by simp; omega) (by simp; omega))); have HB28 : Hid (Below w.heap.size w1 w8) := Lib.hid ((HB27.out.alloc z7 _).trans (ho8.below (by simp; omega) (by simp; omega))); clear ho8 hg8 hg8a HG7 HP7 HQ7 HB7 HB27))
              refine (idle_any (A + 1) Q _ HQ8.out).mono ?_
              rintro e w9 ⟨rfl, rfl⟩
              go_wp2_with fail
              refine (idle_any A .zero _ HP8.out).mono ?_
              rintro e w9 ⟨rfl, rfl⟩
              go_wp2_with fail
              go_roundw
              case rel => ((repeat apply Exists.intro); exact ⟨⟨i + 1, by omega, by go_num, HP8.out, HQ8.out, HB8.out, HB28.out⟩, rfl⟩)
              case measure => simp [intOf]; omega
    · obtain rfl : i = m := by omega
      have HB := Lib.hid hb
      have HP := Lib.hid hP
      have hq7 := step_any (A + 1) Q 7 wr hQ Q_ok
      rw [ends] at hq7
      have HT := Lib.hid hq7
      clear hP hQ hb hb2 hq7
      go_wp2_with fail
      refine HT.out.mono ?_
      rintro e w5 ⟨rfl, ho5, hQ5⟩
      dsimp only at hQ5 ⊢
      have hb5 : Below w.heap.size w w5 := HB.out.trans (only_below ho5 z (by omega))
      have z5 := hb5.size
      have HB5 := Lib.hid hb5
      have HQ5 := Lib.hid hQ5
      clear hb5 hQ5 ho5 HB HT
      go_wp2_with (refine wpList_store_abs (by rfl) 30 (.tmp 16) (.tmp 106) (by rfl) w5.heap.size AC.zero.cells (by rfl) (by rfl) 30 AC.zero.cells (heap_alloc_new _ _) size30 (by rfl) (AC.one _) ?_; intro w6 ho6 hsz6 hg6)
      have hQ6 : PAt w6 (A + 1) .zero := (HQ5.out.grow _).far ho6 (by have := HQ5.out.lt; omega)
      have hb6 : Below w.heap.size w w6 := (HB5.out.alloc z5 _).trans (ho6.below (by simp; omega) (by simp; omega))
      have z6 := hb6.size
      have ha := step_any (A + 1) .zero 97 w6 hQ6 PS.zero_ok
      rw [prints 97 (by decide) (by decide) (by decide)] at ha
      refine ha.mono ?_
      rintro e w7 ⟨rfl, ho7, -⟩
      dsimp only
      have hb7 : Below w.heap.size w w7 := hb6.trans (only_below ho7 z6 (by omega))
      have z7 := hb7.size
      have HB7 := Lib.hid hb7
      clear hQ6 hb6 ha ho7 hb7 ho6 hsz6 hg6 HQ5 HB5
      go_wp2_with (refine wpList_store_abs (by rfl) 30 (.tmp 18) (.tmp 111) (by rfl) w7.heap.size (AC.of 1 97 0).cells (by rfl) (by rfl) 30 AC.zero.cells (heap_alloc_new _ _) size30 (by rfl) (AC.one _) ?_; intro w8 ho8 hsz8 hg8; have n0 := cell_of_heap hg8 0 (.int .i64 1) rfl; have HB8 : Hid (Below w.heap.size w w8) := Lib.hid ((HB7.out.alloc z7 _).trans (ho8.below (by simp; omega) (by simp; omega))); clear ho8 hg8 HB7)
      go_returns
      exact ⟨rfl, HB8.out⟩
end Text
end Esc
end Go.Proofs.Ytgbpmefiafoliaa
