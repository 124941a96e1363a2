/- EscapeEnds returns true for every input, and leaves what was there as it was. No condition. -/
import Derived.Test.YtgbpmefiafoliaaSame
import Derived.ProofKit
import Derived.OpenShut
import Derived.ShutString
import Derived.ChangeOld
import Derived.Deep.LoopGhost
import Derived.Deep.DeepCutAuto
namespace Go.Proofs.Ytgbpmefiafoliaa
open Go.ChangeShapes Go.WideShapes Go.ChangeAt Go.RowKit
namespace Esc
theorem flat_len (l : List AC) : (flat l).length = l.length * 13 := by
  induction l with
  | nil => rfl
  | cons a l ih => simp [flat] at ih ⊢; rw [ih]; simp [AC.list]; omega
theorem Acts.of {w : World} {base n c : Nat} {a : Option Addr} {l : List AC} (h : Held w base 30 13 (.slice a n c) n (flat l)) (hl : l.length = n) : Acts w a n l := by
  refine ⟨hl, ?_⟩
  by_cases hn : n = 0
  · exact .inl hn
  · obtain ⟨g, off, cap, hv, -, hlt, -, -, hc⟩ := h.form (by omega)
    simp only [Value.slice.injEq] at hv
    exact .inr ⟨g, off, hv.1, hlt, hc⟩
theorem takes_24 (s : PS) : step s 24 = (.zero, .zero, false) := by unfold step; rw [if_neg (by decide), if_pos (by decide)]
theorem feed_24 (s : PS) : feed s [24] = (.zero, []) := by simp [feed, takes_24]
/-- What feeding says, to be laid beside others. -/
theorem Fed.open_ {p : Nat} {s : PS} {xs : List Int} {w : World} {e : Ending} {w' : World} (h : Fed p (feed s xs) w e w') :
    ∃ (a : Option Addr) (c : Nat), e = .returned (.slice a (feed s xs).2.length c) ∧ Held w' w.heap.size 30 13 (.slice a (feed s xs).2.length c) (feed s xs).2.length (flat (feed s xs).2) ∧ Only [p] w w' ∧ PAt w' p (feed s xs).1 := h
theorem only_below {B p : Nat} {w w' : World} (h : Only [p] w w') (hB : B ≤ w.heap.size) (hp : B ≤ p) : Below B w w' := h.below hB (by simp; exact hp)
theorem PAt.far {w w' : World} {p q : Nat} {s : PS} (h : PAt w p s) (ho : Only [q] w w') (hn : p ≠ q) : PAt w' p s := h.only ho (by simpa using hn)
namespace Ends
set_option maxRecDepth 1000000 in
set_option maxHeartbeats 8000000 in
theorem walk (a : Option Addr) (n c : Nat) (xs : List Int) (a' : Option Addr) (n' c' : Nat) (ys : List Int) (w : World) (h : In32 w w.heap.size a n c xs) (h' : In32 w w.heap.size a' n' c' ys) :
    Calls Try.prog 5 #[.slice a n c, .slice a' n' c'] w fun e w' => e = .returned (.bool true) ∧ Below w.heap.size w w' := by
  go_enter Try.func5, Try.ntmps5
  go_wp2_with fail
  refine (awake_any w).mono ?_
  rintro e w1 ⟨rfl, hb1⟩
  have z1 := hb1.size
  have hb2 : Below w.heap.size w (((w1.alloc (.cells PS.zero.cells 27)).alloc (.cells PS.zero.cells 27)).alloc (.cells PS.zero.cells 27)) := ((hb1.alloc z1 _).alloc (by simp; omega) _).alloc (by simp; omega) _
  have hA : PAt (((w1.alloc (.cells PS.zero.cells 27)).alloc (.cells PS.zero.cells 27)).alloc (.cells PS.zero.cells 27)) w1.heap.size .zero := hk_alloc (by simp; omega) (hk_alloc (by simp) (new_at rfl))
  have hB : PAt (((w1.alloc (.cells PS.zero.cells 27)).alloc (.cells PS.zero.cells 27)).alloc (.cells PS.zero.cells 27)) (w1.heap.size + 1) .zero := hk_alloc (by simp) (new_at (by simp))
  have hC : PAt (((w1.alloc (.cells PS.zero.cells 27)).alloc (.cells PS.zero.cells 27)).alloc (.cells PS.zero.cells 27)) (w1.heap.size + 1 + 1) .zero := new_at (by simp)
  have h2 := h.keep hb2
  have h2' := h'.keep hb2
  clear h h'
  go_wp2_with fail
  refine (few_any w.heap.size a n c xs _ h2).mono ?_
  rintro e w2 ⟨rfl, hw2⟩
  change (((w1.alloc (.cells PS.zero.cells 27)).alloc (.cells PS.zero.cells 27)).alloc (.cells PS.zero.cells 27)) = w2 at hw2
  rw [hw2] at hb2 hA hB hC h2 h2'
  clear hw2 hb1
  generalize w1.heap.size = A at hA hB hC z1 ⊢
  have fx := few_reads h2
  have lx := few_len xs
  have fy := few_reads h2'
  have ly := few_len ys
  have z2 := hb2.size
  have HI := Lib.hid h2
  have HJ := Lib.hid h2'
  clear h2 h2'
  obtain ⟨SA, lA, hfA⟩ : ∃ s l, feed .zero (few xs) = (s, l) := ⟨_, _, rfl⟩
  have hokA : SA.Ok := by have := feed_ok .zero (few xs) PS.zero_ok; rwa [hfA] at this
  have hfeedA := feed_any A .zero a (few xs).length c (few xs) w2 hA PS.zero_ok (fx.rd z2 z1) (by omega)
  rw [hfA] at hfeedA
  have HFA := Lib.hid hfA
  clear hfA hA
  go_wp2_with fail
  refine hfeedA.mono ?_
  rintro e w3 ⟨xa, xc, rfl, -, ho3, hA3⟩
  dsimp only at hA3 ⊢
  have hb3 : Below w.heap.size w2 w3 := only_below ho3 z2 z1
  have hB3 := hB.far ho3 (by omega)
  have hC3 := hC.far ho3 (by omega)
  have z3 := hb3.size
  clear hfeedA hB hC ho3
  have hR4 : Rd (w3.alloc (.cells #[.int .i32 24] 21)) A (some ⟨w3.heap.size, 0, none⟩) 1 (is [24]) := by
    refine ⟨rfl, .inr ⟨w3.heap.size, 0, rfl, by simp, by have := hA3.lt; omega, fun j u hu => ?_⟩⟩
    refine cell_of_heap (new_at rfl) (0 + j) u ?_
    simpa [is] using hu
  have hfeed4 := feed_any A SA (some ⟨w3.heap.size, 0, none⟩) 1 1 [24] (w3.alloc (.cells #[.int .i32 24] 21)) (hk_alloc hA3.lt hA3) hokA hR4 (by decide)
  rw [feed_24] at hfeed4
  have hB4 : PAt (w3.alloc (.cells #[.int .i32 24] 21)) (A + 1) .zero := hk_alloc hB3.lt hB3
  have hC4 : PAt (w3.alloc (.cells #[.int .i32 24] 21)) (A + 1 + 1) .zero := hk_alloc hC3.lt hC3
  have hb4 : Below w.heap.size w2 (w3.alloc (.cells #[.int .i32 24] 21)) := hb3.alloc (by omega) _
  clear hR4 hA3 hB3 hC3 hb3
  go_wp2_with fail
  refine hfeed4.mono ?_
  rintro e w5 ⟨xa5, xc5, rfl, -, ho5, hA5⟩
  dsimp only at hA5 ⊢
  have hb5 : Below w.heap.size w2 w5 := hb4.trans (only_below ho5 (by simp; omega) z1)
  have hB5 := hB4.far ho5 (by omega)
  have hC5 := hC4.far ho5 (by omega)
  have z5 := hb5.size
  clear hfeed4 hB4 hC4 ho5 hb4
  go_wp2_with fail
  refine (few_any w.heap.size a n c xs _ (HI.out.keep hb5)).mono ?_
  rintro e w6 ⟨rfl, rfl⟩
  have hfeedC := feed_any (A + 1 + 1) .zero a (few xs).length c (few xs) w5 hC5 PS.zero_ok ((fx.keep hb5).rd (by omega) (by omega)) (by omega)
  rw [HFA.out] at hfeedC
  go_wp2_with fail
  refine hfeedC.mono ?_
  rintro e w7 ⟨xa7, xc7, rfl, -, ho7, hC7⟩
  dsimp only at hC7 ⊢
  have hb7 : Below w.heap.size w2 w7 := hb5.trans (only_below ho7 (by omega) (by omega))
  have hA7 := hA5.far ho7 (by omega)
  have hB7 := hB5.far ho7 (by omega)
  have z7 := hb7.size
  clear hfeedC hA5 hB5 hC5 ho7 hb5
  go_wp2_with fail
  refine (reset_any (A + 1 + 1) SA w7 hC7).mono ?_
  rintro e w8 ⟨rfl, hw8⟩
  have ho8 : Only [A + 1 + 1] w7 w8 := by rw [hw8]; exact setRow_only _ _ _
  have hC8 : PAt w8 (A + 1 + 1) .zero := by rw [hw8]; exact hC7.set _
  have hb8 : Below w.heap.size w2 w8 := hb7.trans (only_below ho8 (by omega) (by omega))
  have hA8 := hA7.far ho8 (by omega)
  have hB8 := hB7.far ho8 (by omega)
  have z8 := hb8.size
  clear hw8 hA7 hB7 hC7 ho8 hb7
  go_wp2_with fail
  refine (idle_any A .zero w8 hA8).mono ?_
  rintro e w9 ⟨rfl, rfl⟩
  go_wp2_with fail
  refine (few_any w.heap.size a' n' c' ys _ (HJ.out.keep hb8)).mono ?_
  rintro e w9 ⟨rfl, rfl⟩
  obtain ⟨SY, LY, hfY⟩ : ∃ s l, feed .zero (few ys) = (s, l) := ⟨_, _, rfl⟩
  have hly := feed_len .zero (few ys)
  rw [hfY] at hly
  dsimp only at hly
  have hfeed9 := feed_any A .zero a' (few ys).length c' (few ys) w8 hA8 PS.zero_ok ((fy.keep hb8).rd (by omega) z1) (by omega)
  rw [hfY] at hfeed9
  have HFY := Lib.hid hfY
  clear hfY
  go_wp2_with fail
  refine hfeed9.mono ?_
  rintro e w10 ⟨xa10, xc10, rfl, hx10, ho10, hA10⟩
  dsimp only at hA10 hx10 ⊢
  have hb10 : Below w.heap.size w2 w10 := hb8.trans (only_below ho10 (by omega) z1)
  have hB10 := hB8.far ho10 (by omega)
  have hC10 := hC8.far ho10 (by omega)
  have z10 := hb10.size
  have lB := hB8.lt
  have lC := hC8.lt
  clear hfeed9 hA8 hB8 hC8 ho10 hb8
  go_wp2_with fail
  refine (few_any w.heap.size a' n' c' ys _ (HJ.out.keep hb10)).mono ?_
  rintro e w11 ⟨rfl, rfl⟩
  have hfeed11 := feed_any (A + 1) .zero a' (few ys).length c' (few ys) w10 hB10 PS.zero_ok ((fy.keep hb10).rd (by omega) (by omega)) (by omega)
  rw [HFY.out] at hfeed11
  go_wp2_with fail
  refine hfeed11.mono ?_
  rintro e w11 ⟨xa11, xc11, rfl, hx11, ho11, hB11⟩
  dsimp only at hB11 hx11 ⊢
  have hb11 : Below w.heap.size w2 w11 := hb10.trans (only_below ho11 (by omega) (by omega))
  have hC11 := hC10.far ho11 (by omega)
  have hy10 := hx10.only ho11 (by intro k hk; have := (hx10.lt k hk).1; simp; omega)
  have z11 := hb11.size
  have lC2 := hC10.lt
  clear hfeed11 hB10 hC10 ho11 hb10 hx10
  go_wp2_with fail
  refine (few_any w.heap.size a' n' c' ys _ (HJ.out.keep hb11)).mono ?_
  rintro e w12 ⟨rfl, rfl⟩
  have hfeed12 := feed_any (A + 1 + 1) .zero a' (few ys).length c' (few ys) w11 hC11 PS.zero_ok ((fy.keep hb11).rd (by omega) (by omega)) (by omega)
  rw [HFY.out] at hfeed12
  go_wp2_with fail
  refine hfeed12.mono ?_
  rintro e w12 ⟨xa12, xc12, rfl, hx12, ho12, hC12⟩
  dsimp only at hC12 hx12 ⊢
  have hb12 : Below w.heap.size w2 w12 := hb11.trans (only_below ho12 (by omega) (by omega))
  have hy10' := hy10.only ho12 (by intro k hk; have := (hy10.lt k hk).1; simp; omega)
  have hx11' := hx11.only ho12 (by intro k hk; have := (hx11.lt k hk).1; simp; omega)
  have r1 := Acts.of hy10' rfl
  have r2 := Acts.of hx11' rfl
  have r3 := Acts.of hx12 rfl
  have hbE := hb2.trans hb12
  clear hfeed12 hC11 ho12 hb11 hx11 hy10 hy10' hx11' hx12
  go_wp2_with fail
  refine (same_any _ _ _ _ _ LY _ r1 r2 (by omega)).mono ?_
  rintro e w13 ⟨rfl, q, rfl⟩
  have r2' : Acts (w12.drewN q) xa11 LY.length LY := r2
  have r3' : Acts (w12.drewN q) xa12 LY.length LY := r3
  have hbF := below_drewN hbE q
  clear r1 r2 r3 hbE
  generalize w12.drewN q = w14 at r2' r3' hbF ⊢
  go_wp2_with fail
  refine (same_any _ _ _ _ _ LY _ r3' r2' (by omega)).mono ?_
  rintro e w15 ⟨rfl, q2, rfl⟩
  go_wp2_with fail
  go_returns
  exact ⟨rfl, below_drewN hbF q2⟩
end Ends
end Esc
end Go.Proofs.Ytgbpmefiafoliaa
