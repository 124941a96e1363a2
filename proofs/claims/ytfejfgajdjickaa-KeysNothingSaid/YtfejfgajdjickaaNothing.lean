/- KeysNothing returns true for every input, and leaves what was there as it was. No condition. -/
import Derived.Test.YtfejfgajdjickaaParted
namespace Go.Proofs.Ytfejfgajdjickaa
open Go.ChangeShapes Go.WideShapes Go.ChangeAt Go.RowKit
namespace Keys
namespace Nothing
def marks : List UInt8 := [37, 34, 111, 120, 99, 110, 112, 104, 108, 107, 106, 100, 91, 49, 50, 51, 52, 53, 54, 55, 56, 57, 2]
def means (b : UInt8) : Bool := marks.any (· == b)
def Good (b : UInt8) : Prop :=
  (feed false true [b]).p = false ∧ (feed false true [b]).c = (b == 91) ∧ (feed false true [b]).ks.length = (if means b then 1 else 0) ∧
    ((b == 91) = true → (feed (b == 91) false [97]).ks = [] ∧ (feed (b == 91) false [97]).c = true ∧ (feed (b == 91) false [97]).p = false) ∧
    ((b == 91) = false → (feed (b == 91) false [97]).ks = [⟨1, 0, [97]⟩] ∧ (feed (b == 91) false [97]).c = false ∧ (feed (b == 91) false [97]).p = false)
instance (b : UInt8) : Decidable (Good b) := by unfold Good; infer_instance
theorem good_all : ∀ n : Fin 256, Good (UInt8.ofNat n.1) := by decide +kernel
theorem good (b : UInt8) : Good b := by
  have h := good_all ⟨b.toNat, b.toNat_lt⟩
  simpa using h
theorem first : (feed false false [2]).ks = [] ∧ (feed false false [2]).c = false ∧ (feed false false [2]).p = true := by decide
theorem mark_at (k : Nat) (hk : k < 23) (W : World) : (Instr.index 9 (.string ⟨#[37, 34, 111, 120, 99, 110, 112, 104, 108, 107, 106, 100, 91, 49, 50, 51, 52, 53, 54, 55, 56, 57, 2]⟩) (.int .i64 (k : Int))).run Try.prog W = .ok (.int .u8 ((marks[k]'hk).toNat : Int)) W := by
  rcases (show k = 0 ∨ k = 1 ∨ k = 2 ∨ k = 3 ∨ k = 4 ∨ k = 5 ∨ k = 6 ∨ k = 7 ∨ k = 8 ∨ k = 9 ∨ k = 10 ∨ k = 11 ∨ k = 12 ∨ k = 13 ∨ k = 14 ∨ k = 15 ∨ k = 16 ∨ k = 17 ∨ k = 18 ∨ k = 19 ∨ k = 20 ∨ k = 21 ∨ k = 22 from by omega) with rfl | rfl | rfl | rfl | rfl | rfl | rfl | rfl | rfl | rfl | rfl | rfl | rfl | rfl | rfl | rfl | rfl | rfl | rfl | rfl | rfl | rfl | rfl
  all_goals kernel_rfl
theorem byte_eq (x b : UInt8) : ((x.toNat : Int) == (b.toNat : Int)) = (x == b) := by
  rw [Bool.eq_iff_iff]
  simp only [beq_iff_eq]
  constructor
  · intro h; exact UInt8.toNat_inj.1 (Int.ofNat_inj.1 h)
  · rintro rfl; rfl
set_option maxRecDepth 1000000 in
set_option maxHeartbeats 16000000 in
theorem walk (b : UInt8) (w : World) : Calls Try.prog 4 #[.int .u8 (b.toNat : Int)] w fun e w' => e = .returned (.bool true) ∧ Below w.heap.size w w' := by
  obtain ⟨g1, g2, g3, g4, g5⟩ := good b
  obtain ⟨f1, f2, f3⟩ := first
  obtain ⟨F, hF⟩ : ∃ F, F = feed false false [2] := ⟨_, rfl⟩
  obtain ⟨G, hG⟩ : ∃ G, G = feed false true [b] := ⟨_, rfl⟩
  obtain ⟨E, hE⟩ : ∃ E, E = feed (b == 91) false [97] := ⟨_, rfl⟩
  rw [← hF] at f1 f2 f3
  rw [← hG] at g1 g2 g3
  rw [← hE] at g4 g5
  have HFE := Lib.hid hF
  have HGE := Lib.hid hG
  have HEE := Lib.hid hE
  have F1 := Lib.hid f1
  have F2 := Lib.hid f2
  have F3 := Lib.hid f3
  have G1 := Lib.hid g1
  have G2 := Lib.hid g2
  have G3 := Lib.hid g3
  have G4 := Lib.hid g4
  have G5 := Lib.hid g5
  clear hF hG hE f1 f2 f3 g1 g2 g3 g4 g5
  go_enter Try.func4, Try.ntmps4
  go_wp2_with fail
  refine (awake_any w).mono ?_
  rintro e w1 ⟨rfl, hb1⟩
  have z1 := hb1.size
  have hb2 : Below w.heap.size w (w1.alloc (.cells #[.bool false, .bool false] 26)) := hb1.alloc z1 _
  have hP : RAt (w1.alloc (.cells #[.bool false, .bool false] 26)) w1.heap.size false false := new_at rfl
  have h1 := feed_any w1.heap.size false false ⟨#[2]⟩ _ hP (by decide)
  rw [show (⟨#[2]⟩ : ByteArray).data.toList = [2] from rfl, ← HFE.out] at h1
  go_wp2_with fail
  refine h1.mono ?_
  rintro e w3 ⟨ax, cx, rfl, -, ho3, hP3⟩
  have hb3 : Below w.heap.size w w3 := hb2.trans (only_below ho3 (by simp; omega) z1)
  rw [F2.out, F3.out] at hP3
  have hl1 : F.ks.length = 0 := by rw [F1.out]; rfl
  rw [hl1]
  have z3 := hb3.size
  have zp := hP3.lt
  clear h1 hP ho3 hb1 hb2 hl1
  generalize w1.heap.size = A at hP3 z1 zp ⊢
  go_wp2_with fail
  refine (prefixed_any A false true w3 hP3).mono ?_
  rintro e w4 ⟨rfl, rfl⟩
  have hH : Held (w3.alloc (.cells #[.int .u8 (b.toNat : Int)] 5)) w3.heap.size 5 1 (.slice (some ⟨w3.heap.size, 0, none⟩) 1 1) 1 (bs [b]) :=
    ⟨rfl, .inr ⟨w3.heap.size, 0, 1, #[.int .u8 (b.toNat : Int)], rfl, Nat.le_refl _, new_at rfl, Nat.le_refl _, by decide, by simp, rfl⟩⟩
  have hcv := conv_held hH
  have hP4 : RAt (w3.alloc (.cells #[.int .u8 (b.toNat : Int)] 5)) A false true := hP3.grow _
  have hb4 : Below w.heap.size w (w3.alloc (.cells #[.int .u8 (b.toNat : Int)] 5)) := hb3.alloc z3 _
  have h2 := feed_any A false true (sb [b]) _ hP4 (by simp [sb, ByteArray.size])
  rw [show (sb [b]).data.toList = [b] from rfl, ← HGE.out] at h2
  have H2 := Lib.hid h2
  clear hH hb3 hP3 h2 hP4
  go_wp2_with fail
  refine H2.out.mono ?_
  rintro e w5 ⟨ay, cy, rfl, -, ho5, hP5⟩
  have hb5 : Below w.heap.size w w5 := hb4.trans (only_below ho5 (by simp; omega) z1)
  rw [G1.out, G2.out] at hP5
  have z5 := hb5.size
  have h3 := feed_any A (b == 91) false ⟨#[97]⟩ _ hP5 (by decide)
  rw [show (⟨#[97]⟩ : ByteArray).data.toList = [97] from rfl, ← HEE.out] at h3
  clear H2 ho5 hb4 hcv hP5
  go_wp2_with fail
  refine h3.mono ?_
  rintro e w6 ⟨az, cz, rfl, hz6, ho6, hP6⟩
  have hb6 : Below w.heap.size w w6 := hb5.trans (only_below ho6 (by omega) z1)
  have hK := KR.of_held hz6
  obtain ⟨n, hn⟩ : ∃ n, n = G.ks.length := ⟨_, rfl⟩
  obtain ⟨l, hl⟩ : ∃ l, l = E.ks.length := ⟨_, rfl⟩
  rw [← hn] at G3
  rw [← hl] at hK
  rw [← hn, ← hl]
  have HNN := Lib.hid hn
  have HLL := Lib.hid hl
  have HK := Lib.hid hK
  have HP := Lib.hid hP6
  have HB := Lib.hid hb6
  clear h3 hz6 ho6 hb5 hb6 hP6 hK hn hl
  go_wp2_with fail
  go_loopw [10, 11] (fun mv iv wr => ∃ (k : Nat) (m : Bool), k ≤ 23 ∧ iv = .int .i64 (k : Int) ∧ mv = .bool m ∧ Hid ((marks.take k).any (· == b) = m) ∧ wr = w6) (fun _ iv _ => 23 - (intOf iv).toNat)
  case atStart => exact ⟨0, false, by omega, rfl, rfl, Lib.hid rfl, rfl⟩
  case round =>
    obtain ⟨k, m, hk, rfl, rfl, HM, rfl⟩ := hrel
    by_cases hlt : k < 23
    · have hix := fun W => mark_at k hlt W
      have hnx : (marks.take (k + 1)).any (· == b) = (m || marks[k]'hlt == b) := by
        rw [List.take_succ_eq_append_getElem hlt, List.any_append, HM.out]; simp
      have hbe := byte_eq (marks[k]'hlt) b
      obtain ⟨x, hx⟩ : ∃ x, x = marks[k]'hlt := ⟨_, rfl⟩
      rw [← hx] at hix hnx hbe
      have HN := Lib.hid hnx
      have k0 : (0 : Int) ≤ (k : Int) := by omega
      clear hx hnx
      cases m with
      | true =>
        go_wp2_with fail
        go_roundw
        case rel => exact ⟨k + 1, true, by omega, by go_num, rfl, (by have := HN.out; simp at this; exact Lib.hid (by simpa using this)), trivial⟩
        case measure => simp [intOf]; omega
      | false =>
        go_wp2_with fail
        go_roundw
        case rel => exact ⟨k + 1, x == b, by omega, by go_num, rfl, (by have := HN.out; exact Lib.hid (by simpa using this)), trivial⟩
        case measure => simp [intOf]; omega
    · obtain rfl : k = 23 := by omega
      have hm : means b = m := by have h := HM.out; rw [show marks.take 23 = marks from rfl] at h; exact h
      have hg3 := G3.out
      rw [hm] at hg3
      have t91 : ((b.toNat : Int) == 91) = (b == 91) := by
        have h := byte_eq b 91
        exact h
      clear G3 HM hm
      have hpf : E.p = false := by
        cases hc : (b == 91) with
        | true => exact (G4.out hc).2.2
        | false => exact (G5.out hc).2.2
      have hP7 := HP.out
      rw [hpf] at hP7
      have H7 := Lib.hid hP7
      clear hpf hP7
      have HNM := Lib.hid hg3
      clear hg3
      cases m with
      | true =>
        obtain rfl : n = 1 := by simpa using HNM.out
        cases hc : (b == 91) with
        | true =>
          rw [hc] at t91
          obtain ⟨a1, a2, a3⟩ := G4.out hc
          obtain rfl : l = 0 := by rw [HLL.out, a1]; rfl
          have A2 := Lib.hid a2
          clear a1 a2 a3 hc
          go_wp2_with fail
          refine (prefixed_any A E.c false _ H7.out).mono ?_
          rintro e w7 ⟨rfl, rfl⟩
          go_wp2_with fail
          refine (copying_any A E.c false _ H7.out).mono ?_
          rintro e w8 ⟨rfl, rfl⟩
          rw [A2.out]
          go_wp2_with fail
          go_returns
          exact ⟨rfl, HB.out⟩
        | false =>
          rw [hc] at t91
          obtain ⟨a1, a2, a3⟩ := G5.out hc
          obtain rfl : l = 1 := by rw [HLL.out, a1]; rfl
          have hk := HK.out
          rw [a1] at hk
          obtain ⟨g, off, ea, -, hcell⟩ := hk.cells (i := 0) (by decide)
          subst ea
          obtain ⟨x0, -, x2⟩ := hcell _ rfl
          simp only [Nat.zero_mul, Nat.add_zero] at x0 x2
          have t1 : (sb [97]).toList = [97] := by kernel_rfl
          have A2 := Lib.hid a2
          clear a1 a2 a3 hc hk hcell
          go_wp2_with fail
          refine (prefixed_any A E.c false _ H7.out).mono ?_
          rintro e w7 ⟨rfl, rfl⟩
          go_wp2_with fail
          refine (copying_any A E.c false _ H7.out).mono ?_
          rintro e w8 ⟨rfl, rfl⟩
          rw [A2.out]
          go_wp2_with fail
          go_returns
          exact ⟨rfl, HB.out⟩
      | false =>
        obtain rfl : n = 0 := by simpa using HNM.out
        cases hc : (b == 91) with
        | true =>
          rw [hc] at t91
          obtain ⟨a1, a2, a3⟩ := G4.out hc
          obtain rfl : l = 0 := by rw [HLL.out, a1]; rfl
          have A2 := Lib.hid a2
          clear a1 a2 a3 hc
          go_wp2_with fail
          refine (prefixed_any A E.c false _ H7.out).mono ?_
          rintro e w7 ⟨rfl, rfl⟩
          go_wp2_with fail
          refine (copying_any A E.c false _ H7.out).mono ?_
          rintro e w8 ⟨rfl, rfl⟩
          rw [A2.out]
          go_wp2_with fail
          go_returns
          exact ⟨rfl, HB.out⟩
        | false =>
          rw [hc] at t91
          obtain ⟨a1, a2, a3⟩ := G5.out hc
          obtain rfl : l = 1 := by rw [HLL.out, a1]; rfl
          have hk := HK.out
          rw [a1] at hk
          obtain ⟨g, off, ea, -, hcell⟩ := hk.cells (i := 0) (by decide)
          subst ea
          obtain ⟨x0, -, x2⟩ := hcell _ rfl
          simp only [Nat.zero_mul, Nat.add_zero] at x0 x2
          have t1 : (sb [97]).toList = [97] := by kernel_rfl
          have A2 := Lib.hid a2
          clear a1 a2 a3 hc hk hcell
          go_wp2_with fail
          refine (prefixed_any A E.c false _ H7.out).mono ?_
          rintro e w7 ⟨rfl, rfl⟩
          go_wp2_with fail
          refine (copying_any A E.c false _ H7.out).mono ?_
          rintro e w8 ⟨rfl, rfl⟩
          rw [A2.out]
          go_wp2_with fail
          go_returns
          exact ⟨rfl, HB.out⟩
end Nothing
end Keys
end Go.Proofs.Ytfejfgajdjickaa
