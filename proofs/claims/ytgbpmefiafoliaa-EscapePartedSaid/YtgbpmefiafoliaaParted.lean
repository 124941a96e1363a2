/- EscapeParted returns true for every input, and leaves what was there as it was. No condition. -/
import Derived.Test.YtgbpmefiafoliaaOrder
namespace Go.Proofs.Ytgbpmefiafoliaa
open Go.ChangeShapes Go.WideShapes Go.ChangeAt Go.RowKit
namespace Esc
theorem flat_nil : flat [] = [] := rfl
namespace Parted
theorem rd_take {w : World} {p : Nat} {a : Option Addr} {n m : Nat} {xs : List Int} (h : Rd w p a n (is xs)) (hm : m ≤ n) : Rd w p a m (is (xs.take m)) := by
  have hl : xs.length = n := by simpa [is] using h.1
  refine ⟨by simp [is]; omega, ?_⟩
  by_cases h0 : m = 0
  · exact .inl h0
  · obtain ⟨g, off, rfl, hg, hp, hc⟩ := h.2.resolve_left (by omega)
    refine .inr ⟨g, off, rfl, hg, hp, fun j u hu => hc j u ?_⟩
    unfold is at hu ⊢
    rw [List.map_take, List.getElem?_take] at hu
    split at hu
    · exact hu
    · cases hu
/-- The rest of a slice. -/
def rest (a : Option Addr) (k c : Nat) : Option Addr := if c = k then a else a.map (·.add (k * 1))
theorem rd_drop {w : World} {p : Nat} {a : Option Addr} {n k c : Nat} {xs : List Int} (h : Rd w p a n (is xs)) (hk : k ≤ n) (hc : n ≤ c) : Rd w p (rest a k c) (n - k) (is (xs.drop k)) := by
  have hl : xs.length = n := by simpa [is] using h.1
  refine ⟨by simp [is]; omega, ?_⟩
  by_cases h0 : n - k = 0
  · exact .inl h0
  · obtain ⟨g, off, rfl, hg, hp, hcell⟩ := h.2.resolve_left (by omega)
    refine .inr ⟨g, off + k, by unfold rest; rw [if_neg (by omega)]; simp [Addr.add_lit], hg, hp, fun j u hu => ?_⟩
    unfold is at hu
    rw [List.map_drop, List.getElem?_drop] at hu
    rw [Nat.add_assoc]
    exact hcell (k + j) u hu
set_option maxRecDepth 1000000 in
set_option maxHeartbeats 8000000 in
theorem walk (a : Option Addr) (n c : Nat) (xs : List Int) (bg : Int) (w : World) (h : In32 w w.heap.size a n c xs) :
    Calls Try.prog 4 #[.slice a n c, .int .i64 bg] w fun e w' => e = .returned (.bool true) ∧ Below w.heap.size w w' := by
  have hcm := h.2
  unfold maxLen at hcm
  go_enter Try.func4, Try.ntmps4
  go_wp2_with fail
  refine (awake_any w).mono ?_
  rintro e w1 ⟨rfl, hb1⟩
  have z1 := hb1.size
  have h1 := h.keep hb1
  clear h
  go_wp2_with fail
  refine (few_any w.heap.size a n c xs _ h1).mono ?_
  rintro e w2 ⟨rfl, rfl⟩
  have fx := few_reads h1
  have lx := few_len xs
  have lc : (few xs).length ≤ c := by
    have : xs.length = n := by simpa [is] using h1.1.1
    have : (few xs).length ≤ xs.length := by simp [few]; omega
    omega
  generalize few xs = fs at fx lx lc ⊢
  clear h1
  obtain ⟨k, hk, k1, k2, k3⟩ := mod_place bg fs.length
  generalize hX : bg.tmod ((fs.length : Int) + 1) = X at k1 k2 k3
  have hb3 : Below w.heap.size w ((w1.alloc (.cells PS.zero.cells 27)).alloc (.cells PS.zero.cells 27)) := (hb1.alloc z1 _).alloc (by simp; omega) _
  have hb13 : Below w.heap.size w1 ((w1.alloc (.cells PS.zero.cells 27)).alloc (.cells PS.zero.cells 27)) := ((Below.refl _ w1).alloc z1 _).alloc (by simp; omega) _
  have hP : PAt ((w1.alloc (.cells PS.zero.cells 27)).alloc (.cells PS.zero.cells 27)) w1.heap.size .zero := hk_alloc (by simp) (new_at rfl)
  have hQ : PAt ((w1.alloc (.cells PS.zero.cells 27)).alloc (.cells PS.zero.cells 27)) (w1.heap.size + 1) .zero := new_at (by simp)
  obtain ⟨SF, LF, hfF⟩ : ∃ s l, feed .zero fs = (s, l) := ⟨_, _, rfl⟩
  have hfeed := feed_any w1.heap.size .zero a fs.length c fs _ hP PS.zero_ok ((fx.keep hb13).rd (by simp; omega) z1) (by omega)
  rw [hfF] at hfeed
  have HFF := Lib.hid hfF
  have HX := Lib.hid hX
  clear hfF
  go_wp2_with fail
  refine hfeed.mono ?_
  rintro e w4 ⟨ax, cx, rfl, hx4, ho4, hP4⟩
  dsimp only at hP4 hx4 ⊢
  have hb4 : Below w.heap.size w w4 := hb3.trans (only_below ho4 (by simp; omega) z1)
  have hb14 : Below w.heap.size w1 w4 := hb13.trans (only_below ho4 (by simp; omega) z1)
  have hQ4 := hQ.far ho4 (by omega)
  have hxb : ∀ j, (Value.slice ax LF.length cx).ownBlock = some j → w1.heap.size + 2 ≤ j ∧ j < w4.heap.size := fun j hj => by have := hx4.lt j hj; simp at this; omega
  have z4 := hb4.size
  have q4 := hQ4.lt
  clear hfeed hP hQ hb3 hb13 ho4 hX hb1
  generalize w1.heap.size = A at hP4 hQ4 z1 hxb q4 ⊢
  obtain ⟨m, hm⟩ : ∃ m, m = fs.length := ⟨_, rfl⟩
  rw [← hm] at fx lx hk k1 k2 k3 lc ⊢
  have HM := Lib.hid hm
  clear hm
  obtain ⟨S1, L1, hf1⟩ : ∃ s l, feed .zero (fs.take k) = (s, l) := ⟨_, _, rfl⟩
  obtain ⟨S2, L2, hf2⟩ : ∃ s l, feed S1 (fs.drop k) = (s, l) := ⟨_, _, rfl⟩
  have hsum : SF = S2 ∧ LF = L1 ++ L2 := by
    have h := feed_append .zero (fs.take k) (fs.drop k)
    rw [List.take_append_drop, HFF.out, hf1] at h
    dsimp only at h
    rw [hf2] at h
    simpa using h
  obtain ⟨rfl, rfl⟩ := hsum
  have hok1 : S1.Ok := by have := feed_ok .zero (fs.take k) PS.zero_ok; rwa [hf1] at this
  have g1 : L1.length ≤ k := by have := feed_len .zero (fs.take k); rw [hf1] at this; simp at this; omega
  have g2 : L2.length ≤ 60 := by have := feed_len S1 (fs.drop k); rw [hf2] at this; have hml := HM.out; simp at this; omega
  obtain ⟨N, hN⟩ : ∃ N, N = (L1 ++ L2).length := ⟨_, rfl⟩
  rw [← hN] at hx4 hxb ⊢
  have HNN := Lib.hid hN
  clear hN
  have hS : St w4 A SF (.slice ax N cx) N (L1 ++ L2) w4 .zero :=
    ⟨Below.refl _ _, Nat.le_refl _, hP4, hQ4, hx4.rebase (fun j hj => (hxb j hj).1), fun j hj => (hxb j hj).2, q4⟩
  have hfr : ∀ W sq, St w4 A SF (.slice ax N cx) N (L1 ++ L2) W sq → Rd W (A + 1) a m (is fs) := fun W sq hW =>
    (fx.keep (hb14.trans (hW.b.mono z1))).rd (by have := hW.z; omega) (by omega)
  have hF1 : ∀ W, St w4 A SF (.slice ax N cx) N (L1 ++ L2) W .zero → Calls Try.prog 11 #[.pointer (some ⟨A + 1, 0, none⟩), .slice a k c] W fun e w' => ∃ (a' : Option Addr) (c' : Nat), e = .returned (.slice a' L1.length c') ∧
      Held w' W.heap.size 30 13 (.slice a' L1.length c') L1.length (flat L1) ∧ Only [A + 1] W w' ∧ St w4 A SF (.slice ax N cx) N (L1 ++ L2) w' S1 := fun W hW => by
    have h := feed_any (A + 1) .zero a k c (fs.take k) W hW.q PS.zero_ok (rd_take (hfr W _ hW) hk) (by omega)
    rw [hf1] at h
    exact h.mono fun e w' ⟨a', c', h1, h2, h3, h4⟩ => ⟨a', c', h1, h2, h3, hW.fed h3 h4⟩
  have hF2 : ∀ W, St w4 A SF (.slice ax N cx) N (L1 ++ L2) W S1 → Calls Try.prog 11 #[.pointer (some ⟨A + 1, 0, none⟩), .slice (rest a k c) (m - k) (c - k)] W fun e w' => ∃ (a' : Option Addr) (c' : Nat), e = .returned (.slice a' L2.length c') ∧
      Held w' W.heap.size 30 13 (.slice a' L2.length c') L2.length (flat L2) ∧ Only [A + 1] W w' ∧ St w4 A SF (.slice ax N cx) N (L1 ++ L2) w' SF := fun W hW => by
    have h := feed_any (A + 1) S1 (rest a k c) (m - k) (c - k) (fs.drop k) W hW.q hok1 (rd_drop (hfr W _ hW) hk lc) (by omega)
    rw [hf2] at h
    exact h.mono fun e w' ⟨a', c', h1, h2, h3, h4⟩ => ⟨a', c', h1, h2, h3, hW.fed h3 h4⟩
  have hs2 : ∀ W, (Instr.slice 22 (.slice a m c) (some (.int .i64 (k : Int))) none none).run Try.prog W = .ok (.slice (rest a k c) (m - k) (c - k)) W := fun W => by
    rw [run_slice_l (P := Try.prog) W 22 a m c Try.underlying22 .i64 (k : Int) (by omega) (by omega)]
    rfl
  obtain ⟨i0, hi0, hz0, hz1, hz2⟩ := info_parts info30
  have kk0 : (0 : Int) ≤ (k : Int) := by omega
  have kk1 : (k : Int) ≤ (m : Int) := by omega
  have kk2 : (k : Int) ≤ (c : Int) := by omega
  have HF1 := Lib.hid hF1
  have HF2 := Lib.hid hF2
  have HFR := Lib.hid hfr
  have HX4 := Lib.hid hx4
  clear hF1 hF2 hfr hf1 hf2 hP4 hQ4 hx4 hxb fx hb14
  go_upto_region 7 with (fail)
  go_cut [11] (fun v wc => ∃ (a' : Option Addr) (c' : Nat), v = .slice a' (L1.length + L2.length) c' ∧ Hid (Held wc w4.heap.size 30 13 (.slice a' (L1.length + L2.length) c') (L1.length + L2.length) (flat (L1 ++ L2))) ∧ St w4 A SF (.slice ax N cx) N (L1 ++ L2) wc SF)
  case first =>
    go_region_law ((first
      | (refine step_append_src _ (by rfl) (.tmp 36) (.tmp 41) 34 (by rfl) w4.heap.size 30 i0 _ 13 88 Try.underlying34 hi0 hz0 hz1 hz2 rfl (by omega) _ 0 (flat []) (by rfl) hE _ L1.length _ (flat L1) (by rfl) (flat_len L1) (Row.none (by first | exact hL | exact hL.alloc _)) (Row.cells (by first | exact hL | exact hL.alloc _)) (flat_one' L1) (by unfold maxLen; omega) (by omega) (by have := hS.z; simp; omega) ?_; intro a8 c8 w8 hE8 hG hNw; rw [Nat.zero_add, flat_nil, List.nil_append] at hE8; have hS := St.grown (by first | exact hS | exact hS.alloc _) hG (fun k hk => (hE.lt k hk).1); try (first | have hM := hM.grown hG (by intro k hk e; simp [Value.ownBlock] at e; have := hM.lt k hk; simp at this; omega) | have hM := (hM.alloc _).grown hG (by intro k hk e; simp [Value.ownBlock] at e; have := hM.lt k hk; omega)))
      | (refine step_append_src _ (by rfl) (.tmp 36) (.tmp 41) 34 (by rfl) w4.heap.size 30 i0 _ 13 88 Try.underlying34 hi0 hz0 hz1 hz2 rfl (by omega) _ 0 (flat []) (by rfl) (fresh_new (B := w4.heap.size) w7 zz7) _ L1.length _ (flat L1) (by rfl) (flat_len L1) (Row.none (by first | exact hL | exact hL.alloc _)) (Row.cells (by first | exact hL | exact hL.alloc _)) (flat_one' L1) (by unfold maxLen; omega) (by omega) (by have := hS.z; simp; omega) ?_; intro a8 c8 w8 hE8 hG hNw; rw [Nat.zero_add, flat_nil, List.nil_append] at hE8; have hS := St.grown (by first | exact hS | exact hS.alloc _) hG (fun k hk => ((fresh_new (B := w4.heap.size) w7 zz7).lt k hk).1); try (first | have hM := hM.grown hG (by intro k hk e; simp [Value.ownBlock] at e; have := hM.lt k hk; simp at this; omega) | have hM := (hM.alloc _).grown hG (by intro k hk e; simp [Value.ownBlock] at e; have := hM.lt k hk; omega)))
      | (refine step_append_src _ (by rfl) (.tmp 36) (.tmp 41) 34 (by rfl) w4.heap.size 30 i0 _ 13 88 Try.underlying34 hi0 hz0 hz1 hz2 rfl (by omega) _ 0 (flat []) (by rfl) (fresh_new (B := w4.heap.size) w5 zz5) _ L1.length _ (flat L1) (by rfl) (flat_len L1) (Row.none (by first | exact hL | exact hL.alloc _)) (Row.cells (by first | exact hL | exact hL.alloc _)) (flat_one' L1) (by unfold maxLen; omega) (by omega) (by have := hS.z; simp; omega) ?_; intro a8 c8 w8 hE8 hG hNw; rw [Nat.zero_add, flat_nil, List.nil_append] at hE8; have hS := St.grown (by first | exact hS | exact hS.alloc _) hG (fun k hk => ((fresh_new (B := w4.heap.size) w5 zz5).lt k hk).1); try (first | have hM := hM.grown hG (by intro k hk e; simp [Value.ownBlock] at e; have := hM.lt k hk; simp at this; omega) | have hM := (hM.alloc _).grown hG (by intro k hk e; simp [Value.ownBlock] at e; have := hM.lt k hk; omega)))
      | (refine step_append_src _ (by rfl) (.tmp 42) (.tmp 47) 34 (by rfl) w4.heap.size 30 i0 _ 13 88 Try.underlying34 hi0 hz0 hz1 hz2 rfl (by omega) _ L1.length (flat L1) (by rfl) hE8 _ L2.length _ (flat L2) (by rfl) (flat_len L2) (Row.none hM) (Row.cells hM) (flat_one' L2) (by unfold maxLen; omega) (by omega) (by have := hS.z; simp; omega) ?_; intro a9 c9 w9 hE9 hG9 hN9; have hS := St.grown hS hG9 (fun k hk => (hE8.lt k hk).1))
      | (go_simp; go_at_call 11; (with_reducible refine (HF1.out _ ?_).mono ?_); (first | exact hS | exact hS.drew | exact (hS.alloc _).drew); rintro e w5 ⟨a5, c5, rfl, hL, hO5, hS⟩; have z5 := hO5.size; have zz5 := hS.z; simp at z5; try (have hE := fresh_only' (B := w4.heap.size) hO5 (Nat.le_refl _) q4))
      | (go_simp; go_at_call 11; (with_reducible refine (HF2.out _ ?_).mono ?_); (first | exact hS | exact hS.alloc _); rintro e w7 ⟨a7, c7, rfl, hM, hO7, hS⟩; have zz7 := hS.z; (try have hL := held_only hL hO7 (by omega)); (try have hL := held_only (hL.alloc _) hO7 (by omega)); (try have hE8 := held_only hE8 hO7 q4); (try have hE := held_only hE hO7 q4); (try have hE := fresh_only (B := w4.heap.size) hO7 zz5 (by omega)))))
    all_goals (go_wp2_with fail; go_meet; exact ⟨a9, c9, rfl, Lib.hid (by rw [flat_append]; exact hE9), hS⟩)
  case rest =>
    obtain ⟨a', c', rfl, HE, hS⟩ := hcut
    have hNm : N ≤ m := by have := feed_len .zero fs; rw [HFF.out] at this; rw [HNN.out, HM.out]; exact this
    have e : L1.length + L2.length = N := by rw [HNN.out]; simp
    rw [e] at HE ⊢
    clear e hs2
    have hbw : Below w.heap.size w wc := hb4.trans (hS.b.mono z1)
    have r1 := Acts.of hS.x HNN.out.symm
    have r2 := Acts.of HE.out HNN.out.symm
    have hp := hS.p
    have hq := hS.q
    clear HE hS HF1 HF2 HFR HX4 hb4
    generalize L1 ++ L2 = L at r1 r2
    go_wp2_with fail
    refine (same_any _ _ _ _ _ L _ r1 r2 (by omega)).mono ?_
    rintro e w13 ⟨rfl, q, rfl⟩
    have hp' : PAt (wc.drewN q) A SF := hp
    have hq' : PAt (wc.drewN q) (A + 1) SF := hq
    have hbF := below_drewN hbw q
    clear r1 r2 hp hq hbw
    generalize wc.drewN q = w14 at hp' hq' hbF ⊢
    go_wp2_with fail
    refine (idle_any A SF w14 hp').mono ?_
    rintro e w15 ⟨rfl, rfl⟩
    go_wp2_with fail
    refine (idle_any (A + 1) SF w14 hq').mono ?_
    rintro e w15 ⟨rfl, rfl⟩
    have hNm' : (N : Int) ≤ (m : Int) := by omega
    go_wp2_with fail
    go_returns
    exact ⟨by simp, hbF⟩
end Parted
end Esc
end Go.Proofs.Ytgbpmefiafoliaa
