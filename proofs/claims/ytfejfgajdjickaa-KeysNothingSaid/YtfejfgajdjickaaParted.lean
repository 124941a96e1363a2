/- KeysParted returns true for every input, and leaves what was there as it was. No condition. -/
import Derived.Test.YtfejfgajdjickaaOrder
import Derived.ShutString
import Derived.ChangeOld
import Derived.Deep.LoopGhost
import Derived.Deep.RegionHeld3
import Derived.Deep.RegionLaw
namespace Go.Proofs.Ytfejfgajdjickaa
open Go.ChangeShapes Go.WideShapes Go.ChangeAt Go.RowKit
namespace Keys
theorem kcs_nil : kcs [] = [] := rfl
theorem mod_place (a : Int) (n : Nat) : ∃ i : Nat, i ≤ n ∧ -(n : Int) ≤ a.tmod ((n : Int) + 1) ∧ a.tmod ((n : Int) + 1) ≤ n ∧ (a.tmod ((n : Int) + 1) + n + 1).tmod ((n : Int) + 1) = i := by
  have h1 : a.tmod ((n : Int) + 1) < (n : Int) + 1 := Int.tmod_lt_of_pos _ (by omega)
  have h2 : -((n : Int) + 1) < a.tmod ((n : Int) + 1) := Int.lt_tmod_of_pos _ (by omega)
  have h3 : (a.tmod ((n : Int) + 1) + n + 1).tmod ((n : Int) + 1) < (n : Int) + 1 := Int.tmod_lt_of_pos _ (by omega)
  have h4 : 0 ≤ (a.tmod ((n : Int) + 1) + n + 1).tmod ((n : Int) + 1) := Int.tmod_nonneg _ (by omega)
  exact ⟨((a.tmod ((n : Int) + 1) + n + 1).tmod ((n : Int) + 1)).toNat, by omega, by omega, by omega, by omega⟩
theorem flat_take_le (l : List K) (i : Nat) : (flat (l.take i)).length ≤ (flat l).length := by
  have h := flat_append (l.take i) (l.drop i)
  rw [List.take_append_drop] at h
  rw [h, List.length_append]; omega
theorem s_le_flat (l : List K) (A : K) (hA : A ∈ l) : A.s.length ≤ (flat l).length := by
  induction l with
  | nil => cases hA
  | cons b l ih =>
    have e : flat (b :: l) = b.flat ++ flat l := by simp [flat]
    rw [e, List.length_append]
    rcases List.mem_cons.1 hA with rfl | h
    · have : A.s.length ≤ A.flat.length := by unfold K.flat; simp
      omega
    · have := ih h; omega
theorem ext_list (s : ByteArray) (i j : Nat) : (s.extract i j).data.toList = (s.data.toList.take j).drop i := by
  rw [ByteArray.data_extract, Array.toList_extract, List.extract_eq_take_drop, List.drop_take]
theorem flats_any (a : Option Addr) (n c N : Nat) (l : List K) (w : World) (h : KR w a n l) (hn : n ≤ 1000) (hf : (flat l).length ≤ N) (hN : N ≤ 1000) :
    Calls Try.prog 8 #[.slice a n c] w (Flats l w) :=
  flat_any a n c l w h hn (fun i => by have := flat_take_le l i; omega) (fun A hA => by have := s_le_flat l A hA; omega)
namespace Parted
set_option maxRecDepth 1000000 in
set_option maxHeartbeats 16000000 in
theorem walk (s : ByteArray) (bg : Int) (w : World) :
    Calls Try.prog 3 #[.string s, .int .i64 bg] w fun e w' => e = .returned (.bool true) ∧ Below w.heap.size w w' := by
  go_enter Try.func3, Try.ntmps3
  go_wp2_with fail
  refine (awake_any w).mono ?_
  rintro e w1 ⟨rfl, hb1⟩
  have z1 := hb1.size
  go_wp2_with fail
  refine (short_any s 60 _ (by decide)).mono ?_
  rintro e w3 ⟨rfl, rfl⟩
  have hu := cut_size s 60
  generalize cut s 60 = u at hu ⊢
  obtain ⟨k, hk, k1, k2, k3⟩ := mod_place bg u.size
  generalize hX : bg.tmod ((u.size : Int) + 1) = X at k1 k2 k3
  have hb3 : Below w.heap.size w ((w1.alloc (.cells #[.bool false, .bool false] 26)).alloc (.cells #[.bool false, .bool false] 26)) := (hb1.alloc z1 _).alloc (by simp; omega) _
  have hb13 : Below w.heap.size w1 ((w1.alloc (.cells #[.bool false, .bool false] 26)).alloc (.cells #[.bool false, .bool false] 26)) := ((Below.refl _ w1).alloc z1 _).alloc (by simp; omega) _
  have hP : RAt ((w1.alloc (.cells #[.bool false, .bool false] 26)).alloc (.cells #[.bool false, .bool false] 26)) w1.heap.size false false := hk_alloc (by simp) (new_at rfl)
  have hQ : RAt ((w1.alloc (.cells #[.bool false, .bool false] 26)).alloc (.cells #[.bool false, .bool false] 26)) (w1.heap.size + 1) false false := new_at (by simp)
  obtain ⟨F, hF⟩ : ∃ F, F = feed false false u.data.toList := ⟨_, rfl⟩
  have hfeed := feed_any w1.heap.size false false u _ hP (by omega)
  rw [← hF] at hfeed
  have HF := Lib.hid hF
  have HX := Lib.hid hX
  have n0 : (u.size : Int) + 1 ≠ 0 := by omega
  clear hF
  go_wp2_with fail
  refine hfeed.mono ?_
  rintro e w4 ⟨ax, cx, rfl, hx4, ho4, hP4⟩
  have hb4 : Below w.heap.size w w4 := hb3.trans (only_below ho4 (by simp; omega) z1)
  have hb14 : Below w.heap.size w1 w4 := hb13.trans (only_below ho4 (by simp; omega) z1)
  have hQ4 := hQ.far ho4 (by omega)
  have hxb : ∀ j, (Value.slice ax F.ks.length cx).ownBlock = some j → w1.heap.size + 2 ≤ j ∧ j < w4.heap.size := fun j hj => by have := hx4.lt j hj; simp at this; omega
  have z4 := hb4.size
  have q4 := hQ4.lt
  clear hfeed hP hQ hb3 hb13 ho4 hX hb1
  generalize w1.heap.size = A at hP4 hQ4 z1 hxb q4 ⊢
  obtain ⟨G1, hG1⟩ : ∃ G, G = feed false false (u.extract 0 k).data.toList := ⟨_, rfl⟩
  obtain ⟨G2, hG2⟩ : ∃ G, G = feed G1.c G1.p (u.extract k u.size).data.toList := ⟨_, rfl⟩
  have e1 : (u.extract 0 k).size = k := by simp; omega
  have e2 : (u.extract k u.size).size = u.size - k := by simp
  have hsum : flat F.ks = flat (G1.ks ++ G2.ks) ∧ F.c = G2.c ∧ F.p = G2.p := by
    have hs : u.data.toList = (u.extract 0 k).data.toList ++ (u.extract k u.size).data.toList := by
      rw [ext_list, ext_list, List.drop_zero, show u.data.toList.take u.size = u.data.toList from List.take_of_length_le (by rw [Array.length_toList]; exact Nat.le_refl _), List.take_append_drop]
    have h := parted false false (u.extract 0 k).data.toList (u.extract k u.size).data.toList
    rw [← hs, ← HF.out, ← hG1, ← hG2] at h
    exact h
  have lF : F.ks.length ≤ 121 := by have := feed_len false false u.data.toList; rw [← HF.out, Array.length_toList] at this; have h : u.data.size = u.size := rfl; omega
  have l1 : G1.ks.length ≤ 121 := by have := feed_len false false (u.extract 0 k).data.toList; rw [← hG1, Array.length_toList] at this; have h : (u.extract 0 k).data.size = (u.extract 0 k).size := rfl; omega
  have l2 : G2.ks.length ≤ 121 := by have := feed_len G1.c G1.p (u.extract k u.size).data.toList; rw [← hG2, Array.length_toList] at this; have h : (u.extract k u.size).data.size = (u.extract k u.size).size := rfl; omega
  have lf : (flat F.ks).length ≤ 60 := by
    have h := (feed_flat false false u.data.toList).1
    rw [← HF.out] at h
    rw [h]
    have h2 := toks_len false false u.data.toList
    rw [show u.data.toList.length = u.size from Array.length_toList] at h2
    omega
  obtain ⟨N, hN⟩ : ∃ N, N = F.ks.length := ⟨_, rfl⟩
  rw [← hN] at hx4 hxb ⊢
  have HNN := Lib.hid hN
  have hS : Ord w4 A (F.c, F.p) (.slice ax N cx) N F.ks w4 (false, false) :=
    ⟨Below.refl _ _, Nat.le_refl _, hP4, hQ4, hx4.rebase (fun j hj => (hxb j hj).1), fun j hj => (hxb j hj).2, q4⟩
  have hF1 : ∀ W, Ord w4 A (F.c, F.p) (.slice ax N cx) N F.ks W (false, false) → Calls Try.prog 7 #[.pointer (some ⟨A + 1, 0, none⟩), .string (u.extract 0 k)] W fun e w' => ∃ (a' : Option Addr) (c' : Nat), e = .returned (.slice a' G1.ks.length c') ∧
      Held w' W.heap.size 34 3 (.slice a' G1.ks.length c') G1.ks.length (kcs G1.ks) ∧ Only [A + 1] W w' ∧ Ord w4 A (F.c, F.p) (.slice ax N cx) N F.ks w' (G1.c, G1.p) := fun W hW => by
    have h := feed_any (A + 1) false false (u.extract 0 k) W hW.q (by omega)
    rw [← hG1] at h
    exact h.mono fun e w' ⟨a', c', h1, h2, h3, h4⟩ => ⟨a', c', h1, h2, h3, hW.fed h3 h4⟩
  have hF2 : ∀ W, Ord w4 A (F.c, F.p) (.slice ax N cx) N F.ks W (G1.c, G1.p) → Calls Try.prog 7 #[.pointer (some ⟨A + 1, 0, none⟩), .string (u.extract k u.size)] W fun e w' => ∃ (a' : Option Addr) (c' : Nat), e = .returned (.slice a' G2.ks.length c') ∧
      Held w' W.heap.size 34 3 (.slice a' G2.ks.length c') G2.ks.length (kcs G2.ks) ∧ Only [A + 1] W w' ∧ Ord w4 A (F.c, F.p) (.slice ax N cx) N F.ks w' (G2.c, G2.p) := fun W hW => by
    have h := feed_any (A + 1) G1.c G1.p (u.extract k u.size) W hW.q (by omega)
    rw [← hG2] at h
    exact h.mono fun e w' ⟨a', c', h1, h2, h3, h4⟩ => ⟨a', c', h1, h2, h3, hW.fed h3 h4⟩
  obtain ⟨i0, hi0, hz0, hz1, hz2⟩ := info_parts info34
  have kk0 : (0 : Int) ≤ (k : Int) := by omega
  have kk1 : (k : Int) ≤ (u.size : Int) := by omega
  have HF1 := Lib.hid hF1
  have HF2 := Lib.hid hF2
  have HX4 := Lib.hid hx4
  have HSUM := Lib.hid hsum
  clear hF1 hF2 hG1 hG2 hP4 hQ4 hx4 hxb hb14 e1 e2 hsum hN
  go_upto_region 7 with (fail)
  go_cut [10] (fun v wc => ∃ (a' : Option Addr) (c' : Nat), v = .slice a' (G1.ks.length + G2.ks.length) c' ∧ Hid (Held wc w4.heap.size 34 3 (.slice a' (G1.ks.length + G2.ks.length) c') (G1.ks.length + G2.ks.length) (kcs (G1.ks ++ G2.ks))) ∧ Ord w4 A (F.c, F.p) (.slice ax N cx) N F.ks wc (G2.c, G2.p))
  case first =>
    go_region_law ((first
      | (refine step_append_src _ (by rfl) (.tmp 37) (.tmp 42) 27 (by rfl) w4.heap.size 34 i0 _ 3 32 Try.underlying27 hi0 hz0 hz1 hz2 rfl (by omega) _ 0 (kcs []) (by rfl) hE _ G1.ks.length _ (kcs G1.ks) (by rfl) (kcs_length G1.ks) (Row.none (by first | exact hL | exact hL.alloc _)) (Row.cells (by first | exact hL | exact hL.alloc _)) (kcs_one' G1.ks) (by unfold maxLen; omega) (by omega) (by have := hS.z; simp; omega) ?_; intro a8 c8 w8 hE8 hG hNw; rw [Nat.zero_add, kcs_nil, List.nil_append] at hE8; have hS := Ord.grown (by first | exact hS | exact hS.alloc _) hG (fun k hk => (hE.lt k hk).1); try (first | have hM := hM.grown hG (by intro k hk e; simp [Value.ownBlock] at e; have := hM.lt k hk; simp at this; omega) | have hM := (hM.alloc _).grown hG (by intro k hk e; simp [Value.ownBlock] at e; have := hM.lt k hk; omega)))
      | (refine step_append_src _ (by rfl) (.tmp 37) (.tmp 42) 27 (by rfl) w4.heap.size 34 i0 _ 3 32 Try.underlying27 hi0 hz0 hz1 hz2 rfl (by omega) _ 0 (kcs []) (by rfl) (fresh_new (B := w4.heap.size) w7 zz7) _ G1.ks.length _ (kcs G1.ks) (by rfl) (kcs_length G1.ks) (Row.none (by first | exact hL | exact hL.alloc _)) (Row.cells (by first | exact hL | exact hL.alloc _)) (kcs_one' G1.ks) (by unfold maxLen; omega) (by omega) (by have := hS.z; simp; omega) ?_; intro a8 c8 w8 hE8 hG hNw; rw [Nat.zero_add, kcs_nil, List.nil_append] at hE8; have hS := Ord.grown (by first | exact hS | exact hS.alloc _) hG (fun k hk => ((fresh_new (B := w4.heap.size) w7 zz7).lt k hk).1); try (first | have hM := hM.grown hG (by intro k hk e; simp [Value.ownBlock] at e; have := hM.lt k hk; simp at this; omega) | have hM := (hM.alloc _).grown hG (by intro k hk e; simp [Value.ownBlock] at e; have := hM.lt k hk; omega)))
      | (refine step_append_src _ (by rfl) (.tmp 37) (.tmp 42) 27 (by rfl) w4.heap.size 34 i0 _ 3 32 Try.underlying27 hi0 hz0 hz1 hz2 rfl (by omega) _ 0 (kcs []) (by rfl) (fresh_new (B := w4.heap.size) w5 zz5) _ G1.ks.length _ (kcs G1.ks) (by rfl) (kcs_length G1.ks) (Row.none (by first | exact hL | exact hL.alloc _)) (Row.cells (by first | exact hL | exact hL.alloc _)) (kcs_one' G1.ks) (by unfold maxLen; omega) (by omega) (by have := hS.z; simp; omega) ?_; intro a8 c8 w8 hE8 hG hNw; rw [Nat.zero_add, kcs_nil, List.nil_append] at hE8; have hS := Ord.grown (by first | exact hS | exact hS.alloc _) hG (fun k hk => ((fresh_new (B := w4.heap.size) w5 zz5).lt k hk).1); try (first | have hM := hM.grown hG (by intro k hk e; simp [Value.ownBlock] at e; have := hM.lt k hk; simp at this; omega) | have hM := (hM.alloc _).grown hG (by intro k hk e; simp [Value.ownBlock] at e; have := hM.lt k hk; omega)))
      | (refine step_append_src _ (by rfl) (.tmp 43) (.tmp 48) 27 (by rfl) w4.heap.size 34 i0 _ 3 32 Try.underlying27 hi0 hz0 hz1 hz2 rfl (by omega) _ G1.ks.length (kcs G1.ks) (by rfl) hE8 _ G2.ks.length _ (kcs G2.ks) (by rfl) (kcs_length G2.ks) (Row.none hM) (Row.cells hM) (kcs_one' G2.ks) (by unfold maxLen; omega) (by omega) (by have := hS.z; simp; omega) ?_; intro a9 c9 w9 hE9 hG9 hN9; have hS := Ord.grown hS hG9 (fun k hk => (hE8.lt k hk).1))
      | (go_simp; go_at_call 7; (with_reducible refine (HF1.out _ ?_).mono ?_); (first | exact hS | exact hS.drew | exact (hS.alloc _).drew); rintro e w5 ⟨a5, c5, rfl, hL, hO5, hS⟩; have z5 := hO5.size; have zz5 := hS.z; simp at z5; try (have hE := fresh_only' (B := w4.heap.size) hO5 (Nat.le_refl _) q4))
      | (go_simp; go_at_call 7; (with_reducible refine (HF2.out _ ?_).mono ?_); (first | exact hS | exact hS.alloc _); rintro e w7 ⟨a7, c7, rfl, hM, hO7, hS⟩; have zz7 := hS.z; (try have hL := held_only hL hO7 (by omega)); (try have hL := held_only (hL.alloc _) hO7 (by omega)); (try have hE8 := held_only hE8 hO7 q4); (try have hE := held_only hE hO7 q4); (try have hE := fresh_only (B := w4.heap.size) hO7 zz5 (by omega)))))
    all_goals (go_wp2_with fail; go_meet; exact ⟨a9, c9, rfl, Lib.hid (by rw [kcs_append]; exact hE9), hS⟩)
  case rest =>
    obtain ⟨a', c', rfl, HE, hS⟩ := hcut
    have hbw : Below w.heap.size w wc := hb4.trans (hS.b.mono z1)
    have r1 : KR wc ax N F.ks := KR.of_held hS.x
    have e : G1.ks.length + G2.ks.length = (G1.ks ++ G2.ks).length := by simp
    have r2 : KR wc a' (G1.ks ++ G2.ks).length (G1.ks ++ G2.ks) := by rw [← e]; exact KR.of_held HE.out
    have hp := hS.p
    have hq := hS.q
    obtain ⟨hs1, hs2, hs3⟩ := HSUM.out
    have l3 : (G1.ks ++ G2.ks).length ≤ 242 := by simp; omega
    have lf2 : (flat (G1.ks ++ G2.ks)).length ≤ 60 := by rw [← hs1]; exact lf
    have l4 : N ≤ 121 := by rw [HNN.out]; exact lF
    rw [e]
    clear HE hS HF1 HF2 HX4 hb4 e l1 l2 lF HSUM
    generalize G1.ks ++ G2.ks = L at r2 hs1 l3 lf2 ⊢
    generalize F.ks = M at r1 hs1 lf HNN ⊢
    have z5 := hbw.size
    have HS1 := Lib.hid hs1
    have HP := Lib.hid hp
    have HQ := Lib.hid hq
    have H2 := Lib.hid hs2
    have H3 := Lib.hid hs3
    clear hs1 hp hq hs2 hs3
    go_wp2_with fail
    refine (flats_any ax N cx 60 M wc r1 (by omega) lf (by decide)).mono ?_
    rintro e w5 ⟨a5, c5, rfl, h5, hb5⟩
    have r2' := r2.keep hb5
    have m5 := KR.of_held h5
    clear r1 r2 h5
    go_wp2_with fail
    refine (flats_any a' L.length c' 60 L w5 r2' (by omega) lf2 (by decide)).mono ?_
    rintro e w6 ⟨a6, c6, rfl, h6, hb6⟩
    have m6 := KR.of_held h6
    have m5' := m5.keep hb6
    have hb56 : Below w.heap.size w w6 := (hbw.trans (hb5.mono z5)).trans (hb6.mono (by have := hb5.size; omega))
    have p6 : RAt w6 A F.c F.p := (hb6.block A (by have := hb5.size; have := HP.out.lt; omega)).trans ((hb5.block A HP.out.lt).trans HP.out)
    have q6 : RAt w6 (A + 1) G2.c G2.p := (hb6.block (A + 1) (by have := hb5.size; have := HQ.out.lt; omega)).trans ((hb5.block (A + 1) HQ.out.lt).trans HQ.out)
    rw [← HS1.out] at m6 ⊢
    have P6 := Lib.hid p6
    have Q6 := Lib.hid q6
    clear r2' m5 h6 hb5 hb6 hbw p6 q6 HP HQ HS1
    generalize flat M = LL at m5' m6 lf ⊢
    go_wp2_with fail
    refine (same_any _ _ _ _ _ LL _ m5' m6 (by omega)).mono ?_
    rintro e w7 ⟨rfl, q, rfl⟩
    have P7 : Hid (RAt (w6.drewN q) A F.c F.p) := P6
    have Q7 : Hid (RAt (w6.drewN q) (A + 1) G2.c G2.p) := Q6
    have hbF := below_drewN hb56 q
    clear m5' m6 P6 Q6 hb56
    generalize w6.drewN q = w8 at P7 Q7 hbF ⊢
    go_wp2_with fail
    refine (copying_any A F.c F.p w8 P7.out).mono ?_
    rintro e w9 ⟨rfl, rfl⟩
    go_wp2_with fail
    refine (copying_any (A + 1) G2.c G2.p w8 Q7.out).mono ?_
    rintro e w9 ⟨rfl, rfl⟩
    rw [H2.out]
    have t1 : (G2.c == G2.c) = true := by simp
    go_wp2_with fail
    refine (prefixed_any A F.c F.p w8 P7.out).mono ?_
    rintro e w9 ⟨rfl, rfl⟩
    go_wp2_with fail
    refine (prefixed_any (A + 1) G2.c G2.p w8 Q7.out).mono ?_
    rintro e w9 ⟨rfl, rfl⟩
    rw [H3.out]
    have t2 : (G2.p == G2.p) = true := by simp
    go_wp2_with fail
    go_returns
    exact ⟨by simp, hbF⟩
end Parted
end Keys
end Go.Proofs.Ytfejfgajdjickaa
