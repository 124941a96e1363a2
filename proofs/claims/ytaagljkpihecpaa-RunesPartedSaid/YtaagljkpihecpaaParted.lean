/- RunesParted returns true for every input, and leaves what was there as it was. No condition. -/
import Derived.Test.YtaagljkpihecpaaChain
import Derived.Test.YtaagljkpihecpaaQuiet
import Derived.ProofKit
import Derived.OpenShut
import Derived.ShutString
import Derived.ChangeOld
import Derived.Deep.LoopGhost
import Derived.Deep.DeepCutAuto
namespace Go.Proofs.Ytaagljkpihecpaa
open Go.ChangeShapes Go.WideShapes Go.ChangeAt Go.RowKit
namespace Ru
theorem nb_slice (s : ByteArray) (i j : Nat) : nb (s.extract i j) = ((nb s).take j).drop i := by
  have h : (s.extract i j).data.toList = (s.data.toList.take j).drop i := by
    rw [ByteArray.data_extract, Array.toList_extract, List.extract_eq_take_drop, List.drop_take]
  unfold nb
  rw [h, List.map_drop, List.map_take]
theorem nb_three (s : ByteArray) (i j : Nat) (h : i ≤ j) : nb s = nb (s.extract 0 i) ++ nb (s.extract i j) ++ nb (s.extract j s.size) := by
  rw [nb_slice, nb_slice, nb_extract, List.drop_zero]
  have h1 : (nb s).take i ++ ((nb s).take j).drop i = (nb s).take j := by
    conv => rhs; rw [← List.take_append_drop i ((nb s).take j)]
    rw [List.take_take, Nat.min_eq_left h]
  rw [h1, List.take_append_drop]
namespace Parted
set_option maxRecDepth 1000000 in
set_option maxHeartbeats 40000000 in
theorem walk (s : ByteArray) (x y : Int) (w : World) :
    Calls Try.prog 4 #[.string s, .int .i64 x, .int .i64 y] w fun e w' => e = .returned (.bool true) ∧ Below w.heap.size w w' := by
  go_enter Try.func4, Try.ntmps4
  go_wp2_with fail
  refine (awake_any w).mono ?_
  rintro e w1 ⟨rfl, hb1⟩
  have z1 := hb1.size
  go_wp2_with fail
  refine (short_any s 60 _ (by decide)).mono ?_
  rintro e w3 ⟨rfl, rfl⟩
  have hu := cut_size s 60
  generalize cut s 60 = u at hu ⊢
  obtain ⟨i, hi, i1, i2, i3⟩ := mod_place x u.size
  obtain ⟨k, hk, k1, k2, k3⟩ := mod_place y u.size
  generalize hx : x.tmod ((u.size : Int) + 1) = X at i1 i2 i3
  generalize hy : y.tmod ((u.size : Int) + 1) = Y at k1 k2 k3
  have n0 : (u.size : Int) + 1 ≠ 0 := by omega
  have HX := Lib.hid hx
  have HY := Lib.hid hy
  obtain ⟨lo, hlo⟩ : ∃ lo : Nat, lo = min i k := ⟨_, rfl⟩
  obtain ⟨hi', hhi⟩ : ∃ hi' : Nat, hi' = max i k := ⟨_, rfl⟩
  have hmin : min (i : Int) (k : Int) = (lo : Int) := by omega
  have hmax : max (i : Int) (k : Int) = (hi' : Int) := by omega
  have b1 : lo ≤ hi' := by omega
  have b2 : hi' ≤ u.size := by omega
  have hparts := nb_three u lo hi' b1
  have e1 : (u.extract 0 lo).size = lo := by simp; omega
  have e2 : (u.extract lo hi').size = hi' - lo := by simp; omega
  have e3 : (u.extract hi' u.size).size = u.size - hi' := by simp
  have c1 : (0 : Int) ≤ (lo : Int) := by omega
  have c2 : (lo : Int) ≤ (hi' : Int) := by omega
  have c3 : (lo : Int) ≤ (u.size : Int) := by omega
  have c4 : (hi' : Int) ≤ (u.size : Int) := by omega
  have c5 : (0 : Int) ≤ (hi' : Int) := by omega
  have hall := parted3 (nb (u.extract 0 lo)) (nb (u.extract lo hi')) (nb (u.extract hi' u.size))
  rw [← hparts] at hall
  have hlen := all_len (nb u)
  rw [nb_length] at hlen
  have HALL := Lib.hid hall
  clear hall hparts hlo hhi
  go_wp2_with fail
  have hD : DecAt (w1.alloc (.cells #[.string { data := #[] }] 27)) w1.heap.size 27 { data := #[] } := new_at rfl
  have hb2 : Below w.heap.size w (w1.alloc (.cells #[.string { data := #[] }] 27)) := hb1.alloc z1 _
  clear hb1
  generalize w1.heap.size = A at hD z1 ⊢
  generalize w1.alloc (.cells #[.string { data := #[] }] 27) = w2 at hD hb2 ⊢
  refine (feed_any A _ (u.extract 0 lo) _ hD (by rw [e1]; have : ({ data := #[] } : ByteArray).size = 0 := rfl; omega)).mono ?_
  rintro e w3 ⟨xa, xc, ka, rfl, hka, hxh, hO3, hD3⟩
  rw [show nb { data := #[] } ++ nb (u.extract 0 lo) = nb (u.extract 0 lo) from rfl] at hka hxh ⊢
  have Alt := lt_of_heap hD
  have hb3 : Below w.heap.size w w3 := hb2.trans (hO3.below hb2.size (by simp; omega))
  have z3 := hb3.size
  have a3 := lt_of_heap hD3
  have ka3 : ka.size ≤ 3 := by rw [← nb_length, hka]; exact kept_le _
  have xl := decode_len _ (nb (u.extract 0 lo)) (Nat.le_refl _)
  rw [nb_length] at xl
  rw [← hka] at HALL
  clear hka
  generalize (decode (nb (u.extract 0 lo))).1 = DX at hxh HALL xl ⊢
  go_wp2_with fail
  refine (pending_any A ka _ hD3).mono ?_
  rintro e w3' ⟨rfl, rfl⟩
  go_wp2_with fail
  refine (feed_any A ka (u.extract lo hi') _ hD3 (by omega)).mono ?_
  rintro e w4 ⟨ya, yc, kb, rfl, hkb, hyh, hO4, hD4⟩
  have hb4 : Below w.heap.size w w4 := hb3.trans (hO4.below z3 (by simp; omega))
  have z4 := hb4.size
  have a4 := lt_of_heap hD4
  have hx4 := hxh.only hO4 (by rintro x e; have := (hxh.lt x e).1; simp; omega)
  have kb3 : kb.size ≤ 3 := by rw [← nb_length, hkb]; exact kept_le _
  have yl := decode_len _ (nb ka ++ nb (u.extract lo hi')) (Nat.le_refl _)
  rw [List.length_append, nb_length, nb_length] at yl
  rw [← hkb] at HALL
  clear hkb hxh
  generalize (decode (nb ka ++ nb (u.extract lo hi'))).1 = DY at hyh HALL yl ⊢
  go_wp2_with fail
  refine (pending_any A kb _ hD4).mono ?_
  rintro e w4' ⟨rfl, rfl⟩
  go_wp2_with fail
  refine (feed_any A kb (u.extract hi' u.size) _ hD4 (by omega)).mono ?_
  rintro e w5 ⟨za, zc, kc, rfl, hkc, hzh, hO5, hD5⟩
  have hb5 : Below w.heap.size w w5 := hb4.trans (hO5.below z4 (by simp; omega))
  have z5 := hb5.size
  have a5 := lt_of_heap hD5
  have hx5 := hx4.only hO5 (by rintro x e; have := (hx4.lt x e).1; simp; omega)
  have hy5 := hyh.only hO5 (by rintro x e; have := (hyh.lt x e).1; simp; omega)
  have kc3 : kc.size ≤ 3 := by rw [← nb_length, hkc]; exact kept_le _
  have zl := decode_len _ (nb kb ++ nb (u.extract hi' u.size)) (Nat.le_refl _)
  rw [List.length_append, nb_length, nb_length] at zl
  rw [← hkc] at HALL
  clear hkc hx4 hyh
  generalize (decode (nb kb ++ nb (u.extract hi' u.size))).1 = DZ at hzh HALL zl ⊢
  go_wp2_with fail
  refine (flush_any A kc _ hD5).mono ?_
  obtain ⟨m, ys, hm, hys, hmys⟩ : ∃ (m : Nat) (ys : List Nat), m = (if kc.size = 0 then 0 else 1) ∧ ys = (if kc.size = 0 then [] else [65533]) ∧ m ≤ 1 := by
    by_cases h : kc.size = 0 <;> simp [h]
  rw [show (if nb kc = [] then ([] : List Nat) else [65533]) = ys by rw [hys]; by_cases h : kc.size = 0 <;> simp [h, nb_eq_nil]] at HALL
  rw [← hm, ← hys]
  rintro e w6 ⟨wa, wc, rfl, hwh, hO6, hD6⟩
  have hb6 : Below w.heap.size w w6 := hb5.trans (hO6.below z5 (by simp; omega))
  have z6 := hb6.size
  have hx6 := hx5.only hO6 (by rintro x e; have := (hx5.lt x e).1; simp; omega)
  have hy6 := hy5.only hO6 (by rintro x e; have := (hy5.lt x e).1; simp; omega)
  have hz6 := hzh.only hO6 (by rintro x e; have := (hzh.lt x e).1; simp; omega)
  have sx := SrcAt.of hx6
  have sy := SrcAt.of hy6
  have sz := SrcAt.of hz6
  have sw := SrcAt.of hwh
  clear hx5 hy5 hzh hx6 hy6 hz6 hwh hO3 hO4 hO5 hO6 hD hD3 hD4 hD5 hD6 hm hys hb2 hb3 hb4 hb5
  have hnew : Below w6.heap.size w6 (w6.alloc (.cells #[] 21)) := (Below.refl _ _).alloc (Nat.le_refl _) _
  obtain ⟨i0, hi0, hz0, hz1, hz2⟩ := info_parts info21
  have hAcc : Held (w6.alloc (.cells #[] 21)) w6.heap.size 21 1 (.slice (some ⟨w6.heap.size, 0, none⟩) 0 0) 0 (rs []) := ⟨rfl, .inr ⟨w6.heap.size, 0, 0, #[], rfl, Nat.le_refl _, new_at rfl, Nat.le_refl _, by decide, by decide, rfl⟩⟩
  have sx' := sx.keep hnew
  go_wp2_with (at_builtin; refine wpList_append_rs rfl _ _ rfl _ w6.heap.size (.slice (some ⟨w6.heap.size, 0, none⟩) 0 0) 0 [] rfl hAcc xa DX.length xc DX rfl sx' (by omega) (by simp) ?_)
  intro a7 c7 w7 hA7 hb7
  have z7 := hb7.size
  have hn7 := hnew.trans hb7
  simp only [World.size_alloc] at z7
  have sy7 := sy.keep hn7
  clear hAcc
  go_wp2_with (at_builtin; refine wpList_append_rs rfl _ _ rfl _ w6.heap.size (.slice a7 DX.length c7) DX.length DX rfl (by simpa using hA7) ya DY.length yc DY rfl sy7 (by omega) (by omega) ?_)
  intro a8 c8 w8 hA8 hb8
  have z8 := hb8.size
  have hn8 := hn7.trans hb8
  have sz8 := sz.keep hn8
  clear hA7
  go_wp2_with (at_builtin; refine wpList_append_rs rfl _ _ rfl _ w6.heap.size (.slice a8 (DX.length + DY.length) c8) (DX.length + DY.length) (DX ++ DY) rfl (by simpa using hA8) za DZ.length zc DZ rfl sz8 (by omega) (by omega) ?_)
  intro a9 c9 w9 hA9 hb9
  have z9 := hb9.size
  have hn9 := hn8.trans hb9
  have sw9 := sw.keep hn9
  clear hA8
  go_wp2_with (at_builtin; refine wpList_append_rs rfl _ _ rfl _ w6.heap.size (.slice a9 (DX.length + DY.length + DZ.length) c9) (DX.length + DY.length + DZ.length) (DX ++ DY ++ DZ) rfl (by simpa using hA9) wa m wc ys rfl sw9 (by omega) (by omega) ?_)
  intro a10 c10 w10 hA10 hb10
  have z10 := hb10.size
  have hn10 := hn9.trans hb10
  clear hA9 hb7 hb8 hb9 hb10 hn7 hn8 hn9 sx sy sz sw sx' sy7 sz8 sw9
  have hm7 : m = ys.length := by have := hA10.1; simp [rs] at this; omega
  have hcount : DX.length + DY.length + DZ.length + m = (all (nb u)).length := by rw [HALL.out]; simp; omega
  have hA10 : Held w10 w6.heap.size 21 1 (.slice a10 (all (nb u)).length c10) (all (nb u)).length (rs (all (nb u))) := by
    have h := hA10
    simp only [Nat.zero_add, List.nil_append, hcount] at h
    rw [HALL.out] at h ⊢
    simpa using h
  try simp only [Nat.zero_add]
  rw [hcount]
  clear HALL hcount hm7
  have hb11 : Below w.heap.size w w10 := hb6.trans (hn10.mono z6)
  have z11 := hb11.size
  go_wp2_with fail
  refine (decodeAll_any u _ (by omega)).mono ?_
  rintro e w11 ⟨ba, bc, rfl, hbh, hb12⟩
  have r1 : Reads w11 a10 (all (nb u)).length (rs (all (nb u))) := (Reads.of hA10).keep hb12
  have r2 := Reads.of hbh
  have hb13 : Below w.heap.size w w11 := hb11.trans (hb12.mono z11)
  generalize all (nb u) = AL at r1 r2 hlen ⊢
  clear hbh hA10 hb12
  go_wp2_with fail
  refine (same_any _ _ _ _ _ AL _ r1 r2 (by omega)).mono ?_
  rintro e w12 ⟨rfl, q, rfl⟩
  clear r1 r2
  have d1 : (0 : Int) ≤ (ka.size : Int) := by omega
  have d2 : (ka.size : Int) ≤ 3 := by omega
  have d3 : (0 : Int) ≤ (kb.size : Int) := by omega
  have d4 : (kb.size : Int) ≤ 3 := by omega
  have d5 : (AL.length : Int) ≤ (u.size : Int) := by omega
  go_wp2_with fail
  go_returns
  exact ⟨by simp [d1, d2, d3, d4, d5], below_drewN hb13 q⟩
end Parted
end Ru
end Go.Proofs.Ytaagljkpihecpaa
