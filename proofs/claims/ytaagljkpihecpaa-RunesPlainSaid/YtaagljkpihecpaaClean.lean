/- RunesClean returns true for every input, and leaves what was there as it was. No condition. -/
import Derived.Test.YtaagljkpihecpaaBack
namespace Go.Proofs.Ytaagljkpihecpaa
open Go.ChangeShapes Go.WideShapes Go.ChangeAt Go.RowKit
namespace Ru
theorem fix_nats (l : List Nat) (h : ∀ r ∈ l, valid r) : (l.map fun x : Nat => (x : Int)).map fix = l := by
  rw [List.map_map]
  conv => rhs; rw [← List.map_id l]
  apply List.map_congr_left
  intro r hr
  exact fix_nat r (h r hr)
/-- Encode, of characters that have sequences. -/
theorem encodeN_any (a : Option Addr) (n c : Nat) (xs : List Nat) (w : World) (hv : ∀ r ∈ xs, valid r) (hr : Reads w a n (rs xs)) (hn : n ≤ 1000) :
    Calls Try.prog 18 #[.slice a n c] w fun e w' => e = .returned (.string (Str (encAll xs))) ∧ Below w.heap.size w w' := by
  have h := encode_any a n c (xs.map fun x : Nat => (x : Int)) w (by rw [is_rs]; exact hr) hn
  rwa [fix_nats xs hv] at h
theorem nb_encN (l : List Nat) (h : ∀ r ∈ l, valid r) : nb (Str (encAll l)) = encAll l := nb_str _ (encAll_byte _ h)
theorem all_encN (l : List Nat) (h : ∀ r ∈ l, valid r) : all (nb (Str (encAll l))) = l := by rw [nb_encN l h]; exact all_encAll _ h
/-- Is fffd among characters? -/
def anyBad (l : List Nat) : Bool := l.any fun r => r == 65533
theorem anyBad_snoc (l : List Nat) (r : Nat) : anyBad (l ++ [r]) = (anyBad l || r == 65533) := by simp [anyBad]
theorem clean_str (u : ByteArray) (h : anyBad (all (nb u)) = false) : Str (encAll (all (nb u))) = u := by
  rw [clean _ (nb u) (Nat.le_refl _), str_nb]
  intro r hr e
  unfold anyBad at h
  rw [List.any_eq_false] at h
  exact h r hr (by simp [e])
namespace Clean
set_option maxRecDepth 1000000 in
set_option maxHeartbeats 4000000 in
theorem walk (s : ByteArray) (w : World) :
    Calls Try.prog 6 #[.string s] w fun e w' => e = .returned (.bool true) ∧ Below w.heap.size w w' := by
  go_enter Try.func6, Try.ntmps6
  go_wp2_with fail
  refine (awake_any w).mono ?_
  rintro e w1 ⟨rfl, hb1⟩
  have z1 := hb1.size
  go_wp2_with fail
  refine (short_any s 60 _ (by decide)).mono ?_
  rintro e w2 ⟨rfl, rfl⟩
  have hu := cut_size s 60
  generalize cut s 60 = u at hu ⊢
  have hxl := all_len (nb u)
  have hxv := all_valid (nb u)
  rw [nb_length] at hxl
  go_wp2_with fail
  refine (decodeAll_any u w1 (by omega)).mono ?_
  have hcl := clean_str u
  generalize all (nb u) = X at hxl hxv hcl ⊢
  rintro e w2 ⟨xa, xc, rfl, hx, hb2⟩
  have rx := Reads.of hx
  have hb2' : Below w.heap.size w w2 := hb1.trans (hb2.mono z1)
  have z2 := hb2'.size
  clear hx hb1 hb2
  have hTl : (Str (encAll X)).size ≤ 4 * X.length := by rw [str_size]; exact encAll_len X
  have hTa := all_encN X hxv
  have HTA := Lib.hid hTa
  have HCL := Lib.hid hcl
  have HXV := Lib.hid hxv
  clear hTa hcl hxv
  go_wp2_with fail
  refine (encodeN_any xa X.length xc X w2 HXV.out rx (by omega)).mono ?_
  rintro e w3 ⟨rfl, hb3⟩
  have rx3 := rx.keep hb3
  have hb3' : Below w.heap.size w w3 := hb2'.trans (hb3.mono z2)
  have z3 := hb3'.size
  have hT : Str (encAll X) = Str (encAll X) := rfl
  generalize hTd : Str (encAll X) = T at hTl HTA HCL hT ⊢
  have HTD := Lib.hid hTd
  clear rx hb3 hb2' hTd hT
  go_wp2_with fail
  refine (decodeAll_any T w3 (by omega)).mono ?_
  rw [HTA.out]
  rintro e w4 ⟨ya, yc, rfl, hy, hb4⟩
  have rx4 := rx3.keep hb4
  have ry4 := Reads.of hy
  have hb4' : Below w.heap.size w w4 := hb3'.trans (hb4.mono z3)
  have z4 := hb4'.size
  clear rx3 hb4 hb3' hy
  go_wp2_with fail
  refine (same_any _ _ _ _ _ X _ ry4 rx4 (by omega)).mono ?_
  rintro e w5 ⟨rfl, q, rfl⟩
  have hb5 : Below w.heap.size w (w4.drewN q) := below_drewN hb4' q
  have rx5 : Reads (w4.drewN q) xa X.length (rs X) := rx4
  clear ry4 hb4'
  clear rx4
  have z5 := hb5.size
  generalize w4.drewN q = w6 at hb5 rx5 z5 ⊢
  have RX := Lib.hid rx5
  clear rx5
  obtain ⟨m, hm⟩ : ∃ m, m = X.length := ⟨_, rfl⟩
  rw [← hm] at RX hxl hTl ⊢
  have HM := Lib.hid hm
  clear hm
  go_wp2_with fail
  go_loopw [7, 8] (fun bv iv wr => ∃ i : Nat, i ≤ m ∧ iv = .int .i64 (i : Int) ∧ bv = .bool (anyBad (X.take i)) ∧ wr = w6) (fun _ iv _ => m - (intOf iv).toNat)
  case atStart => exact ⟨0, Nat.zero_le _, rfl, rfl, rfl⟩
  case round =>
    obtain ⟨i, hi, rfl, rfl, rfl⟩ := hrel
    by_cases hlt : i < m
    · have hml := HM.out
      obtain ⟨g1, o1, ea, k1⟩ := RX.out.cells hlt
      subst ea
      obtain ⟨x, hx⟩ : ∃ x, x = X[i]'(by omega) := ⟨_, rfl⟩
      have c1 := k1 (.int .i32 (x : Int)) (by simp [rs, show i < X.length by omega, hx])
      have hsn : anyBad (X.take (i + 1)) = (anyBad (X.take i) || x == 65533) := by
        rw [List.take_succ_eq_append_getElem (by omega), ← hx]; exact anyBad_snoc _ _
      have HS := Lib.hid hsn
      have i0 : (0 : Int) ≤ (i : Int) := by omega
      have i1 : (i : Int) < (m : Int) := by omega
      clear k1 hx hml hsn
      generalize anyBad (X.take i) = B at HS ⊢
      cases B with
      | true =>
        go_wp2_with fail
        go_roundw
        case rel => exact ⟨i + 1, by omega, by go_num, by rw [HS.out]; rfl, trivial⟩
        case measure => simp [intOf]; omega
      | false =>
        by_cases e : x = 65533
        · have e1 : ((x : Int) == 65533) = true := by simp [e]
          have e2 : (x == 65533) = true := by simp [e]
          have E2 := Lib.hid e2
          clear e e2
          go_wp2_with fail
          go_roundw
          case rel => exact ⟨i + 1, by omega, by go_num, by rw [HS.out, E2.out]; rfl, trivial⟩
          case measure => simp [intOf]; omega
        · have e1 : ((x : Int) == 65533) = false := by simp; omega
          have e2 : (x == 65533) = false := by simp [e]
          have E2 := Lib.hid e2
          clear e e2
          go_wp2_with fail
          go_roundw
          case rel => exact ⟨i + 1, by omega, by go_num, by rw [HS.out, E2.out]; rfl, trivial⟩
          case measure => simp [intOf]; omega
    · obtain rfl : i = m := by omega
      have ht : X.take i = X := List.take_of_length_le (by have := HM.out; omega)
      rw [ht]
      clear ht
      cases hB : anyBad X with
      | true =>
        clear HCL hB
        go_wp2_with fail
        refine (decodeAll_any T _ (by omega)).mono ?_
        rw [HTA.out]
        rintro e w7 ⟨ya, yc, rfl, hy, hb7⟩
        have hb7' : Below w.heap.size w w7 := hb5.trans (hb7.mono z5)
        have z7 := hb7'.size
        go_wp2_with fail
        refine (encodeN_any ya X.length yc X w7 HXV.out (Reads.of hy) (by have := HM.out; omega)).mono ?_
        rw [HTD.out]
        rintro e w8 ⟨rfl, hb8⟩
        have hb8' : Below w.heap.size w w8 := hb7'.trans (hb8.mono z7)
        go_wp2_with fail
        go_returns
        exact ⟨rfl, hb8'⟩
      | false =>
        obtain rfl : T = u := HCL.out hB
        clear HCL hB
        go_wp2_with fail
        refine (decodeAll_any T _ (by omega)).mono ?_
        rw [HTA.out]
        rintro e w7 ⟨ya, yc, rfl, hy, hb7⟩
        have hb7' : Below w.heap.size w w7 := hb5.trans (hb7.mono z5)
        have z7 := hb7'.size
        go_wp2_with fail
        refine (encodeN_any ya X.length yc X w7 HXV.out (Reads.of hy) (by have := HM.out; omega)).mono ?_
        rw [HTD.out]
        rintro e w8 ⟨rfl, hb8⟩
        have hb8' : Below w.heap.size w w8 := hb7'.trans (hb8.mono z7)
        go_wp2_with fail
        go_returns
        exact ⟨rfl, hb8'⟩
end Clean
end Ru
end Go.Proofs.Ytaagljkpihecpaa
