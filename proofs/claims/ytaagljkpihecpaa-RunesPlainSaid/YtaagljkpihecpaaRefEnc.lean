/- The reference's one, Encode. No condition beyond each theorem's own premises. -/
import Derived.Test.YtaagljkpihecpaaFew
namespace Go.Proofs.Ytaagljkpihecpaa
open Go.RowKit
namespace Ru
theorem conv_new (w : World) (l : List Nat) (n : Nat) (hn : l.length = n) (hm : n ≤ 100) (vs : Array Value) (hv : vs = (bs l).toArray) :
    (convert 47 9 (.slice (some ⟨w.heap.size, 0, none⟩) n n)).run Try.prog (w.alloc (.cells vs 5)) = .ok (.string (Str l)) (w.alloc (.cells vs 5)) := by
  subst hv
  refine conv_held (base := 0) (w := w.alloc (.cells (bs l).toArray 5)) ⟨by simp [bs, hn], .inr ⟨w.heap.size, 0, n, (bs l).toArray, rfl, Nat.zero_le _, new_at rfl, Nat.le_refl _, by unfold maxLen; omega, by simp [bs, hn], ?_⟩⟩
  simp only [List.drop_zero]
  exact List.take_of_length_le (by simp [bs, hn])

set_option maxRecDepth 1000000 in
set_option maxHeartbeats 4000000 in
theorem one_valid (r : Nat) (hv : valid r) (w : World) : Calls Try.prog 28 #[.int .i32 (r : Int)] w fun e w' => e = .returned (.string (Str (enc r))) ∧ Below w.heap.size w w' := by
  have hv' := hv
  obtain ⟨h1, h2⟩ := hv'
  have r0 : (0 : Int) ≤ (r : Int) := by omega
  have r1 : (r : Int) ≤ 1114111 := by omega
  by_cases c1 : r < 128
  · have d1 : (r : Int) < 128 := by omega
    have e : enc r = [r] := by simp [enc, c1]
    rw [e]
    have k := conv_new w [r] 1 rfl (by decide) #[.int .u8 (r : Int)] rfl
    clear e h2
    go_enter Try.func28, Try.ntmps28
    go_wp2_with fail
    refine (none_no r hv w).mono ?_
    rintro e w1 ⟨rfl, rfl⟩
    go_wp2_with fail
    go_returns
    exact ⟨rfl, by go_grown⟩
  · by_cases c2 : r < 2048
    · have d1 : ¬ (r : Int) < 128 := by omega
      have d2 : (r : Int) < 2048 := by omega
      have e : enc r = [192 + r / 64, 128 + r % 64] := by simp [enc, c1, c2]
      rw [e]
      have k := conv_new w [192 + r / 64, 128 + r % 64] 2 rfl (by decide) #[.int .u8 (192 + (r : Int) / 64), .int .u8 (128 + (r : Int) % 64)] (by simp [bs])
      clear e h2
      go_enter Try.func28, Try.ntmps28
      go_wp2_with fail
      refine (none_no r hv w).mono ?_
      rintro e w1 ⟨rfl, rfl⟩
      go_wp2_with fail
      go_returns
      exact ⟨rfl, by go_grown⟩
    · by_cases c3 : r < 65536
      · have d1 : ¬ (r : Int) < 128 := by omega
        have d2 : ¬ (r : Int) < 2048 := by omega
        have d3 : (r : Int) < 65536 := by omega
        have e : enc r = [224 + r / 4096, 128 + r / 64 % 64, 128 + r % 64] := by simp [enc, c1, c2, c3]
        rw [e]
        have k := conv_new w [224 + r / 4096, 128 + r / 64 % 64, 128 + r % 64] 3 rfl (by decide) #[.int .u8 (224 + (r : Int) / 4096), .int .u8 (128 + (r : Int) / 64 % 64), .int .u8 (128 + (r : Int) % 64)] (by simp [bs])
        clear e h2
        go_enter Try.func28, Try.ntmps28
        go_wp2_with fail
        refine (none_no r hv w).mono ?_
        rintro e w1 ⟨rfl, rfl⟩
        go_wp2_with fail
        go_returns
        exact ⟨rfl, by go_grown⟩
      · have d1 : ¬ (r : Int) < 128 := by omega
        have d2 : ¬ (r : Int) < 2048 := by omega
        have d3 : ¬ (r : Int) < 65536 := by omega
        have e : enc r = [240 + r / 262144, 128 + r / 4096 % 64, 128 + r / 64 % 64, 128 + r % 64] := by simp [enc, c1, c2, c3]
        rw [e]
        have k := conv_new w [240 + r / 262144, 128 + r / 4096 % 64, 128 + r / 64 % 64, 128 + r % 64] 4 rfl (by decide) #[.int .u8 (240 + (r : Int) / 262144), .int .u8 (128 + (r : Int) / 4096 % 64), .int .u8 (128 + (r : Int) / 64 % 64), .int .u8 (128 + (r : Int) % 64)] (by simp [bs])
        clear e h2
        go_enter Try.func28, Try.ntmps28
        go_wp2_with fail
        refine (none_no r hv w).mono ?_
        rintro e w1 ⟨rfl, rfl⟩
        go_wp2_with fail
        go_returns
        exact ⟨rfl, by go_grown⟩
set_option maxRecDepth 100000 in
set_option maxHeartbeats 2000000 in
theorem one_no (r : Int) (h : ¬ (0 ≤ r ∧ r ≤ 1114111 ∧ ¬ (55296 ≤ r ∧ r ≤ 57343))) (w : World) : Calls Try.prog 28 #[.int .i32 r] w fun e w' => e = .returned (.string (Str (enc 65533))) ∧ Below w.heap.size w w' := by
  have k := conv_new w (enc 65533) 3 (by decide) (by decide) #[.int .u8 239, .int .u8 191, .int .u8 189] (by simp [bs, enc])
  generalize Str (enc 65533) = S at k ⊢
  go_enter Try.func28, Try.ntmps28
  go_wp2_with fail
  refine (none_yes r h w).mono ?_
  rintro e w1 ⟨rfl, rfl⟩
  clear h
  go_wp2_with fail
  go_returns
  exact ⟨rfl, by go_grown⟩
theorem one_any (r : Int) (w : World) : Calls Try.prog 28 #[.int .i32 r] w fun e w' => e = .returned (.string (Str (enc (fix r)))) ∧ Below w.heap.size w w' := by
  rcases fix_cases r with ⟨n, rfl, hv, hf⟩ | ⟨hno, hf⟩
  · rw [hf]; exact one_valid n hv w
  · rw [hf]; exact one_no r hno w

set_option maxHeartbeats 1000000 in
set_option maxRecDepth 100000 in
theorem refEncode_any (a : Option Addr) (n c : Nat) (xs : List Int) (w : World) (hr : Reads w a n (is xs)) (hn : n ≤ 1000) :
    Calls Try.prog 20 #[.slice a n c] w fun e w' => e = .returned (.string (Str (encAll (xs.map fix)))) ∧ Below w.heap.size w w' := by
  have hl : xs.length = n := by simpa [is] using hr.1
  go_enter Try.func20, Try.ntmps20
  go_wp2_with fail
  go_loopw [3, 4] (fun sv iv wr => ∃ (i : Nat), i ≤ n ∧ iv = .int .i64 (i : Int) ∧ sv = .string (Str (encAll ((xs.take i).map fix))) ∧ Below w.heap.size w wr) (fun _ iv _ => n - (intOf iv).toNat)
  case atStart => exact ⟨0, Nat.zero_le _, rfl, rfl, Below.refl _ _⟩
  case round =>
    obtain ⟨i, hi, rfl, rfl, hb⟩ := hrel
    by_cases hlt : i < n
    · have z := hb.size
      obtain ⟨g, off, rfl, hg, hcell⟩ := hr.2.resolve_left (by omega)
      obtain ⟨x, hx⟩ : ∃ x, x = xs[i]'(by omega) := ⟨_, rfl⟩
      have hsn : (xs.take (i + 1)).map fix = (xs.take i).map fix ++ [fix x] := by
        rw [List.take_succ_eq_append_getElem (by omega), hx, List.map_append]; rfl
      have c1 : wr.cell? ⟨g, off + i, none⟩ = some (.int .i32 x) := by
        rw [hb.cell (p := ⟨g, off + i, none⟩) hg]
        exact hcell i _ (by simp [is, show i < xs.length by omega, hx])
      have hE : Str (encAll ((xs.take (i + 1)).map fix)) = Str (encAll ((xs.take i).map fix)) ++ Str (enc (fix x)) := by rw [hsn, encAll_snoc, str_append]
      have hlen : (Str (encAll ((xs.take i).map fix))).size ≤ 4000 := by
        have := encAll_len ((xs.take i).map fix); rw [str_size]; simp only [List.length_map, List.length_take] at this; omega
      have hlen2 : (Str (enc (fix x))).size ≤ 4 := by rw [str_size]; exact (enc_len _).2
      have HE := Lib.hid hE
      have HL := Lib.hid hl
      have HC := Lib.hid hcell
      have hone := one_any x
      clear hE hsn hx hl hcell hr
      generalize Str (encAll ((xs.take i).map fix)) = E at hlen HE ⊢
      generalize Str (enc (fix x)) = F at hlen2 HE hone ⊢
      have i0 : (0 : Int) ≤ (i : Int) := by omega
      have i1 : (i : Int) < (n : Int) := by omega
      go_wp2_with fail
      refine (hone _).mono ?_
      rintro e w1 ⟨rfl, hb1⟩
      have hb2 : Below w.heap.size w w1 := hb.trans (hb1.mono z)
      clear hone
      go_wp2_with fail
      go_roundw
      case rel => exact ⟨i + 1, by omega, by go_num, by rw [HE.out], hb2⟩
      case measure => simp [intOf]; omega
    · obtain rfl : i = n := by omega
      have ht : xs.take i = xs := List.take_of_length_le (by omega)
      rw [ht]
      generalize hE : Str (encAll (xs.map fix)) = E
      have HE := Lib.hid hE
      have HL := Lib.hid hl
      clear ht hl hr hE
      go_wp2_with fail
      go_returns
      rw [HE.out]
      exact ⟨rfl, hb⟩
end Ru
end Go.Proofs.Ytaagljkpihecpaa
