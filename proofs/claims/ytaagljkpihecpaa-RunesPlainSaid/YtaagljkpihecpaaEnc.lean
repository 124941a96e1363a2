/- Encode, few, ValidRune; the reference's one, none, Encode. No condition beyond each theorem's own premises. -/
import Derived.Test.YtaagljkpihecpaaAppendRune
import Derived.Laws.BytesArg
namespace Go.Proofs.Ytaagljkpihecpaa
open Go.RowKit
namespace Ru
/-- The cells of characters, as they came. -/
def is (l : List Int) : List Value := l.map fun r : Int => .int .i32 r
theorem is_length (l : List Int) : (is l).length = l.length := by simp [is]
theorem is_rs (l : List Nat) : is (l.map fun x : Nat => (x : Int)) = rs l := by simp [is, rs]
/-- Bytes as a text. -/
def Str (l : List Nat) : ByteArray := ⟨(l.map UInt8.ofNat).toArray⟩
theorem str_nums (l : List Nat) : strOfNums (l.map fun x : Nat => (x : Int)) = Str l := by simp [strOfNums, Str]
theorem nb_str (l : List Nat) (h : ∀ b ∈ l, b < 256) : nb (Str l) = l := by
  unfold nb Str
  simp only [List.map_map]
  conv => rhs; rw [← List.map_id l]
  apply List.map_congr_left
  intro b hb
  have := h b hb
  simp [Nat.mod_eq_of_lt this]
theorem str_size (l : List Nat) : (Str l).size = l.length := by simp [Str, ByteArray.size]
theorem str_append (a b : List Nat) : Str a ++ Str b = Str (a ++ b) := by
  apply ByteArray.ext
  simp [Str]
theorem str_nil : Str [] = { data := #[] } := rfl
theorem nb_inj {s t : ByteArray} (h : nb s = nb t) : s = t := by
  apply ByteArray.ext
  apply Array.ext'
  unfold nb at h
  exact List.map_inj_right (fun a b => UInt8.toNat_inj.1) |>.1 h
theorem str_nb (s : ByteArray) : Str (nb s) = s := by
  apply nb_inj
  apply nb_str
  intro b hb
  obtain ⟨x, -, rfl⟩ := List.mem_map.1 hb
  exact x.toNat_lt

theorem conv_held {w : World} {base n c : Nat} {a : Option Addr} {l : List Nat} (h : Held w base 5 1 (.slice a n c) n (bs l)) :
    (convert 47 9 (.slice a n c)).run Try.prog w = .ok (.string (Str l)) w := by
  have hl : l.length = n := by have := h.1; simpa [bs] using this
  rcases h.2 with ⟨hv, h0⟩ | ⟨g, off, cap, cur, hv, hb, hg, hc, hm, hs, ht⟩
  · simp only [Value.slice.injEq] at hv
    obtain ⟨rfl, rfl, rfl⟩ := hv
    obtain rfl : l = [] := List.eq_nil_of_length_eq_zero hl
    exact run_convert_bytes_nil w 47 5 Try.underlying47 Try.underlying5 0 0 9 Try.underlying9
  · simp only [Value.slice.injEq] at hv
    obtain ⟨rfl, -, rfl⟩ := hv
    rw [← str_nums]
    refine run_convert_bytes_arg w 47 5 Try.underlying47 Try.underlying5 g off n c (l.map fun x : Nat => (x : Int)) (by simpa using hl) ?_ 9 Try.underlying9
    intro i hi
    rw [cell_of_row w g (off + i) cur 5 (0, 0) hg]
    have hx : (bs l)[i]? = some (.int .u8 ((l.map fun x : Nat => (x : Int)).getD i 0)) := by
      have : i < l.length := by omega
      simp [bs, List.getD, this]
    rw [← ht, List.getElem?_take] at hx
    split at hx
    · simpa [List.getElem?_drop] using hx
    · cases hx

theorem validRune_yes (r : Nat) (h : valid r) (w : World) : Calls Try.prog 26 #[.int .i32 (r : Int)] w fun e w' => e = .returned (.bool true) ∧ w = w' := by
  obtain ⟨h1, h2⟩ := h
  have a : (0 : Int) ≤ (r : Int) := by omega
  have b : (r : Int) ≤ 1114111 := by omega
  by_cases c : r < 55296
  · have d : (r : Int) < 55296 := by omega
    go_enter Try.func26, Try.ntmps26
    go_wp2
    go_returns
    exact ⟨rfl, rfl⟩
  · have d : ¬ (r : Int) < 55296 := by omega
    have e : (57343 : Int) < (r : Int) := by omega
    go_enter Try.func26, Try.ntmps26
    go_wp2
    go_returns
    exact ⟨rfl, rfl⟩
theorem validRune_no (r : Int) (h : ¬ (0 ≤ r ∧ r ≤ 1114111 ∧ ¬ (55296 ≤ r ∧ r ≤ 57343))) (w : World) : Calls Try.prog 26 #[.int .i32 r] w fun e w' => e = .returned (.bool false) ∧ w = w' := by
  by_cases a : 0 ≤ r
  · have a1 : ¬ r < 55296 := by omega
    by_cases b : 57343 < r
    · have c : ¬ r ≤ 1114111 := by omega
      clear h
      go_enter Try.func26, Try.ntmps26
      go_wp2
      go_returns
      exact ⟨rfl, rfl⟩
    · clear h
      go_enter Try.func26, Try.ntmps26
      go_wp2
      go_returns
      exact ⟨rfl, rfl⟩
  · have b : ¬ 57343 < r := by omega
    clear h
    go_enter Try.func26, Try.ntmps26
    go_wp2
    go_returns
    exact ⟨rfl, rfl⟩
theorem none_yes (r : Int) (h : ¬ (0 ≤ r ∧ r ≤ 1114111 ∧ ¬ (55296 ≤ r ∧ r ≤ 57343))) (w : World) : Calls Try.prog 29 #[.int .i32 r] w fun e w' => e = .returned (.bool true) ∧ w = w' := by
  by_cases a : r < 0
  · clear h
    go_enter Try.func29, Try.ntmps29
    go_wp2
    go_returns
    exact ⟨rfl, rfl⟩
  · by_cases b : 1114111 < r
    · clear h
      go_enter Try.func29, Try.ntmps29
      go_wp2
      go_returns
      exact ⟨rfl, rfl⟩
    · have c : 55296 ≤ r := by omega
      have d : r ≤ 57343 := by omega
      clear h
      go_enter Try.func29, Try.ntmps29
      go_wp2
      go_returns
      exact ⟨rfl, rfl⟩
theorem none_no (r : Nat) (h : valid r) (w : World) : Calls Try.prog 29 #[.int .i32 (r : Int)] w fun e w' => e = .returned (.bool false) ∧ w = w' := by
  obtain ⟨h1, h2⟩ := h
  have a : ¬ (r : Int) < 0 := by omega
  have b : ¬ (1114111 : Int) < (r : Int) := by omega
  by_cases c : (55296 : Int) ≤ (r : Int)
  · have d : ¬ (r : Int) ≤ 57343 := by omega
    clear h2
    go_enter Try.func29, Try.ntmps29
    go_wp2
    go_returns
    exact ⟨rfl, rfl⟩
  · clear h2
    go_enter Try.func29, Try.ntmps29
    go_wp2
    go_returns
    exact ⟨rfl, rfl⟩

theorem fix_no (r : Int) (h : ¬ (0 ≤ r ∧ r ≤ 1114111 ∧ ¬ (55296 ≤ r ∧ r ≤ 57343))) : fix r = 65533 := by unfold fix; rw [if_neg h]
theorem fix_cases (r : Int) : (∃ n : Nat, r = n ∧ valid n ∧ fix r = n) ∨ (¬ (0 ≤ r ∧ r ≤ 1114111 ∧ ¬ (55296 ≤ r ∧ r ≤ 57343)) ∧ fix r = 65533) := by
  by_cases h : 0 ≤ r ∧ r ≤ 1114111 ∧ ¬ (55296 ≤ r ∧ r ≤ 57343)
  · have hv : valid r.toNat := by unfold valid; omega
    have hr : r = (r.toNat : Int) := by omega
    exact .inl ⟨r.toNat, hr, hv, by rw [hr]; exact fix_nat _ hv⟩
  · exact .inr ⟨h, fix_no r h⟩
theorem encAll_snoc (l : List Nat) (r : Nat) : encAll (l ++ [r]) = encAll l ++ enc r := by rw [encAll_append]; simp [encAll]

set_option maxHeartbeats 1000000 in
set_option maxRecDepth 100000 in
theorem encode_any (a : Option Addr) (n c : Nat) (xs : List Int) (w : World) (hr : Reads w a n (is xs)) (hn : n ≤ 1000) :
    Calls Try.prog 18 #[.slice a n c] w fun e w' => e = .returned (.string (Str (encAll (xs.map fix)))) ∧ Below w.heap.size w w' := by
  have hl : xs.length = n := by simpa [is] using hr.1
  go_enter Try.func18, Try.ntmps18
  go_wp2_with fail
  go_loopw [3, 8] (fun ov iv wr => ∃ (i : Nat) (b : Option Addr) (cc : Nat), i ≤ n ∧ iv = .int .i64 (i : Int) ∧ ov = .slice b (encAll ((xs.take i).map fix)).length cc ∧
      Held wr w.heap.size 5 1 (.slice b (encAll ((xs.take i).map fix)).length cc) (encAll ((xs.take i).map fix)).length (bs (encAll ((xs.take i).map fix))) ∧ Below w.heap.size w wr) (fun _ iv _ => n - (intOf iv).toNat)
  case atStart => exact ⟨0, none, 0, Nat.zero_le _, rfl, rfl, Held.nil _ _ _ _, Below.refl _ _⟩
  case round =>
    obtain ⟨i, b, cc, hi, rfl, rfl, hheld, hb⟩ := hrel
    by_cases hlt : i < n
    · have z := hb.size
      obtain ⟨g, off, rfl, hg, hcell⟩ := hr.2.resolve_left (by omega)
      obtain ⟨x, hx⟩ : ∃ x, x = xs[i]'(by omega) := ⟨_, rfl⟩
      have hsn : (xs.take (i + 1)).map fix = (xs.take i).map fix ++ [fix x] := by
        rw [List.take_succ_eq_append_getElem (by omega), hx, List.map_append]; rfl
      have c1 : wr.cell? ⟨g, off + i, none⟩ = some (.int .i32 x) := by
        rw [hb.cell (p := ⟨g, off + i, none⟩) hg]
        exact hcell i _ (by simp [is, show i < xs.length by omega, hx])
      have hE : encAll ((xs.take (i + 1)).map fix) = encAll ((xs.take i).map fix) ++ enc (fix x) := by rw [hsn, encAll_snoc]
      have hlen : (encAll ((xs.take i).map fix)).length ≤ 4000 := by
        have := encAll_len ((xs.take i).map fix); simp only [List.length_map, List.length_take] at this; omega
      have HE := Lib.hid hE
      have HL := Lib.hid hl
      have HC := Lib.hid hcell
      clear hE hsn hx hl hcell hr
      generalize encAll ((xs.take i).map fix) = E at hheld hlen HE ⊢
      have i0 : (0 : Int) ≤ (i : Int) := by omega
      have i1 : (i : Int) < (n : Int) := by omega
      rcases fix_cases x with ⟨r, rfl, hv, hf⟩ | ⟨hno, hf⟩
      · have HF := Lib.hid hf
        clear hf
        go_wp2_with fail
        refine (validRune_yes r hv _).mono ?_
        rintro e w1 ⟨rfl, rfl⟩
        go_wp2_with fail
        refine (appendRune_any r hv w.heap.size _ E.length (bs E) wr hheld (by omega) z).mono ?_
        rintro e w1 ⟨a', c', rfl, h1, h2⟩
        go_wp2_with fail
        go_roundw
        case rel => exact ⟨i + 1, a', c', by omega, by go_num, by rw [HE.out, HF.out]; simp, by rw [HE.out, HF.out, bs_append]; simpa using h1, hb.trans h2⟩
        case measure => simp [intOf]; omega
      · have HF := Lib.hid hf
        clear hf
        go_wp2_with fail
        refine (validRune_no x hno _).mono ?_
        rintro e w1 ⟨rfl, rfl⟩
        clear hno
        go_wp2_with fail
        refine (appendRune_any 65533 valid_bad w.heap.size _ E.length (bs E) wr hheld (by omega) z).mono ?_
        rintro e w1 ⟨a', c', rfl, h1, h2⟩
        go_wp2_with fail
        go_roundw
        case rel => exact ⟨i + 1, a', c', by omega, by go_num, by rw [HE.out, HF.out]; simp, by rw [HE.out, HF.out, bs_append]; simpa using h1, hb.trans h2⟩
        case measure => simp [intOf]; omega
    · obtain rfl : i = n := by omega
      have ht : xs.take i = xs := List.take_of_length_le (by omega)
      have hcv := conv_held hheld
      rw [ht] at hheld hcv ⊢
      generalize hE : encAll (xs.map fix) = E at hheld hcv ⊢
      have HE := Lib.hid hE
      have HL := Lib.hid hl
      clear ht hl hr hE
      go_wp2_with fail
      go_returns
      rw [HE.out]
      exact ⟨rfl, hb⟩
end Ru
end Go.Proofs.Ytaagljkpihecpaa
