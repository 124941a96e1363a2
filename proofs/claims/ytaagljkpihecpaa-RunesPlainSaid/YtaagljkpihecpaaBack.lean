/- RunesBack returns true for every input, and leaves what was there as it was. No condition. -/
import Derived.Test.YtaagljkpihecpaaFew
import Derived.Test.YtaagljkpihecpaaFeeds
import Derived.ProofKit
import Derived.OpenShut
import Derived.ShutString
import Derived.ChangeOld
import Derived.Deep.LoopGhost
import Derived.Deep.DeepCutAuto
namespace Go.Proofs.Ytaagljkpihecpaa
open Go.ChangeShapes Go.WideShapes Go.ChangeAt Go.RowKit
namespace Ru
theorem In32.keep {w w' : World} {a : Option Addr} {n c : Nat} {xs : List Int} (h : In32 w a n c xs) (hb : Below w.heap.size w w') : In32 w' a n c xs := ⟨h.1.keep hb, h.2⟩
theorem Reads.cells {w : World} {a : Option Addr} {n : Nat} {ys : List Value} (h : Reads w a n ys) {i : Nat} (hi : i < n) : ∃ b off, a = some ⟨b, off, none⟩ ∧ ∀ u, ys[i]? = some u → w.cell? ⟨b, off + i, none⟩ = some u := by
  obtain ⟨b, off, e, -, hc⟩ := h.2.resolve_left (by omega)
  exact ⟨b, off, e, hc i⟩
theorem encAll_byte (l : List Nat) (h : ∀ r ∈ l, valid r) : ∀ b ∈ encAll l, b < 256 := by
  induction l with
  | nil => simp [encAll]
  | cons r l ih =>
    intro b hb
    simp only [encAll, List.mem_append] at hb
    rcases hb with hb | hb
    · exact enc_byte r (h r (by simp)).1 b hb
    · exact ih (fun x hx => h x (by simp [hx])) b hb
theorem nb_enc (l : List Int) : nb (Str (encAll (l.map fix))) = encAll (l.map fix) := nb_str _ (encAll_byte _ (fixes_valid l))
theorem all_enc (l : List Int) : all (nb (Str (encAll (l.map fix)))) = l.map fix := by rw [nb_enc]; exact all_encAll _ (fixes_valid l)
theorem enc_size (l : List Int) : (Str (encAll (l.map fix))).size ≤ 4 * l.length := by rw [str_size]; have := encAll_len (l.map fix); simpa using this
namespace Back
set_option maxRecDepth 1000000 in
set_option maxHeartbeats 4000000 in
theorem walk (a : Option Addr) (n c : Nat) (xs : List Int) (w : World) (h : In32 w a n c xs) :
    Calls Try.prog 5 #[.slice a n c] w fun e w' => e = .returned (.bool true) ∧ Below w.heap.size w w' := by
  go_enter Try.func5, Try.ntmps5
  go_wp2_with fail
  refine (awake_any w).mono ?_
  rintro e w1 ⟨rfl, hb1⟩
  have z1 := hb1.size
  have h1 := h.keep hb1
  clear h
  go_wp2_with fail
  refine (few_any a n c xs w1 h1).mono ?_
  rintro e w2 ⟨rfl, rfl⟩
  have hf := few_reads h1
  have hfl := few_len xs
  clear h1
  generalize few xs = fs at hf hfl ⊢
  have hes := enc_size fs
  have hae := all_enc fs
  have HAE := Lib.hid hae
  clear hae
  go_wp2_with fail
  refine (encode_any a fs.length c fs w1 hf (by omega)).mono ?_
  rintro e w3 ⟨rfl, hb3⟩
  have hf3 := hf.keep hb3
  have hb3' : Below w.heap.size w w3 := hb1.trans (hb3.mono z1)
  have z3 := hb3'.size
  go_wp2_with fail
  refine (decodeAll_any _ w3 (by omega)).mono ?_
  rw [HAE.out]
  simp only [List.length_map]
  rintro e w4 ⟨ya, yc, rfl, hy, hb4⟩
  have hf4 := hf3.keep hb4
  have hb5 : Below w.heap.size w w4 := hb3'.trans (hb4.mono z3)
  have hy4 := Reads.of hy
  clear hf hf3 hy hb3 hb4 hb1 hb3' HAE hes
  have e0 : ((fs.length : Int) != (fs.length : Int)) = false := by simp
  have FF := Lib.hid hf4
  have FY := Lib.hid hy4
  clear hf4 hy4
  obtain ⟨m, hm⟩ : ∃ m, m = fs.length := ⟨_, rfl⟩
  rw [← hm] at FF FY e0 hfl ⊢
  have HM := Lib.hid hm
  clear hm
  go_wp2_with fail
  go_loopw [6] (fun iv wr => ∃ i : Nat, i ≤ m ∧ iv = .int .i64 (i : Int) ∧ wr = w4) (fun iv _ => m - (intOf iv).toNat)
  case atStart => exact ⟨0, Nat.zero_le _, rfl, rfl⟩
  case round =>
    obtain ⟨i, hi, rfl, rfl⟩ := hrel
    by_cases hlt : i < m
    · have hml := HM.out
      obtain ⟨g1, o1, ea, k1⟩ := FF.out.cells hlt
      obtain ⟨g2, o2, eb, k2⟩ := FY.out.cells hlt
      subst ea eb
      obtain ⟨x, hx⟩ : ∃ x, x = fs[i]'(by omega) := ⟨_, rfl⟩
      have c1 := k1 (.int .i32 x) (by simp [is, show i < fs.length by omega, hx])
      have c2 := k2 (.int .i32 (fix x : Int)) (by simp [rs, show i < fs.length by omega, hx])
      have i0 : (0 : Int) ≤ (i : Int) := by omega
      have i1 : (i : Int) < (m : Int) := by omega
      clear k1 k2 hx hml
      rcases fix_cases x with ⟨r, rfl, hv, hfx⟩ | ⟨hno, hfx⟩
      · rw [hfx] at c2
        obtain ⟨v1, v2⟩ := hv
        have a1 : ¬ (r : Int) < 0 := by omega
        have a2 : ¬ (1114111 : Int) < (r : Int) := by omega
        clear hfx
        by_cases c : (55296 : Int) ≤ (r : Int)
        · have d : ¬ (r : Int) ≤ 57343 := by omega
          clear v2
          go_wp2_with fail
          go_roundw
          case rel => exact ⟨i + 1, by omega, by go_num, trivial⟩
          case measure => simp [intOf]; omega
        · clear v2
          go_wp2_with fail
          go_roundw
          case rel => exact ⟨i + 1, by omega, by go_num, trivial⟩
          case measure => simp [intOf]; omega
      · rw [hfx] at c2
        clear hfx
        by_cases a1 : x < 0
        · clear hno
          go_wp2_with fail
          go_roundw
          case rel => exact ⟨i + 1, by omega, by go_num, trivial⟩
          case measure => simp [intOf]; omega
        · by_cases b : 1114111 < x
          · clear hno
            go_wp2_with fail
            go_roundw
            case rel => exact ⟨i + 1, by omega, by go_num, trivial⟩
            case measure => simp [intOf]; omega
          · have c : 55296 ≤ x := by omega
            have d : x ≤ 57343 := by omega
            clear hno
            go_wp2_with fail
            go_roundw
            case rel => exact ⟨i + 1, by omega, by go_num, trivial⟩
            case measure => simp [intOf]; omega
    · obtain rfl : i = m := by omega
      go_wp2_with fail
      go_returns
      exact ⟨rfl, hb5⟩
end Back
end Ru
end Go.Proofs.Ytaagljkpihecpaa
