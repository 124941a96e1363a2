/- The reference's Bytes. No condition beyond each theorem's own premises. -/
import Derived.Test.YtfejfgajdjickaaDoorKBytes
namespace Go.Proofs.YtfejfgajdjickaaDoor
open Go.RowKit
namespace Keys
theorem conv_u8 (k : Nat) (hk : k < 256) (W : World) : (convert 3 5 (.int .i64 (k : Int))).run Tryd.prog W = .ok (.int .u8 (k : Int)) W := by
  have u3 := Tryd.underlying3
  have u5 := Tryd.underlying5
  have e : IntKind.u8.wrap (k : Int) = (k : Int) := by rw [IntKind.wrap_u8]; omega
  go_simp
  try rw [e]
theorem cmd_at (k : Nat) (hk : k < 256) (C : K) (hC : C = cmd (k : Int)) (w : World) :
    Calls Tryd.prog 12 #[.int .u8 (k : Int)] w fun e w' => e = .returned (.agg #[.int .i64 C.kind, .int .i64 C.n, .string (sb C.s)]) ∧ Below w.heap.size w w' := by
  subst hC
  exact refCommand_any (k : Int) w (by omega) (by omega)
theorem cop_at (k : Nat) (C : K) (hC : C = cop (k : Int)) (w : World) :
    Calls Tryd.prog 13 #[.int .u8 (k : Int)] w fun e w' => e = .returned (.agg #[.int .i64 C.kind, .int .i64 C.n, .string (sb C.s)]) ∧ Below w.heap.size w w' := by
  subst hC
  exact refCopied_any (k : Int) w
/-- A row of bytes made here, as a string. -/
theorem conv_new (w : World) (l : List UInt8) (cs : Array Value) (n : Nat) (hc : cs.toList = bs l) (hl : l.length = n) (hm : n ≤ 1000) :
    (convert 41 9 (.slice (some ⟨w.heap.size, 0, none⟩) n n)).run Tryd.prog (w.alloc (.cells cs 5)) = .ok (.string (sb l)) (w.alloc (.cells cs 5)) := by
  have hs : cs.size = n := by rw [← Array.length_toList, hc, bs_length, hl]
  have hH : Held (w.alloc (.cells cs 5)) w.heap.size 5 1 (.slice (some ⟨w.heap.size, 0, none⟩) n n) n (bs l) :=
    ⟨by rw [bs_length]; omega, .inr ⟨w.heap.size, 0, n, cs, rfl, Nat.le_refl _, new_at rfl, Nat.le_refl _, by unfold maxLen; omega, by omega, by
      rw [List.drop_zero, hc, List.take_of_length_le (by rw [bs_length]; omega)]⟩⟩
  exact conv_held hH
theorem byte_nat (k : Nat) (hk : k < 256) : ((UInt8.ofNat k).toNat : Int) = (k : Int) := by
  simp; omega
theorem text_snoc (l : List UInt8) (b : UInt8) : textBytes (l ++ [b]) = textBytes l ++ if b = 2 then [2, 2] else [b] := by simp [textBytes]
theorem text_len (l : List UInt8) : (textBytes l).length ≤ 2 * l.length := by
  induction l with
  | nil => simp [textBytes]
  | cons b l ih =>
    have e : textBytes (b :: l) = (if b = 2 then [2, 2] else [b]) ++ textBytes l := by simp [textBytes]
    rw [e, List.length_append, List.length_cons]
    split <;> simp <;> omega
theorem sb_append (A B : List UInt8) : sb A ++ sb B = sb (A ++ B) := by
  apply ByteArray.ext
  simp [sb]
theorem sb_size (A : List UInt8) : (sb A).size = A.length := by simp [sb, ByteArray.size]
theorem index_sb (l : List UInt8) (i : Nat) (hi : i < l.length) (W : World) : (Instr.index 9 (.string (sb l)) (.int .i64 (i : Int))).run Tryd.prog W = .ok (.int .u8 ((l[i].toNat : Nat) : Int)) W := by
  have u9 := Tryd.underlying9
  have hz : (sb l).size = l.length := by simp [sb, ByteArray.size]
  have hi' : i < (sb l).size := by omega
  have e : (sb l)[i]'hi' = l[i] := by simp [sb]; rfl
  go_simp
  rfl
set_option maxHeartbeats 4000000 in
set_option maxRecDepth 100000 in
theorem ref_text (l : List UInt8) (n : Int) (w : World) (hs : l.length ≤ 1000) :
    Calls Tryd.prog 7 #[.agg #[.int .i64 1, .int .i64 n, .string (sb l)]] w fun e w' => e = .returned (.string (sb (textBytes l))) ∧ Below w.heap.size w w' := by
  have hz : (sb l).size = l.length := by simp [sb, ByteArray.size]
  have hB : Below w.heap.size w (w.alloc (.cells #[.int .i64 1, .int .i64 n, .string (sb l)] 23)) := (Below.refl _ _).alloc (Nat.le_refl _) _
  have HB := Lib.hid hB
  clear hB
  go_enter Tryd.func7, Tryd.ntmps7
  go_wp2_with fail
  go_loop [3, 4] (fun sv iv => ∃ (i : Nat) (t : List UInt8), i ≤ l.length ∧ iv = .int .i64 (i : Int) ∧ sv = .string (sb t) ∧ Hid (textBytes (l.take i) = t)) (fun _ iv => l.length - (intOf iv).toNat)
  case atStart => exact ⟨0, [], by omega, rfl, rfl, Lib.hid rfl⟩
  case round =>
    obtain ⟨i, t, hi, rfl, rfl, HT⟩ := hrel
    by_cases hlt : i < l.length
    · have ht : t.length ≤ 2 * i := by rw [← HT.out]; have := text_len (l.take i); simp at this; omega
      have hsl := slice_one l i hlt
      have hix : ∀ W : World, (Instr.index 9 (.string (sb l)) (.int .i64 (i : Int))).run Tryd.prog W = .ok (.int .u8 ((l[i].toNat : Nat) : Int)) W := index_sb l i hlt
      have hN : textBytes (l.take (i + 1)) = t ++ if l[i] = 2 then [2, 2] else [l[i]] := by rw [List.take_succ_eq_append_getElem hlt, text_snoc, HT.out]
      obtain ⟨x, hx⟩ : ∃ x, x = l[i] := ⟨_, rfl⟩
      rw [← hx] at hsl hix hN
      have u1 : (sb t).size ≤ 2000 := by rw [sb_size]; omega
      have u2 : (sb [x]).size ≤ 1 := by rw [sb_size]; simp
      have i0 : (0 : Int) ≤ (i : Int) := by omega
      have i1 : (i : Int) < (l.length : Int) := by omega
      by_cases h2 : x = 2
      · have t2 : ((x.toNat : Int) == 2) = true := by rw [h2]; rfl
        rw [if_pos h2] at hN
        have HN := Lib.hid hN
        have H2 := Lib.hid h2
        clear hN h2 hx HT
        go_wp2_with fail
        go_round
        case rel => exact ⟨i + 1, t ++ [x] ++ [2], by omega, by go_num, by rw [show (⟨#[2]⟩ : ByteArray) = sb [2] from rfl, sb_append, sb_append], Lib.hid (by rw [HN.out, H2.out]; simp)⟩
        case measure => simp [intOf]; omega
      · have t2 : ((x.toNat : Int) == 2) = false := by
          rw [beq_eq_false_iff_ne]
          intro e
          apply h2
          apply UInt8.toNat_inj.1
          simpa using Int.ofNat_inj.1 e
        rw [if_neg h2] at hN
        have HN := Lib.hid hN
        clear hN h2 hx HT
        go_wp2_with fail
        go_round
        case rel => exact ⟨i + 1, t ++ [x], by omega, by go_num, by rw [sb_append], HN⟩
        case measure => simp [intOf]; omega
    · obtain rfl : i = l.length := by omega
      have hT := HT.out
      rw [List.take_length] at hT
      have HT2 := Lib.hid hT
      clear hT HT
      go_wp2_with fail
      go_returns
      rw [HT2.out]
      exact ⟨rfl, HB.out⟩

set_option maxHeartbeats 16000000 in
set_option maxRecDepth 100000 in
theorem ref_key (s : ByteArray) (kind n : Int) (w : World) (hk : kind ≠ 1) :
    Calls Tryd.prog 7 #[.agg #[.int .i64 kind, .int .i64 n, .string s]] w fun e w' => e = .returned (.string (sb (refBytes (kind, n)))) ∧ Below w.heap.size w w' := by
  have t1 : ((kind : Int) == 1) = false := by simpa using hk
  have hX : (w.alloc (.cells #[.int .i64 kind, .int .i64 n, .string s] 23)).heap[w.heap.size]? = some (.cells #[.int .i64 kind, .int .i64 n, .string s] 23 (0, 0)) := new_at rfl
  have hb1 : Below w.heap.size w (w.alloc (.cells #[.int .i64 kind, .int .i64 n, .string s] 23)) := (Below.refl _ _).alloc (Nat.le_refl _) _
  have HX := Lib.hid hX
  have HB := Lib.hid hb1
  clear hk hX hb1
  go_enter Tryd.func7, Tryd.ntmps7
  go_wp2_with fail
  go_loopw [5] (fun iv wr => ∃ k : Nat, k ≤ 256 ∧ iv = .int .i64 (k : Int) ∧ Below w.heap.size w wr ∧ wr.heap[w.heap.size]? = some (.cells #[.int .i64 kind, .int .i64 n, .string s] 23 (0, 0)) ∧ Hid (∀ j, j < k → hit (kind, n) j = none)) (fun iv _ => 256 - (intOf iv).toNat)
  case atStart => exact ⟨0, by omega, rfl, HB.out, HX.out, Lib.hid (by intro j hj; omega)⟩
  case round =>
    obtain ⟨k, hk, rfl, hB, hX, HN⟩ := hrel
    by_cases hlt : k < 256
    · have hcv := conv_u8 k hlt
      have k0 : (0 : Int) ≤ (k : Int) := by omega
      have k1 : (k : Int) < 256 := by omega
      obtain ⟨C, hC⟩ : ∃ C, C = cmd (k : Int) := ⟨_, rfl⟩
      obtain ⟨D, hD⟩ : ∃ D, D = cop (k : Int) := ⟨_, rfl⟩
      have HC := Lib.hid hC
      have HD := Lib.hid hD
      have HX2 := Lib.hid hX
      have HB2 := Lib.hid hB
      clear hC hD hX hB
      go_wp2_with fail
      refine (cmd_at k hlt C HC.out _).mono ?_
      rintro e w3 ⟨rfl, hb3⟩
      have hbw3 : Below w.heap.size w w3 := HB2.out.trans (hb3.mono HB2.out.size)
      have hX3 := (hb3.block w.heap.size (lt_of_heap HX2.out)).trans HX2.out
      have x3 : ∀ o, (w3.alloc o).cell? ⟨w.heap.size, 0, none⟩ = some (.int .i64 kind) := fun o => cell_of_heap (hk_alloc (lt_of_heap hX3) hX3) 0 _ rfl
      have y3 : ∀ o, (w3.alloc o).cell? ⟨w.heap.size, 1, none⟩ = some (.int .i64 n) := fun o => cell_of_heap (hk_alloc (lt_of_heap hX3) hX3) 1 _ rfl
      have HB3 := Lib.hid hbw3
      have HX3 := Lib.hid hX3
      clear hb3 hbw3 hX3 HB2 HX2
      by_cases p1 : C.kind = 1
      · have r1 : ((C.kind : Int) != 1) = false := by simp [p1]
        have HN1 := Lib.hid (show ¬ (C.kind ≠ 1 ∧ C.kind ≠ 0 ∧ C.kind = kind ∧ C.n = n) from fun h => h.1 p1)
        clear p1
        go_wp2_with fail
        refine (cop_at k D HD.out _).mono ?_
        rintro e w4 ⟨rfl, hb4⟩
        have hbw4 : Below w.heap.size w w4 := (HB3.out.alloc HB3.out.size _).trans (hb4.mono (by have := HB3.out.size; simp; omega))
        have hX4 := (hb4.block w.heap.size (by have := HB3.out.size; simp; omega)).trans (hk_alloc (lt_of_heap HX3.out) HX3.out)
        have x4 : ∀ o, (w4.alloc o).cell? ⟨w.heap.size, 0, none⟩ = some (.int .i64 kind) := fun o => cell_of_heap (hk_alloc (lt_of_heap hX4) hX4) 0 _ rfl
        have y4 : ∀ o, (w4.alloc o).cell? ⟨w.heap.size, 1, none⟩ = some (.int .i64 n) := fun o => cell_of_heap (hk_alloc (lt_of_heap hX4) hX4) 1 _ rfl
        have HB4 := Lib.hid hbw4
        have HX4 := Lib.hid hX4
        clear hbw4 hb4 hX4 HB3 HX3
        by_cases q1 : D.kind = 0
        · have s1 : ((D.kind : Int) != 0) = false := by simp [q1]
          have HN2 := Lib.hid (show ¬ (D.kind ≠ 0 ∧ D.kind = kind ∧ D.n = n) from fun h => h.1 q1)
          clear q1
          have hbn : ∀ o : Obj, Below w.heap.size w (w4.alloc o) := fun o => HB4.out.alloc HB4.out.size o
          have HBN := Lib.hid hbn
          have HNX : Hid (∀ j, j < k + 1 → hit (kind, n) j = none) := Lib.hid (by
            intro j hj
            by_cases hjk : j = k
            · subst hjk; unfold hit; rw [← HC.out, ← HD.out, if_neg HN1.out, if_neg HN2.out]
            · exact HN.out j (by omega))
          clear hbn HN HB4
          go_wp2_with fail
          go_roundw
          case rel => exact ⟨k + 1, by omega, by go_num, HBN.out _, hk_alloc (lt_of_heap HX4.out) HX4.out, HNX⟩
          case measure => simp [intOf]; omega
        · have s1 : ((D.kind : Int) != 0) = true := by simpa using q1
          by_cases q2 : D.kind = kind
          · have s2 : ((D.kind : Int) == kind) = true := by simpa using q2
            by_cases q3 : D.n = n
            · have s3 : ((D.n : Int) == n) = true := by simpa using q3
              have HP2 := Lib.hid (show D.kind ≠ 0 ∧ D.kind = kind ∧ D.n = n from ⟨q1, q2, q3⟩)
              clear q1 q2 q3
              have hcv2 := conv_new (w4.alloc (.cells #[.int .i64 D.kind, .int .i64 D.n, .string (sb D.s)] 23)) [UInt8.ofNat k] #[.int .u8 (k : Int)] 1 (by simp only [bs, List.map_cons, List.map_nil, byte_nat k hlt]) rfl (by decide)
              rw [show (w4.alloc (.cells #[.int .i64 D.kind, .int .i64 D.n, .string (sb D.s)] 23)).heap.size = w4.heap.size + 1 by simp] at hcv2
              have hbn : ∀ o o' : Obj, Below w.heap.size w ((w4.alloc o).alloc o') := fun o o' => (HB4.out.alloc HB4.out.size o).alloc (by have := HB4.out.size; simp; omega) o'
              have HBN := Lib.hid hbn
              have hres : refBytes (kind, n) = [UInt8.ofNat k] := ref_hit (kind, n) k _ hlt (by unfold hit; rw [← HC.out, ← HD.out, if_neg HN1.out, if_pos HP2.out]) HN.out
              have HR := Lib.hid hres
              clear hbn hres HN HB4
              go_wp2_with fail
              go_returns
              rw [HR.out]
              exact ⟨rfl, HBN.out _ _⟩
            · have s3 : ((D.n : Int) == n) = false := by simpa using q3
              have HN2 := Lib.hid (show ¬ (D.kind ≠ 0 ∧ D.kind = kind ∧ D.n = n) from fun h => q3 h.2.2)
              clear q1 q2 q3
              have hbn : ∀ o : Obj, Below w.heap.size w (w4.alloc o) := fun o => HB4.out.alloc HB4.out.size o
              have HBN := Lib.hid hbn
              have HNX : Hid (∀ j, j < k + 1 → hit (kind, n) j = none) := Lib.hid (by
                intro j hj
                by_cases hjk : j = k
                · subst hjk; unfold hit; rw [← HC.out, ← HD.out, if_neg HN1.out, if_neg HN2.out]
                · exact HN.out j (by omega))
              clear hbn HN HB4
              go_wp2_with fail
              go_roundw
              case rel => exact ⟨k + 1, by omega, by go_num, HBN.out _, hk_alloc (lt_of_heap HX4.out) HX4.out, HNX⟩
              case measure => simp [intOf]; omega
          · have s2 : ((D.kind : Int) == kind) = false := by simpa using q2
            have HN2 := Lib.hid (show ¬ (D.kind ≠ 0 ∧ D.kind = kind ∧ D.n = n) from fun h => q2 h.2.1)
            clear q1 q2
            have hbn : ∀ o : Obj, Below w.heap.size w (w4.alloc o) := fun o => HB4.out.alloc HB4.out.size o
            have HBN := Lib.hid hbn
            have HNX : Hid (∀ j, j < k + 1 → hit (kind, n) j = none) := Lib.hid (by
              intro j hj
              by_cases hjk : j = k
              · subst hjk; unfold hit; rw [← HC.out, ← HD.out, if_neg HN1.out, if_neg HN2.out]
              · exact HN.out j (by omega))
            clear hbn HN HB4
            go_wp2_with fail
            go_roundw
            case rel => exact ⟨k + 1, by omega, by go_num, HBN.out _, hk_alloc (lt_of_heap HX4.out) HX4.out, HNX⟩
            case measure => simp [intOf]; omega
      · have r1 : ((C.kind : Int) != 1) = true := by simpa using p1
        by_cases p2 : C.kind = 0
        · have r2 : ((C.kind : Int) != 0) = false := by simp [p2]
          have HN1 := Lib.hid (show ¬ (C.kind ≠ 1 ∧ C.kind ≠ 0 ∧ C.kind = kind ∧ C.n = n) from fun h => h.2.1 p2)
          clear p1 p2
          go_wp2_with fail
          refine (cop_at k D HD.out _).mono ?_
          rintro e w4 ⟨rfl, hb4⟩
          have hbw4 : Below w.heap.size w w4 := (HB3.out.alloc HB3.out.size _).trans (hb4.mono (by have := HB3.out.size; simp; omega))
          have hX4 := (hb4.block w.heap.size (by have := HB3.out.size; simp; omega)).trans (hk_alloc (lt_of_heap HX3.out) HX3.out)
          have x4 : ∀ o, (w4.alloc o).cell? ⟨w.heap.size, 0, none⟩ = some (.int .i64 kind) := fun o => cell_of_heap (hk_alloc (lt_of_heap hX4) hX4) 0 _ rfl
          have y4 : ∀ o, (w4.alloc o).cell? ⟨w.heap.size, 1, none⟩ = some (.int .i64 n) := fun o => cell_of_heap (hk_alloc (lt_of_heap hX4) hX4) 1 _ rfl
          have HB4 := Lib.hid hbw4
          have HX4 := Lib.hid hX4
          clear hbw4 hb4 hX4 HB3 HX3
          by_cases q1 : D.kind = 0
          · have s1 : ((D.kind : Int) != 0) = false := by simp [q1]
            have HN2 := Lib.hid (show ¬ (D.kind ≠ 0 ∧ D.kind = kind ∧ D.n = n) from fun h => h.1 q1)
            clear q1
            have hbn : ∀ o : Obj, Below w.heap.size w (w4.alloc o) := fun o => HB4.out.alloc HB4.out.size o
            have HBN := Lib.hid hbn
            have HNX : Hid (∀ j, j < k + 1 → hit (kind, n) j = none) := Lib.hid (by
              intro j hj
              by_cases hjk : j = k
              · subst hjk; unfold hit; rw [← HC.out, ← HD.out, if_neg HN1.out, if_neg HN2.out]
              · exact HN.out j (by omega))
            clear hbn HN HB4
            go_wp2_with fail
            go_roundw
            case rel => exact ⟨k + 1, by omega, by go_num, HBN.out _, hk_alloc (lt_of_heap HX4.out) HX4.out, HNX⟩
            case measure => simp [intOf]; omega
          · have s1 : ((D.kind : Int) != 0) = true := by simpa using q1
            by_cases q2 : D.kind = kind
            · have s2 : ((D.kind : Int) == kind) = true := by simpa using q2
              by_cases q3 : D.n = n
              · have s3 : ((D.n : Int) == n) = true := by simpa using q3
                have HP2 := Lib.hid (show D.kind ≠ 0 ∧ D.kind = kind ∧ D.n = n from ⟨q1, q2, q3⟩)
                clear q1 q2 q3
                have hcv2 := conv_new (w4.alloc (.cells #[.int .i64 D.kind, .int .i64 D.n, .string (sb D.s)] 23)) [UInt8.ofNat k] #[.int .u8 (k : Int)] 1 (by simp only [bs, List.map_cons, List.map_nil, byte_nat k hlt]) rfl (by decide)
                rw [show (w4.alloc (.cells #[.int .i64 D.kind, .int .i64 D.n, .string (sb D.s)] 23)).heap.size = w4.heap.size + 1 by simp] at hcv2
                have hbn : ∀ o o' : Obj, Below w.heap.size w ((w4.alloc o).alloc o') := fun o o' => (HB4.out.alloc HB4.out.size o).alloc (by have := HB4.out.size; simp; omega) o'
                have HBN := Lib.hid hbn
                have hres : refBytes (kind, n) = [UInt8.ofNat k] := ref_hit (kind, n) k _ hlt (by unfold hit; rw [← HC.out, ← HD.out, if_neg HN1.out, if_pos HP2.out]) HN.out
                have HR := Lib.hid hres
                clear hbn hres HN HB4
                go_wp2_with fail
                go_returns
                rw [HR.out]
                exact ⟨rfl, HBN.out _ _⟩
              · have s3 : ((D.n : Int) == n) = false := by simpa using q3
                have HN2 := Lib.hid (show ¬ (D.kind ≠ 0 ∧ D.kind = kind ∧ D.n = n) from fun h => q3 h.2.2)
                clear q1 q2 q3
                have hbn : ∀ o : Obj, Below w.heap.size w (w4.alloc o) := fun o => HB4.out.alloc HB4.out.size o
                have HBN := Lib.hid hbn
                have HNX : Hid (∀ j, j < k + 1 → hit (kind, n) j = none) := Lib.hid (by
                  intro j hj
                  by_cases hjk : j = k
                  · subst hjk; unfold hit; rw [← HC.out, ← HD.out, if_neg HN1.out, if_neg HN2.out]
                  · exact HN.out j (by omega))
                clear hbn HN HB4
                go_wp2_with fail
                go_roundw
                case rel => exact ⟨k + 1, by omega, by go_num, HBN.out _, hk_alloc (lt_of_heap HX4.out) HX4.out, HNX⟩
                case measure => simp [intOf]; omega
            · have s2 : ((D.kind : Int) == kind) = false := by simpa using q2
              have HN2 := Lib.hid (show ¬ (D.kind ≠ 0 ∧ D.kind = kind ∧ D.n = n) from fun h => q2 h.2.1)
              clear q1 q2
              have hbn : ∀ o : Obj, Below w.heap.size w (w4.alloc o) := fun o => HB4.out.alloc HB4.out.size o
              have HBN := Lib.hid hbn
              have HNX : Hid (∀ j, j < k + 1 → hit (kind, n) j = none) := Lib.hid (by
                intro j hj
                by_cases hjk : j = k
                · subst hjk; unfold hit; rw [← HC.out, ← HD.out, if_neg HN1.out, if_neg HN2.out]
                · exact HN.out j (by omega))
              clear hbn HN HB4
              go_wp2_with fail
              go_roundw
              case rel => exact ⟨k + 1, by omega, by go_num, HBN.out _, hk_alloc (lt_of_heap HX4.out) HX4.out, HNX⟩
              case measure => simp [intOf]; omega
        · have r2 : ((C.kind : Int) != 0) = true := by simpa using p2
          by_cases p3 : C.kind = kind
          · have r3 : ((C.kind : Int) == kind) = true := by simpa using p3
            by_cases p4 : C.n = n
            · have r4 : ((C.n : Int) == n) = true := by simpa using p4
              have HP1 := Lib.hid (show (C.kind ≠ 1 ∧ C.kind ≠ 0 ∧ C.kind = kind ∧ C.n = n) from ⟨p1, p2, p3, p4⟩)
              clear p1 p2 p3 p4
              have hcv2 := conv_new (w3.alloc (.cells #[.int .i64 C.kind, .int .i64 C.n, .string (sb C.s)] 23)) [2, UInt8.ofNat k] #[.int .u8 2, .int .u8 (k : Int)] 2 (by simp only [bs, List.map_cons, List.map_nil, byte_nat k hlt]; rfl) rfl (by decide)
              rw [show (w3.alloc (.cells #[.int .i64 C.kind, .int .i64 C.n, .string (sb C.s)] 23)).heap.size = w3.heap.size + 1 by simp] at hcv2
              have hbn : ∀ o o' : Obj, Below w.heap.size w ((w3.alloc o).alloc o') := fun o o' => (HB3.out.alloc HB3.out.size o).alloc (by have := HB3.out.size; simp; omega) o'
              have HBN := Lib.hid hbn
              have hres : refBytes (kind, n) = [2, UInt8.ofNat k] := ref_hit (kind, n) k _ hlt (by unfold hit; rw [← HC.out, if_pos HP1.out]) HN.out
              have HR := Lib.hid hres
              clear hbn hres HN HB3 HX3
              go_wp2_with fail
              go_returns
              rw [HR.out]
              exact ⟨rfl, HBN.out _ _⟩
            · have r4 : ((C.n : Int) == n) = false := by simpa using p4
              have HN1 := Lib.hid (show ¬ (C.kind ≠ 1 ∧ C.kind ≠ 0 ∧ C.kind = kind ∧ C.n = n) from fun h => p4 h.2.2.2)
              clear p1 p2 p3 p4
              go_wp2_with fail
              refine (cop_at k D HD.out _).mono ?_
              rintro e w4 ⟨rfl, hb4⟩
              have hbw4 : Below w.heap.size w w4 := (HB3.out.alloc HB3.out.size _).trans (hb4.mono (by have := HB3.out.size; simp; omega))
              have hX4 := (hb4.block w.heap.size (by have := HB3.out.size; simp; omega)).trans (hk_alloc (lt_of_heap HX3.out) HX3.out)
              have x4 : ∀ o, (w4.alloc o).cell? ⟨w.heap.size, 0, none⟩ = some (.int .i64 kind) := fun o => cell_of_heap (hk_alloc (lt_of_heap hX4) hX4) 0 _ rfl
              have y4 : ∀ o, (w4.alloc o).cell? ⟨w.heap.size, 1, none⟩ = some (.int .i64 n) := fun o => cell_of_heap (hk_alloc (lt_of_heap hX4) hX4) 1 _ rfl
              have HB4 := Lib.hid hbw4
              have HX4 := Lib.hid hX4
              clear hbw4 hb4 hX4 HB3 HX3
              by_cases q1 : D.kind = 0
              · have s1 : ((D.kind : Int) != 0) = false := by simp [q1]
                have HN2 := Lib.hid (show ¬ (D.kind ≠ 0 ∧ D.kind = kind ∧ D.n = n) from fun h => h.1 q1)
                clear q1
                have hbn : ∀ o : Obj, Below w.heap.size w (w4.alloc o) := fun o => HB4.out.alloc HB4.out.size o
                have HBN := Lib.hid hbn
                have HNX : Hid (∀ j, j < k + 1 → hit (kind, n) j = none) := Lib.hid (by
                  intro j hj
                  by_cases hjk : j = k
                  · subst hjk; unfold hit; rw [← HC.out, ← HD.out, if_neg HN1.out, if_neg HN2.out]
                  · exact HN.out j (by omega))
                clear hbn HN HB4
                go_wp2_with fail
                go_roundw
                case rel => exact ⟨k + 1, by omega, by go_num, HBN.out _, hk_alloc (lt_of_heap HX4.out) HX4.out, HNX⟩
                case measure => simp [intOf]; omega
              · have s1 : ((D.kind : Int) != 0) = true := by simpa using q1
                by_cases q2 : D.kind = kind
                · have s2 : ((D.kind : Int) == kind) = true := by simpa using q2
                  by_cases q3 : D.n = n
                  · have s3 : ((D.n : Int) == n) = true := by simpa using q3
                    have HP2 := Lib.hid (show D.kind ≠ 0 ∧ D.kind = kind ∧ D.n = n from ⟨q1, q2, q3⟩)
                    clear q1 q2 q3
                    have hcv2 := conv_new (w4.alloc (.cells #[.int .i64 D.kind, .int .i64 D.n, .string (sb D.s)] 23)) [UInt8.ofNat k] #[.int .u8 (k : Int)] 1 (by simp only [bs, List.map_cons, List.map_nil, byte_nat k hlt]) rfl (by decide)
                    rw [show (w4.alloc (.cells #[.int .i64 D.kind, .int .i64 D.n, .string (sb D.s)] 23)).heap.size = w4.heap.size + 1 by simp] at hcv2
                    have hbn : ∀ o o' : Obj, Below w.heap.size w ((w4.alloc o).alloc o') := fun o o' => (HB4.out.alloc HB4.out.size o).alloc (by have := HB4.out.size; simp; omega) o'
                    have HBN := Lib.hid hbn
                    have hres : refBytes (kind, n) = [UInt8.ofNat k] := ref_hit (kind, n) k _ hlt (by unfold hit; rw [← HC.out, ← HD.out, if_neg HN1.out, if_pos HP2.out]) HN.out
                    have HR := Lib.hid hres
                    clear hbn hres HN HB4
                    go_wp2_with fail
                    go_returns
                    rw [HR.out]
                    exact ⟨rfl, HBN.out _ _⟩
                  · have s3 : ((D.n : Int) == n) = false := by simpa using q3
                    have HN2 := Lib.hid (show ¬ (D.kind ≠ 0 ∧ D.kind = kind ∧ D.n = n) from fun h => q3 h.2.2)
                    clear q1 q2 q3
                    have hbn : ∀ o : Obj, Below w.heap.size w (w4.alloc o) := fun o => HB4.out.alloc HB4.out.size o
                    have HBN := Lib.hid hbn
                    have HNX : Hid (∀ j, j < k + 1 → hit (kind, n) j = none) := Lib.hid (by
                      intro j hj
                      by_cases hjk : j = k
                      · subst hjk; unfold hit; rw [← HC.out, ← HD.out, if_neg HN1.out, if_neg HN2.out]
                      · exact HN.out j (by omega))
                    clear hbn HN HB4
                    go_wp2_with fail
                    go_roundw
                    case rel => exact ⟨k + 1, by omega, by go_num, HBN.out _, hk_alloc (lt_of_heap HX4.out) HX4.out, HNX⟩
                    case measure => simp [intOf]; omega
                · have s2 : ((D.kind : Int) == kind) = false := by simpa using q2
                  have HN2 := Lib.hid (show ¬ (D.kind ≠ 0 ∧ D.kind = kind ∧ D.n = n) from fun h => q2 h.2.1)
                  clear q1 q2
                  have hbn : ∀ o : Obj, Below w.heap.size w (w4.alloc o) := fun o => HB4.out.alloc HB4.out.size o
                  have HBN := Lib.hid hbn
                  have HNX : Hid (∀ j, j < k + 1 → hit (kind, n) j = none) := Lib.hid (by
                    intro j hj
                    by_cases hjk : j = k
                    · subst hjk; unfold hit; rw [← HC.out, ← HD.out, if_neg HN1.out, if_neg HN2.out]
                    · exact HN.out j (by omega))
                  clear hbn HN HB4
                  go_wp2_with fail
                  go_roundw
                  case rel => exact ⟨k + 1, by omega, by go_num, HBN.out _, hk_alloc (lt_of_heap HX4.out) HX4.out, HNX⟩
                  case measure => simp [intOf]; omega
          · have r3 : ((C.kind : Int) == kind) = false := by simpa using p3
            have HN1 := Lib.hid (show ¬ (C.kind ≠ 1 ∧ C.kind ≠ 0 ∧ C.kind = kind ∧ C.n = n) from fun h => p3 h.2.2.1)
            clear p1 p2 p3
            go_wp2_with fail
            refine (cop_at k D HD.out _).mono ?_
            rintro e w4 ⟨rfl, hb4⟩
            have hbw4 : Below w.heap.size w w4 := (HB3.out.alloc HB3.out.size _).trans (hb4.mono (by have := HB3.out.size; simp; omega))
            have hX4 := (hb4.block w.heap.size (by have := HB3.out.size; simp; omega)).trans (hk_alloc (lt_of_heap HX3.out) HX3.out)
            have x4 : ∀ o, (w4.alloc o).cell? ⟨w.heap.size, 0, none⟩ = some (.int .i64 kind) := fun o => cell_of_heap (hk_alloc (lt_of_heap hX4) hX4) 0 _ rfl
            have y4 : ∀ o, (w4.alloc o).cell? ⟨w.heap.size, 1, none⟩ = some (.int .i64 n) := fun o => cell_of_heap (hk_alloc (lt_of_heap hX4) hX4) 1 _ rfl
            have HB4 := Lib.hid hbw4
            have HX4 := Lib.hid hX4
            clear hbw4 hb4 hX4 HB3 HX3
            by_cases q1 : D.kind = 0
            · have s1 : ((D.kind : Int) != 0) = false := by simp [q1]
              have HN2 := Lib.hid (show ¬ (D.kind ≠ 0 ∧ D.kind = kind ∧ D.n = n) from fun h => h.1 q1)
              clear q1
              have hbn : ∀ o : Obj, Below w.heap.size w (w4.alloc o) := fun o => HB4.out.alloc HB4.out.size o
              have HBN := Lib.hid hbn
              have HNX : Hid (∀ j, j < k + 1 → hit (kind, n) j = none) := Lib.hid (by
                intro j hj
                by_cases hjk : j = k
                · subst hjk; unfold hit; rw [← HC.out, ← HD.out, if_neg HN1.out, if_neg HN2.out]
                · exact HN.out j (by omega))
              clear hbn HN HB4
              go_wp2_with fail
              go_roundw
              case rel => exact ⟨k + 1, by omega, by go_num, HBN.out _, hk_alloc (lt_of_heap HX4.out) HX4.out, HNX⟩
              case measure => simp [intOf]; omega
            · have s1 : ((D.kind : Int) != 0) = true := by simpa using q1
              by_cases q2 : D.kind = kind
              · have s2 : ((D.kind : Int) == kind) = true := by simpa using q2
                by_cases q3 : D.n = n
                · have s3 : ((D.n : Int) == n) = true := by simpa using q3
                  have HP2 := Lib.hid (show D.kind ≠ 0 ∧ D.kind = kind ∧ D.n = n from ⟨q1, q2, q3⟩)
                  clear q1 q2 q3
                  have hcv2 := conv_new (w4.alloc (.cells #[.int .i64 D.kind, .int .i64 D.n, .string (sb D.s)] 23)) [UInt8.ofNat k] #[.int .u8 (k : Int)] 1 (by simp only [bs, List.map_cons, List.map_nil, byte_nat k hlt]) rfl (by decide)
                  rw [show (w4.alloc (.cells #[.int .i64 D.kind, .int .i64 D.n, .string (sb D.s)] 23)).heap.size = w4.heap.size + 1 by simp] at hcv2
                  have hbn : ∀ o o' : Obj, Below w.heap.size w ((w4.alloc o).alloc o') := fun o o' => (HB4.out.alloc HB4.out.size o).alloc (by have := HB4.out.size; simp; omega) o'
                  have HBN := Lib.hid hbn
                  have hres : refBytes (kind, n) = [UInt8.ofNat k] := ref_hit (kind, n) k _ hlt (by unfold hit; rw [← HC.out, ← HD.out, if_neg HN1.out, if_pos HP2.out]) HN.out
                  have HR := Lib.hid hres
                  clear hbn hres HN HB4
                  go_wp2_with fail
                  go_returns
                  rw [HR.out]
                  exact ⟨rfl, HBN.out _ _⟩
                · have s3 : ((D.n : Int) == n) = false := by simpa using q3
                  have HN2 := Lib.hid (show ¬ (D.kind ≠ 0 ∧ D.kind = kind ∧ D.n = n) from fun h => q3 h.2.2)
                  clear q1 q2 q3
                  have hbn : ∀ o : Obj, Below w.heap.size w (w4.alloc o) := fun o => HB4.out.alloc HB4.out.size o
                  have HBN := Lib.hid hbn
                  have HNX : Hid (∀ j, j < k + 1 → hit (kind, n) j = none) := Lib.hid (by
                    intro j hj
                    by_cases hjk : j = k
                    · subst hjk; unfold hit; rw [← HC.out, ← HD.out, if_neg HN1.out, if_neg HN2.out]
                    · exact HN.out j (by omega))
                  clear hbn HN HB4
                  go_wp2_with fail
                  go_roundw
                  case rel => exact ⟨k + 1, by omega, by go_num, HBN.out _, hk_alloc (lt_of_heap HX4.out) HX4.out, HNX⟩
                  case measure => simp [intOf]; omega
              · have s2 : ((D.kind : Int) == kind) = false := by simpa using q2
                have HN2 := Lib.hid (show ¬ (D.kind ≠ 0 ∧ D.kind = kind ∧ D.n = n) from fun h => q2 h.2.1)
                clear q1 q2
                have hbn : ∀ o : Obj, Below w.heap.size w (w4.alloc o) := fun o => HB4.out.alloc HB4.out.size o
                have HBN := Lib.hid hbn
                have HNX : Hid (∀ j, j < k + 1 → hit (kind, n) j = none) := Lib.hid (by
                  intro j hj
                  by_cases hjk : j = k
                  · subst hjk; unfold hit; rw [← HC.out, ← HD.out, if_neg HN1.out, if_neg HN2.out]
                  · exact HN.out j (by omega))
                clear hbn HN HB4
                go_wp2_with fail
                go_roundw
                case rel => exact ⟨k + 1, by omega, by go_num, HBN.out _, hk_alloc (lt_of_heap HX4.out) HX4.out, HNX⟩
                case measure => simp [intOf]; omega
    · obtain rfl : k = 256 := by omega
      have hres : refBytes (kind, n) = [] := ref_none (kind, n) HN.out
      have HR := Lib.hid hres
      clear hres HN
      go_wp2_with fail
      go_returns
      rw [HR.out]
      exact ⟨rfl, hB⟩
end Keys
end Go.Proofs.YtfejfgajdjickaaDoor
