/- keys.Bytes. No condition beyond each theorem's own premises. -/
import Derived.Test.YtfejfgajdjickaaDoorMaps
import Derived.Laws.StructEq
namespace Go.Proofs.YtfejfgajdjickaaDoor
open Go.RowKit
namespace Keys
theorem eq35_same (a b : Int) (w : World) : (Op.equalIn 10000 35 (.agg #[.int .i64 a, .int .i64 b]) (.agg #[.int .i64 a, .int .i64 b])).run Tryd.prog w = .ok true w := by
  have u3 := Tryd.underlying3
  have a3 := Tryd.isAgg3
  have z3 := Tryd.sizeOf3
  have hS : Tryd.prog.underlying 35 = some (.struct (Tryd.prog.fieldsOf 35)) := by kernel_rfl
  rw [show (10000 : Nat) = 9999 + 1 from rfl, run_equalIn_agg w 9999 35 _ _ hS (by kernel_rfl)]
  simp only [Program.fieldsOf, Tryd.underlying35]
  go_simp
theorem eq35_other (a b c d : Int) (w : World) (h : (a, b) ≠ (c, d)) : (Op.equalIn 10000 35 (.agg #[.int .i64 a, .int .i64 b]) (.agg #[.int .i64 c, .int .i64 d])).run Tryd.prog w = .ok false w := by
  have u3 := Tryd.underlying3
  have a3 := Tryd.isAgg3
  have z3 := Tryd.sizeOf3
  have hS : Tryd.prog.underlying 35 = some (.struct (Tryd.prog.fieldsOf 35)) := by kernel_rfl
  rw [show (10000 : Nat) = 9999 + 1 from rfl, run_equalIn_agg w 9999 35 _ _ hS (by kernel_rfl)]
  simp only [Program.fieldsOf, Tryd.underlying35]
  by_cases h1 : a = c
  · have h2 : ¬ b = d := fun e => h (by rw [h1, e])
    have t1 : ((a : Int) == c) = true := by simpa using h1
    have t2 : ((b : Int) == d) = false := by simpa using h2
    clear h h1 h2
    go_simp
  · have t1 : ((a : Int) == c) = false := by simpa using h1
    clear h h1
    go_simp
theorem slice_one (l : List UInt8) (k : Nat) (hk : k < l.length) (W : World) :
    (Instr.slice 9 (.string (sb l)) (some (.int .i64 (k : Int))) (some (.int .i64 ((k : Int) + 1))) none).run Tryd.prog W = .ok (.string (sb [l[k]])) W := by
  have k0 : (0 : Int) ≤ (k : Int) := by omega
  have k1 : (k : Int) < (l.length : Int) := by omega
  have hz : (sb l).size = l.length := by simp [sb, ByteArray.size]
  have u9 := Tryd.underlying9
  have he : (sb l).extract k (k + 1) = sb [l[k]] := by
    apply ByteArray.ext
    apply Array.ext'
    rw [ByteArray.data_extract]
    simp only [sb, Array.toList_extract]
    simp
    rw [List.drop_eq_getElem_cons hk]; rfl
  go_simp
  rw [if_pos (by omega), if_pos (by omega)]
set_option maxHeartbeats 4000000 in
set_option maxRecDepth 100000 in
theorem bytes_text (s : ByteArray) (n m : Int) (w : World) (hs : s.size ≤ 1000) (hm : w.cell? ⟨0, 0, none⟩ = some (.int .i64 m)) :
    Calls Tryd.prog 6 #[.agg #[.int .i64 1, .int .i64 n, .string s]] w fun e w' => e = .returned (.string (sb (textBytes s.data.toList))) ∧ Below w.heap.size w w' := by
  have h0 : 0 < w.heap.size := World.block_lt_of_cell? w _ hm
  have hm2 : (w.alloc (.cells #[.int .i64 1, .int .i64 n, .string s] 23)).cell? ⟨0, 0, none⟩ = some (.int .i64 m) := by rw [World.cell?_alloc_lt _ _ _ h0]; exact hm
  have hc : Lib.countB s ⟨#[2]⟩ * (⟨#[2]⟩ : ByteArray).size ≤ s.size := Lib.countB_mul_le ⟨#[2]⟩ (by decide) s.size s (Nat.le_refl _)
  have hr := Tryd.strings_ReplaceAll s ⟨#[2]⟩ ⟨#[2, 2]⟩ m _ (by omega) hm2 (by decide) (by
    have e1 : (⟨#[2]⟩ : ByteArray).size = 1 := rfl
    have e2 : (⟨#[2, 2]⟩ : ByteArray).size = 2 := rfl
    rw [e1] at hc
    rw [e2]
    omega)
  rw [show (⟨#[2]⟩ : ByteArray).data.toList = [2] from rfl, show (⟨#[2, 2]⟩ : ByteArray).data.toList = [2, 2] from rfl, replaceAll_text] at hr
  have HR := Lib.hid hr
  clear hr hm hm2 hc
  go_enter Tryd.func6, Tryd.ntmps6
  go_wp2_with fail
  refine HR.out.mono ?_
  rintro e w1 ⟨rfl, hb⟩
  go_wp2_with fail
  go_returns
  exact ⟨rfl, ((Below.refl _ _).alloc (Nat.le_refl _) _).trans (hb.mono (by simp))⟩
set_option maxHeartbeats 8000000 in
set_option maxRecDepth 100000 in
theorem bytes_key (s : ByteArray) (kind n : Int) (w : World) (hk : kind ≠ 1) :
    Calls Tryd.prog 6 #[.agg #[.int .i64 kind, .int .i64 n, .string s]] w fun e w' => e = .returned (.string (sb (keyBytes (kind, n)))) ∧ Below w.heap.size w w' := by
  have t1 : ((kind : Int) == 1) = false := by simpa using hk
  clear hk
  go_enter Tryd.func6, Tryd.ntmps6
  go_wp2_with fail
  have hM : ((w.alloc (.cells #[.int .i64 kind, .int .i64 n, .string s] 23)).alloc (.cells #[.int .i64 kind, .int .i64 n] 35)).heap[w.heap.size + 1]? = some (.cells #[.int .i64 kind, .int .i64 n] 35 (0, 0)) := new_at (by simp)
  have hb1 : Below w.heap.size w ((w.alloc (.cells #[.int .i64 kind, .int .i64 n, .string s] 23)).alloc (.cells #[.int .i64 kind, .int .i64 n] 35)) := ((Below.refl _ _).alloc (Nat.le_refl _) _).alloc (by simp) _
  refine (behind_any _).mono ?_
  rintro e w2 ⟨rfl, hb2⟩
  have hM2 := (hb2.block _ (by simp)).trans hM
  have hbw : Below w.heap.size w w2 := hb1.trans (hb2.mono (by simp; omega))
  have hMl := lt_of_heap hM2
  have HM := Lib.hid hM2
  have HB := Lib.hid hbw
  clear hM hM2 hb1 hb2 hbw
  go_wp2_with fail
  go_loopw [20] (fun iv wr => ∃ k : Nat, k ≤ 22 ∧ iv = .int .i64 (k : Int) ∧ Below w2.heap.size w2 wr ∧ Hid (∀ j, j < k → behindM[j]? ≠ some (kind, n))) (fun iv _ => 22 - (intOf iv).toNat)
  case atStart => exact ⟨0, by omega, rfl, Below.refl _ _, Lib.hid (by intro j hj; omega)⟩
  case round =>
    obtain ⟨k, hk, rfl, hB, HN⟩ := hrel
    have hMr := (hB.block _ hMl).trans HM.out
    have hlr := lt_of_heap hMr
    have c0 : ∀ o, (wr.alloc o).cell? ⟨w.heap.size + 1, 0, none⟩ = some (.int .i64 kind) := fun o => cell_of_heap (hk_alloc hlr hMr) 0 _ rfl
    have c1 : ∀ o, (wr.alloc o).cell? ⟨w.heap.size + 1, 1, none⟩ = some (.int .i64 n) := fun o => cell_of_heap (hk_alloc hlr hMr) 1 _ rfl
    by_cases hlt : k < 22
    · have hat := behind_at k hlt
      obtain ⟨x, hx⟩ : ∃ x, x = behindM.getD k (0, 0) := ⟨_, rfl⟩
      have hget : behindM[k]? = some x := by
        rw [hx, List.getD_eq_getElem?_getD, List.getElem?_eq_getElem (show k < behindM.length from hlt)]; rfl
      rw [← hx] at hat
      have k0 : (0 : Int) ≤ (k : Int) := by omega
      by_cases he : x = (kind, n)
      · have heq := eq35_same kind n
        subst he
        have hb : keyBytes (kind, n) = [2, behind.getD k 0] := key_hit (kind, n) k hget HN.out
        have hgd : behind.getD k 0 = behind[k]'hlt := by rw [List.getD_eq_getElem?_getD, List.getElem?_eq_getElem (show k < behind.length from hlt)]; rfl
        rw [hgd] at hb
        have hsl := slice_one behind k hlt
        rw [show sb behind = ⟨#[37, 34, 111, 120, 99, 110, 112, 100, 91, 49, 50, 51, 52, 53, 54, 55, 56, 57, 104, 108, 107, 106]⟩ from rfl] at hsl
        obtain ⟨y, hy⟩ : ∃ y, y = behind[k]'hlt := ⟨_, rfl⟩
        rw [← hy] at hb hsl
        have HBY := Lib.hid hb
        have hbn : ∀ o : Obj, Below w.heap.size w (wr.alloc o) := fun o => HB.out.trans ((hB.mono HB.out.size).alloc (by have := HB.out.size; have := hB.size; omega) o)
        have HBN := Lib.hid hbn
        clear hbn
        clear hb hx hget hMr HN hgd hy hB
        go_wp2_with fail
        go_returns
        rw [HBY.out]
        exact ⟨rfl, HBN.out _⟩
      · have heq := fun W => eq35_other x.1 x.2 kind n W he
        have HN' : Hid (∀ j, j < k + 1 → behindM[j]? ≠ some (kind, n)) := Lib.hid (by
          intro j hj e
          by_cases hjk : j = k
          · subst hjk; rw [hget] at e; exact he (by simpa using e)
          · exact HN.out j (by omega) e)
        have hB2 : ∀ o, Below w2.heap.size w2 (wr.alloc o) := fun o => hB.alloc hB.size o
        have HB2 := Lib.hid hB2
        clear hx hget hMr HN he hB hB2
        go_wp2_with fail
        go_roundw
        case rel => exact ⟨k + 1, by omega, by go_num, HB2.out _, HN'⟩
        case measure => simp [intOf]; omega
    · obtain rfl : k = 22 := by omega
      have hbw3 : Below w.heap.size w wr := HB.out.trans (hB.mono HB.out.size)
      have z3 := hbw3.size
      have HN1 := HN
      have HB3 := Lib.hid hbw3
      have HM3 := Lib.hid hMr
      clear hB HN hMr hbw3
      go_wp2_with fail
      refine (copied_any _).mono ?_
      rintro e w4 ⟨rfl, hb4⟩
      have hM4 := (hb4.block _ (lt_of_heap HM3.out)).trans HM3.out
      have hbw4 : Below w.heap.size w w4 := HB3.out.trans (hb4.mono z3)
      have hMl4 := lt_of_heap hM4
      have HM4 := Lib.hid hM4
      have HB4 := Lib.hid hbw4
      clear hM4 hb4 hbw4 HB3 HM3
      go_wp2_with fail
      go_loopw [34] (fun iv wr => ∃ k : Nat, k ≤ 7 ∧ iv = .int .i64 (k : Int) ∧ Below w4.heap.size w4 wr ∧ Hid (∀ j, j < k → copiedM[j]? ≠ some (kind, n))) (fun iv _ => 7 - (intOf iv).toNat)
      case atStart => exact ⟨0, by omega, rfl, Below.refl _ _, Lib.hid (by intro j hj; omega)⟩
      case round =>
        obtain ⟨k, hk, rfl, hB, HN⟩ := hrel
        have hMr := (hB.block _ hMl4).trans HM4.out
        have hlr := lt_of_heap hMr
        have c0 : ∀ o, (wr.alloc o).cell? ⟨w.heap.size + 1, 0, none⟩ = some (.int .i64 kind) := fun o => cell_of_heap (hk_alloc hlr hMr) 0 _ rfl
        have c1 : ∀ o, (wr.alloc o).cell? ⟨w.heap.size + 1, 1, none⟩ = some (.int .i64 n) := fun o => cell_of_heap (hk_alloc hlr hMr) 1 _ rfl
        by_cases hlt : k < 7
        · have hat := copied_at k hlt
          obtain ⟨x, hx⟩ : ∃ x, x = copiedM.getD k (0, 0) := ⟨_, rfl⟩
          have hget : copiedM[k]? = some x := by
            rw [hx, List.getD_eq_getElem?_getD, List.getElem?_eq_getElem (show k < copiedM.length from hlt)]; rfl
          rw [← hx] at hat
          have k0 : (0 : Int) ≤ (k : Int) := by omega
          by_cases he : x = (kind, n)
          · have heq := eq35_same kind n
            subst he
            have hb : keyBytes (kind, n) = [copied.getD k 0] := key_hit2 (kind, n) k hget HN.out HN1.out
            have hgd : copied.getD k 0 = copied[k]'hlt := by rw [List.getD_eq_getElem?_getD, List.getElem?_eq_getElem (show k < copied.length from hlt)]; rfl
            rw [hgd] at hb
            have hsl := slice_one copied k hlt
            rw [show sb copied = ⟨#[107, 106, 117, 100, 103, 71, 113]⟩ from rfl] at hsl
            obtain ⟨y, hy⟩ : ∃ y, y = copied[k]'hlt := ⟨_, rfl⟩
            rw [← hy] at hb hsl
            have HBY := Lib.hid hb
            have hbn : ∀ o : Obj, Below w.heap.size w (wr.alloc o) := fun o => HB4.out.trans ((hB.mono HB4.out.size).alloc (by have := HB4.out.size; have := hB.size; omega) o)
            have HBN := Lib.hid hbn
            clear hbn
            clear hb hx hget hMr HN hgd hy hB
            go_wp2_with fail
            go_returns
            rw [HBY.out]
            exact ⟨rfl, HBN.out _⟩
          · have heq := fun W => eq35_other x.1 x.2 kind n W he
            have HN' : Hid (∀ j, j < k + 1 → copiedM[j]? ≠ some (kind, n)) := Lib.hid (by
              intro j hj e
              by_cases hjk : j = k
              · subst hjk; rw [hget] at e; exact he (by simpa using e)
              · exact HN.out j (by omega) e)
            have hB2 : ∀ o, Below w4.heap.size w4 (wr.alloc o) := fun o => hB.alloc hB.size o
            have HB2 := Lib.hid hB2
            clear hx hget hMr HN he hB hB2
            go_wp2_with fail
            go_roundw
            case rel => exact ⟨k + 1, by omega, by go_num, HB2.out _, HN'⟩
            case measure => simp [intOf]; omega
        · obtain rfl : k = 7 := by omega
          have hb : keyBytes (kind, n) = [] := key_none (kind, n) HN1.out HN.out
          have HBY := Lib.hid hb
          have HBN := Lib.hid (HB4.out.trans (hB.mono HB4.out.size))
          clear hb HN hB hMr
          go_wp2_with fail
          go_returns
          rw [HBY.out]
          exact ⟨rfl, HBN.out⟩
end Keys
end Go.Proofs.YtfejfgajdjickaaDoor
