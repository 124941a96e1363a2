/- How wide a character is: Width, and the reference's. No condition beyond each theorem's own premises. -/
import Derived.Test.YtaagljkpihecpaaEnc
import Derived.Laws.Rows
import Derived.Deep.WholeRow
import Derived.Deep.DeepCutAuto
namespace Go.Proofs.Ytaagljkpihecpaa
open Go.RowKit
namespace Ru
def spans : List (Int × Int × Int) := [(127, 159, 0), (768, 879, 0), (8203, 8207, 0), (55296, 57343, 0), (65024, 65039, 0), (4352, 4447, 2), (11904, 12350, 2), (12353, 42191, 2), (44032, 55203, 2), (63744, 64255, 2), (65072, 65135, 2), (65281, 65376, 2), (65504, 65510, 2), (127744, 128591, 2), (129280, 129535, 2), (131072, 262141, 2)]
def look : List (Int × Int × Int) → Int → Int
  | [], _ => 1
  | s :: l, r => if s.1 ≤ r ∧ r ≤ s.2.1 then s.2.2 else look l r
def wid (r : Int) : Int := if r < 32 ∨ 1114111 < r then 0 else if r < 127 then 1 else look spans r
def spansV : Array Value := (spans.flatMap fun s => [.int .i32 s.1, .int .i32 s.2.1, .int .i64 s.2.2]).toArray
theorem size60' : (Try.prog.info? 60).map (·.size) = some spansV.size := by kernel_rfl
theorem wpList_build_to {P : Program} {ops : Array Oper} {rest : List Oper} {o : Oper} {a : Act} {w : World} {Q : Exit → Act → World → Prop} (hg : o.guard = none) (t : TypeId) (parts : Array (Nat × Operand)) (ho : o.op = .build t parts)
    (cells : Array Value) (hf : P.built t (parts.map fun (i, x) => (i, a.eval x)).toList = some cells)
    (h : wpList P ops Q rest (a.put o.dst (.agg cells)) w) : wpList P ops Q (o :: rest) a w :=
  wpList_build hg t parts ho (by rw [hf]; rfl) (by rw [hf]; exact h)
theorem span_at (i : Nat) (h : i < 16) : ∃ a b k : Int, spans[i]? = some (a, b, k) ∧ ∀ w, (Instr.index 60 (.agg spansV) (.int .i64 (i : Int))).run Try.prog w = .ok (.agg #[.int .i32 a, .int .i32 b, .int .i64 k]) w := by
  obtain rfl | rfl | rfl | rfl | rfl | rfl | rfl | rfl | rfl | rfl | rfl | rfl | rfl | rfl | rfl | rfl : i = 0 ∨ i = 1 ∨ i = 2 ∨ i = 3 ∨ i = 4 ∨ i = 5 ∨ i = 6 ∨ i = 7 ∨ i = 8 ∨ i = 9 ∨ i = 10 ∨ i = 11 ∨ i = 12 ∨ i = 13 ∨ i = 14 ∨ i = 15 := by omega
  all_goals exact ⟨_, _, _, rfl, fun w => by kernel_rfl⟩
theorem look_drop (i : Nat) (a b k : Int) (h : spans[i]? = some (a, b, k)) (r : Int) : look (spans.drop i) r = if a ≤ r ∧ r ≤ b then k else look (spans.drop (i + 1)) r := by
  obtain ⟨hi, he⟩ := List.getElem?_eq_some_iff.1 h
  rw [List.drop_eq_getElem_cons hi, he]
  rfl
set_option maxRecDepth 1000000 in
set_option maxHeartbeats 4000000 in
theorem width_any (r : Int) (w : World) : Calls Try.prog 21 #[.int .i32 r] w fun e w' => e = .returned (.int .i64 (wid r)) ∧ Below w.heap.size w w' := by
  go_enter Try.func21, Try.ntmps21
  go_upto_region 1 with fail
  go_cut [3] (fun s3 wx => s3 = .pointer (some ⟨w.heap.size, 0, none⟩) ∧ wx = w.alloc (.cells spansV 60))
  case first =>
    have hst := run_storeCells_new (P := Try.prog) w 60 #[.int .i32 0, .int .i32 0, .int .i64 0, .int .i32 0, .int .i32 0, .int .i64 0, .int .i32 0, .int .i32 0, .int .i64 0, .int .i32 0, .int .i32 0, .int .i64 0, .int .i32 0, .int .i32 0, .int .i64 0, .int .i32 0, .int .i32 0, .int .i64 0, .int .i32 0, .int .i32 0, .int .i64 0, .int .i32 0, .int .i32 0, .int .i64 0, .int .i32 0, .int .i32 0, .int .i64 0, .int .i32 0, .int .i32 0, .int .i64 0, .int .i32 0, .int .i32 0, .int .i64 0, .int .i32 0, .int .i32 0, .int .i64 0, .int .i32 0, .int .i32 0, .int .i64 0, .int .i32 0, .int .i32 0, .int .i64 0, .int .i32 0, .int .i32 0, .int .i64 0, .int .i32 0, .int .i32 0, .int .i64 0] spansV size60' rfl (by kernel_rfl)
    go_wp2_with (refine wpList_build_to rfl 60 _ rfl spansV (by kernel_rfl) ?_)
    go_meet
    exact ⟨rfl, rfl⟩
  case rest =>
    obtain ⟨rfl, rfl⟩ := hcut
    have hbw : Below w.heap.size w (w.alloc (.cells spansV 60)) := (Below.refl _ _).alloc (Nat.le_refl _) _
    by_cases a1 : r < 32
    · have e : wid r = 0 := by unfold wid; rw [if_pos (.inl a1)]
      have E := Lib.hid e
      clear e
      go_wp2_with fail
      go_returns
      rw [E.out]
      exact ⟨rfl, hbw⟩
    · by_cases a2 : 1114111 < r
      · have e : wid r = 0 := by unfold wid; rw [if_pos (.inr a2)]
        have E := Lib.hid e
        clear e
        go_wp2_with fail
        go_returns
        rw [E.out]
        exact ⟨rfl, hbw⟩
      · by_cases a3 : r < 127
        · have e : wid r = 1 := by unfold wid; rw [if_neg (by omega), if_pos a3]
          have E := Lib.hid e
          clear e
          go_wp2_with fail
          go_returns
          rw [E.out]
          exact ⟨rfl, hbw⟩
        · have e : wid r = look spans r := by unfold wid; rw [if_neg (by omega), if_neg a3]
          have E := Lib.hid e
          clear e
          go_wp2_with (refine wpList_load_row rfl 60 (.tmp 3) rfl w.heap.size rfl 60 spansV (0, 0) _ (heap_alloc_new _ _) Try.underlying60 rfl size60' ?_)
          go_loopw [34] (fun iv wr => ∃ i : Nat, i ≤ 16 ∧ iv = .int .i64 (i : Int) ∧ Below w.heap.size w wr ∧ Hid (look spans r = look (spans.drop i) r)) (fun iv _ => 16 - (intOf iv).toNat)
          case atStart => exact ⟨0, by omega, rfl, hbw, Lib.hid rfl⟩
          case round =>
            obtain ⟨i, hi, rfl, hb, HL⟩ := hrel
            have z := hb.size
            by_cases hlt : i < 16
            · obtain ⟨a, b, k, hs, hidx⟩ := span_at i hlt
              have hd := look_drop i a b k hs r
              have i1 : (i : Int) < 16 := by omega
              by_cases c1 : a ≤ r
              · by_cases c2 : r ≤ b
                · rw [if_pos ⟨c1, c2⟩] at hd
                  have HR := Lib.hid (HL.out.trans hd)
                  clear hs hd HL
                  go_wp2_with fail
                  go_returns
                  rw [E.out, HR.out]
                  exact ⟨rfl, hb.alloc z _⟩
                · rw [if_neg (by omega)] at hd
                  have hr := Lib.hid (HL.out.trans hd)
                  clear hs hd HL
                  go_wp2_with fail
                  go_roundw
                  case rel => exact ⟨i + 1, by omega, by go_num, hb.alloc z _, hr⟩
                  case measure => simp [intOf]; omega
              · rw [if_neg (by omega)] at hd
                have hr := Lib.hid (HL.out.trans hd)
                clear hs hd HL
                go_wp2_with fail
                go_roundw
                case rel => exact ⟨i + 1, by omega, by go_num, hb.alloc z _, hr⟩
                case measure => simp [intOf]; omega
            · obtain rfl : i = 16 := by omega
              have HR : Hid (look spans r = 1) := HL
              clear HL
              go_wp2_with fail
              go_returns
              rw [E.out, HR.out]
              exact ⟨rfl, hb⟩
end Ru
end Go.Proofs.Ytaagljkpihecpaa
