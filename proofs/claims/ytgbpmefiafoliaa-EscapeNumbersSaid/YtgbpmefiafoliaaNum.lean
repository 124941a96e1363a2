/- Num. No condition beyond each theorem's own premises. -/
import Derived.Test.YtgbpmefiafoliaaCounts
import Derived.Test.YtgbpmefiafoliaaEqAct
namespace Go.Proofs.Ytgbpmefiafoliaa
open Go.RowKit
namespace Esc
/-- What Num tells. -/
def numOf (A : AC) (i least : Int) : Int := if i < 0 ∨ 8 ≤ i ∨ A.n ≤ i then least else max (A.x i.toNat) least
set_option maxRecDepth 100000 in
set_option maxHeartbeats 2000000 in
theorem num_any (A : AC) (i least : Int) (w : World) : Calls Try.prog 15 #[.agg A.cells, .int .i64 i, .int .i64 least] w fun e w' => e = .returned (.int .i64 (numOf A i least)) ∧ Below w.heap.size w w' := by
  have hg : (w.alloc (.cells A.cells 30)).heap[w.heap.size]? = some (.cells A.cells 30 (0, 0)) := new_at rfl
  have c4 := cell_of_heap hg 4 (.int .i64 A.n) rfl
  have hb : Below w.heap.size w (w.alloc (.cells A.cells 30)) := (Below.refl _ _).alloc (Nat.le_refl _) _
  by_cases h0 : i < 0
  · have e : numOf A i least = least := by unfold numOf; rw [if_pos (.inl h0)]
    have E := Lib.hid e
    clear e hg
    go_enter Try.func15, Try.ntmps15
    go_wp2_with fail
    go_returns
    rw [E.out]
    exact ⟨rfl, hb⟩
  · by_cases h8 : 8 ≤ i
    · have e : numOf A i least = least := by unfold numOf; rw [if_pos (.inr (.inl h8))]
      have E := Lib.hid e
      clear e hg
      go_enter Try.func15, Try.ntmps15
      go_wp2_with fail
      go_returns
      rw [E.out]
      exact ⟨rfl, hb⟩
    · by_cases hn : A.n ≤ i
      · have e : numOf A i least = least := by unfold numOf; rw [if_pos (.inr (.inr hn))]
        have E := Lib.hid e
        clear e hg
        go_enter Try.func15, Try.ntmps15
        go_wp2_with fail
        go_returns
        rw [E.out]
        exact ⟨rfl, hb⟩
      · have e : numOf A i least = max (A.x i.toNat) least := by unfold numOf; rw [if_neg (by omega)]
        obtain ⟨k, rfl⟩ : ∃ k : Nat, i = (k : Int) := ⟨i.toNat, by omega⟩
        have hk : k < 8 := by omega
        have ck := Counts.act_cell hg hk
        rw [Int.toNat_natCast] at e
        have k0 : (0 : Int) ≤ (k : Int) := by omega
        have k1 : (k : Int) < 8 := by omega
        have E := Lib.hid e
        clear e hg
        go_enter Try.func15, Try.ntmps15
        go_wp2_with fail
        all_goals
          go_returns
          first
            | (rw [E.out, show max (A.x k) least = least by omega]; exact ⟨rfl, hb⟩)
            | (rw [E.out, show max (A.x k) least = A.x k by omega]; exact ⟨rfl, hb⟩)
end Esc
end Go.Proofs.Ytgbpmefiafoliaa
