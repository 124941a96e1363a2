/- HandsOrder, the plain part: what a table of hands goes through. No condition beyond each theorem's own premises. -/
import Derived.Test.YtibpnemfgnaepaaAwake
namespace Go.Proofs.Ytibpnemfgnaepaa
open Go.RowKit

/-- The table in which the hands of viewers lo to hi - 1 wait, those before hi having been taken. -/
def hs (n lo hi : Nat) : TS := ⟨n, fun j => if j < hi then 5 else 0, (List.range' lo (hi - lo)).map fun j : Nat => ((j : Int), (5 : Int))⟩

theorem hs_len (n lo hi : Nat) : (hs n lo hi).row.length = hi - lo := by simp [hs]
theorem hs_room (n lo hi : Nat) : (hs n lo hi).room = n := rfl
theorem hs_start (n : Nat) : hs n 0 0 = ⟨n, fun _ => 0, []⟩ := by simp [hs]

theorem hs_raise (n lo hi : Nat) (h1 : lo ≤ hi) (h2 : hi < 16) (h3 : hi - lo < n) : (hs n lo hi).raise (hi : Int) 5 = (true, hs n lo (hi + 1)) := by
  unfold TS.raise
  rw [if_neg (by omega), Int.toNat_natCast, hs_len, hs_room, if_neg (by simp [hs]), if_neg (by omega)]
  have e1 : (fun i => if i = hi then (5 : Int) else (hs n lo hi).taken i) = fun j => if j < hi + 1 then 5 else 0 := by
    funext j
    simp only [hs]
    by_cases a : j = hi
    · rw [if_pos a, if_pos (by omega)]
    · rw [if_neg a]
      by_cases b : j < hi
      · rw [if_pos b, if_pos (by omega)]
      · rw [if_neg b, if_neg (by omega)]
  have e2 : (hs n lo hi).row ++ [((hi : Int), (5 : Int))] = (hs n lo (hi + 1)).row := by
    simp only [hs]
    rw [show hi + 1 - lo = (hi - lo) + 1 by omega, List.range'_concat, List.map_append]
    simp only [List.map_cons, List.map_nil, Nat.one_mul]
    rw [show lo + (hi - lo) = hi by omega]
  rw [e1, e2]
  rfl

theorem hs_full (n lo hi k : Nat) (h1 : hi ≤ k) (h2 : k < 16) (h3 : n ≤ hi - lo) : (hs n lo hi).raise (k : Int) 5 = (false, hs n lo hi) := by
  unfold TS.raise
  rw [if_neg (by omega), Int.toNat_natCast, hs_len, hs_room, if_neg (by simp [hs]; omega), if_pos h3]

theorem hs_dismiss (n lo hi : Nat) (h : lo < hi) : (hs n lo hi).dismiss = (((lo : Int), 5), true, hs n (lo + 1) hi) := by
  unfold TS.dismiss
  have e : (hs n lo hi).row = ((lo : Int), (5 : Int)) :: (hs n (lo + 1) hi).row := by
    simp only [hs]
    rw [show hi - lo = (hi - (lo + 1)) + 1 by omega, List.range'_succ]
    rfl
  rw [e]
  rfl

theorem hs_empty (n lo : Nat) : (hs n lo lo).dismiss = ((0, 0), false, hs n lo lo) := by
  unfold TS.dismiss
  have e : (hs n lo lo).row = [] := by simp [hs]
  rw [e]

theorem rem12 (x : Int) : -11 ≤ x.tmod 12 ∧ x.tmod 12 ≤ 11 := by
  have h1 := Int.tmod_lt_of_pos x (b := 12) (by omega)
  have h2 := Int.lt_tmod_of_pos x (b := 12) (by omega)
  omega
theorem rem15 (x : Int) : -14 ≤ x.tmod 15 ∧ x.tmod 15 ≤ 14 := by
  have h1 := Int.tmod_lt_of_pos x (b := 15) (by omega)
  have h2 := Int.lt_tmod_of_pos x (b := 15) (by omega)
  omega
end Go.Proofs.Ytibpnemfgnaepaa
