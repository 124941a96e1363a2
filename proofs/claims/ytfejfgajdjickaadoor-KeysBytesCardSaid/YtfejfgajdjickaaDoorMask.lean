/- 'x & (2^i - 1)' of any integer is its rest by 2^i. -/
import Derived.WalkKit
namespace Go.Proofs.YtfejfgajdjickaaDoor

theorem wraps_i64 (n : Int) (h₀ : 0 ≤ n) (h₁ : n < 2 ^ 63) : IntKind.i64.wrap n = n := by rw [IntKind.wrap_i64]; omega
theorem mask_any (k : IntKind) (j : Nat) (hj : j ≤ k.bits) (hk : ∀ n : Int, 0 ≤ n → n < 2 ^ j → k.wrap n = n) (i : Nat) (hi : i ≤ j) (x : Int) : bits .and k x (2 ^ i - 1) = x % 2 ^ i := by
  have hpos : 0 < 2 ^ i := Nat.two_pow_pos i
  have hc : ((2 : Int) ^ i - 1) = ((2 ^ i - 1 : Nat) : Int) := by
    rw [Int.natCast_sub hpos]; simp
  have hle : 2 ^ i ≤ 2 ^ k.bits := Nat.pow_le_pow_right (by decide) (by omega)
  have hlt : 2 ^ i - 1 < 2 ^ k.bits := by omega
  have hd : ((2 : Int) ^ i) ∣ (2 : Int) ^ k.bits := by
    refine ⟨2 ^ (k.bits - i), ?_⟩
    rw [← Int.pow_add]
    congr 1; omega
  have hpk : (0 : Int) < 2 ^ k.bits := Int.pow_pos (by decide)
  simp only [bits, BitVec.toNat_and, BitVec.toNat_ofInt, hc, BitVec.ofInt_natCast, BitVec.toNat_ofNat, Nat.mod_eq_of_lt hlt, Nat.and_two_pow_sub_one_eq_mod]
  have e : (((x % ((2 ^ k.bits : Nat) : Int)).toNat % 2 ^ i : Nat) : Int) = x % 2 ^ i := by
    rw [Int.natCast_emod, Int.toNat_of_nonneg (Int.emod_nonneg _ (by simp; omega))]
    simp only [Int.natCast_pow, Int.cast_ofNat_Int]
    exact Int.emod_emod_of_dvd x hd
  have hpi : (0 : Int) < 2 ^ i := Int.pow_pos (by decide)
  have hij : (2 : Int) ^ i ≤ 2 ^ j := by exact_mod_cast Nat.pow_le_pow_right (n := 2) (by decide) hi
  rw [e]
  exact hk _ (Int.emod_nonneg _ (by omega)) (Int.lt_of_lt_of_le (Int.emod_lt_of_pos _ hpi) hij)

theorem i64_and3 (x : Int) : bits .and .i64 x 3 = x % 4 := mask_any .i64 63 (by decide) wraps_i64 2 (by decide) x
theorem i64_and7 (x : Int) : bits .and .i64 x 7 = x % 8 := mask_any .i64 63 (by decide) wraps_i64 3 (by decide) x
theorem i64_and15 (x : Int) : bits .and .i64 x 15 = x % 16 := mask_any .i64 63 (by decide) wraps_i64 4 (by decide) x
theorem i64_and63 (x : Int) : bits .and .i64 x 63 = x % 64 := mask_any .i64 63 (by decide) wraps_i64 6 (by decide) x
end Go.Proofs.YtfejfgajdjickaaDoor
