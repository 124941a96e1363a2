/- An act is as it is: '==' of two structs of the same cells. No condition beyond each theorem's own premises. -/
import Derived.Test.YtgbpmefiafoliaaFeed
import Derived.Laws.StructEq
namespace Go.Proofs.Ytgbpmefiafoliaa
open Go.RowKit
namespace Esc
theorem eq25 (d : Nat) (a0 a1 a2 a3 a4 a5 a6 a7 : Int) (w : World) :
    (Op.equalIn (d + 2) 25 (.agg #[.int .i64 a0, .int .i64 a1, .int .i64 a2, .int .i64 a3, .int .i64 a4, .int .i64 a5, .int .i64 a6, .int .i64 a7]) (.agg #[.int .i64 a0, .int .i64 a1, .int .i64 a2, .int .i64 a3, .int .i64 a4, .int .i64 a5, .int .i64 a6, .int .i64 a7])).run Try.prog w = .ok true w := by
  have u3 := Try.underlying3
  have a3 := Try.isAgg3
  have z3 := Try.sizeOf3
  rw [Op.equalIn]
  simp only [Sem.run_bind, run_underlying Try.underlying25, Result.andThen_ok]
  simp only [Std.Legacy.Range.forIn_eq_forIn_range', Std.Legacy.Range.size, Nat.sub_zero, Nat.add_sub_cancel, Nat.div_one, List.range'_succ, List.range'_zero, List.forIn_cons, List.forIn_nil]
  go_simp
theorem eq30 (A : AC) (w : World) : (Op.equalIn 10000 30 (.agg A.cells) (.agg A.cells)).run Try.prog w = .ok true w := by
  have u3 := Try.underlying3
  have a3 := Try.isAgg3
  have z3 := Try.sizeOf3
  have u5 := Try.underlying5
  have a5 := Try.isAgg5
  have z5 := Try.sizeOf5
  have u21 := Try.underlying21
  have a21 := Try.isAgg21
  have z21 := Try.sizeOf21
  have u25 := Try.underlying25
  have a25 := Try.isAgg25
  have z25 := Try.sizeOf25
  have h25 := eq25 9997 (A.x 0) (A.x 1) (A.x 2) (A.x 3) (A.x 4) (A.x 5) (A.x 6) (A.x 7)
  have hS : Try.prog.underlying 30 = some (.struct (Try.prog.fieldsOf 30)) := by kernel_rfl
  rw [show (10000 : Nat) = 9999 + 1 from rfl, run_equalIn_agg w 9999 30 _ _ hS (by kernel_rfl), AC.lit]
  simp only [Program.fieldsOf, Try.underlying30]
  go_simp
end Esc
end Go.Proofs.Ytgbpmefiafoliaa
