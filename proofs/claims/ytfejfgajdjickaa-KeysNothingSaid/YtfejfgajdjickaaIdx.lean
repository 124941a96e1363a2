/- Where a byte stands first in a string; laid by the shelf's templates, turned to this seat. No condition. -/
import Derived.Test.YtfejfgajdjickaaPlain
import Derived.Test.YtfejfgajdjickaaChecked
import Derived.Lib.Strings
import Derived.Lib.Walk
import Derived.Lib.Bytealg
namespace Go.Proofs.Ytfejfgajdjickaa
namespace Keys
set_option maxHeartbeats 1000000 in
set_option maxRecDepth 100000 in
theorem lite_any (s : ByteArray) (c : Int) (w : World) :
    Calls Try.prog 17 #[.string s, .int .u8 c] w fun e w' => e = .returned (.int .i64 (Lib.indexByte s.data.toList c.toNat.toUInt8)) ∧ w' = w := by
  go_enter Try.func17, Try.ntmps17
  go_wp2
  rw [run_callFunc_extern Try.func18 (by kernel_rfl) (by kernel_rfl) (by kernel_rfl) (e := Extern.BytealgIndexByte.indexByte) (by kernel_rfl), Lib.run_indexByteString]
  simp only [Result.andThen]
  rw [Oper.upon_value]
  go_wp2
  go_ret
  exact ⟨rfl, rfl⟩
set_option maxHeartbeats 1000000 in
theorem index_any (s : ByteArray) (c : Int) (w : World) :
    Calls Try.prog 14 #[.string s, .int .u8 c] w fun e w' => e = .returned (.int .i64 (Lib.indexByte s.data.toList c.toNat.toUInt8)) ∧ w = w' := by
  go_enter Try.func14, Try.ntmps14
  go_wp2_with (go_at_call 17; refine (lite_any _ _ _).mono ?_; rintro e w' ⟨rfl, rfl⟩)
  go_ret
  exact ⟨rfl, rfl⟩
theorem index_byte (s : ByteArray) (b : UInt8) (w : World) :
    Calls Try.prog 14 #[.string s, .int .u8 (b.toNat : Int)] w fun e w' => e = .returned (.int .i64 (Lib.indexByte s.data.toList b)) ∧ w = w' := by
  have h := index_any s (b.toNat : Int) w
  have e : ((b.toNat : Int)).toNat.toUInt8 = b := by simp
  rw [e] at h
  exact h
end Keys
end Go.Proofs.Ytfejfgajdjickaa
