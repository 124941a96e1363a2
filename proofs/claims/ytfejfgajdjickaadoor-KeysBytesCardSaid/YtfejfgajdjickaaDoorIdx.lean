/- Where a byte stands first in a string. No condition. -/
import Derived.Test.YtfejfgajdjickaaDoorPlain
import Derived.Test.YtfejfgajdjickaaDoorShelf
namespace Go.Proofs.YtfejfgajdjickaaDoor
namespace Keys
theorem index_byte (s : ByteArray) (b : UInt8) (w : World) :
    Calls Tryd.prog 16 #[.string s, .int .u8 (b.toNat : Int)] w fun e w' => e = .returned (.int .i64 (Lib.indexByte s.data.toList b)) ∧ w = w' := by
  have h := Tryd.strings_IndexByte s (b.toNat : Int) w
  have e : ((b.toNat : Int)).toNat.toUInt8 = b := by simp
  rw [e] at h
  exact h.mono fun _ _ ⟨h1, h2⟩ => ⟨h1, h2.symm⟩
end Keys
end Go.Proofs.YtfejfgajdjickaaDoor
