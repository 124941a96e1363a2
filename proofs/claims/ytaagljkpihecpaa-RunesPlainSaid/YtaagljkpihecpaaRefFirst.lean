/- 'first' of the reference for runes: every text that is not empty. No condition beyond the theorem's own premises. -/
import Derived.Test.YtaagljkpihecpaaRefA
import Derived.Test.YtaagljkpihecpaaRefB
import Derived.Test.YtaagljkpihecpaaRefC
namespace Go.Proofs.Ytaagljkpihecpaa
open Go.RowKit
namespace Ru

theorem refFirst_any (s : ByteArray) (w : World) (hs : 0 < s.size) (hm : s.size ≤ 1000000) : Calls Try.prog 25 #[.string s] w (SaysP s w) := by
  have hlt : s[0].toNat < 256 := s[0].toNat_lt
  by_cases c0 : s[0].toNat ≤ 127
  · exact refFirst_plain s w hs c0
  · by_cases c1 : 194 ≤ s[0].toNat ∧ s[0].toNat ≤ 223
    · exact refFirst_1 s w hs hm c1.1 c1.2
    · by_cases c2 : 224 ≤ s[0].toNat ∧ s[0].toNat ≤ 224
      · exact refFirst_2 s w hs hm c2.1 c2.2
      · by_cases c3 : 225 ≤ s[0].toNat ∧ s[0].toNat ≤ 236
        · exact refFirst_3 s w hs hm c3.1 c3.2
        · by_cases c4 : 237 ≤ s[0].toNat ∧ s[0].toNat ≤ 237
          · exact refFirst_4 s w hs hm c4.1 c4.2
          · by_cases c5 : 238 ≤ s[0].toNat ∧ s[0].toNat ≤ 239
            · exact refFirst_5 s w hs hm c5.1 c5.2
            · by_cases c6 : 240 ≤ s[0].toNat ∧ s[0].toNat ≤ 240
              · exact refFirst_6 s w hs hm c6.1 c6.2
              · by_cases c7 : 241 ≤ s[0].toNat ∧ s[0].toNat ≤ 243
                · exact refFirst_7 s w hs hm c7.1 c7.2
                · by_cases c8 : 244 ≤ s[0].toNat ∧ s[0].toNat ≤ 244
                  · exact refFirst_8 s w hs hm c8.1 c8.2
                  · by_cases d : s[0].toNat ≤ 193
                    · exact refFirst_n1 s w hs (by omega) d
                    · exact refFirst_n2 s w hs (by omega) (by omega)
end Ru
end Go.Proofs.Ytaagljkpihecpaa
