/- RunesTell returns true for every input, and leaves what was there as it was. No condition. -/
import Derived.Test.YtaagljkpihecpaaBack
import Derived.Test.YtaagljkpihecpaaRefEnc
import Derived.Test.YtaagljkpihecpaaRefWidth
import Derived.Test.YtaagljkpihecpaaMask
namespace Go.Proofs.Ytaagljkpihecpaa
open Go.ChangeShapes Go.WideShapes Go.ChangeAt Go.RowKit
namespace Ru
theorem wraps_i32 (n : Int) (h₀ : 0 ≤ n) (h₁ : n < 2 ^ 31) : IntKind.i32.wrap n = n := by rw [IntKind.wrap_i32]; omega
theorem i32_and18 (x : Int) : bits .and .i32 x 262143 = x % 262144 := mask_any .i32 31 (by decide) wraps_i32 18 (by decide) x
namespace Tell
set_option maxRecDepth 1000000 in
set_option maxHeartbeats 4000000 in
theorem walk (s : ByteArray) (a : Option Addr) (n c : Nat) (xs : List Int) (r : Int) (w : World) (h : In32 w a n c xs) :
    Calls Try.prog 7 #[.string s, .slice a n c, .int .i32 r] w fun e w' => e = .returned (.bool true) ∧ Below w.heap.size w w' := by
  have hand := i32_and18 r
  go_enter Try.func7, Try.ntmps7
  go_wp2_with fail
  refine (awake_any w).mono ?_
  rintro e w1 ⟨rfl, hb1⟩
  have z1 := hb1.size
  have h1 := h.keep hb1
  clear h
  go_wp2_with fail
  refine (short_any s 60 _ (by decide)).mono ?_
  rintro e w2 ⟨rfl, rfl⟩
  have hu := cut_size s 60
  generalize cut s 60 = u at hu ⊢
  have hxl := all_len (nb u)
  rw [nb_length] at hxl
  go_wp2_with fail
  refine (decodeAll_any u w1 (by omega)).mono ?_
  have hrd := refDecode_any u
  generalize all (nb u) = X at hxl hrd ⊢
  rintro e w2 ⟨xa, xc, rfl, hx, hb2⟩
  have rx := Reads.of hx
  have h2 := h1.keep hb2
  have hb2' : Below w.heap.size w w2 := hb1.trans (hb2.mono z1)
  have z2 := hb2'.size
  clear hx hb1 hb2 h1
  go_wp2_with fail
  refine (hrd w2 (by omega)).mono ?_
  rintro e w3 ⟨ya, yc, rfl, hy, hb3⟩
  have rx3 := rx.keep hb3
  have ry3 := Reads.of hy
  have h3 := h2.keep hb3
  have hb3' : Below w.heap.size w w3 := hb2'.trans (hb3.mono z2)
  clear rx hy hb3 hb2' h2 hrd
  go_wp2_with fail
  refine (same_any _ _ _ _ _ X _ rx3 ry3 (by omega)).mono ?_
  rintro e w4 ⟨rfl, q, rfl⟩
  have hb4 : Below w.heap.size w (w3.drewN q) := below_drewN hb3' q
  have h4 : In32 (w3.drewN q) a n c xs := h3
  clear rx3 ry3 hb3' h3
  have z4 := hb4.size
  generalize w3.drewN q = w5 at hb4 h4 z4 ⊢
  have hf := few_reads h4
  have hfl := few_len xs
  go_wp2_with fail
  refine (few_any a n c xs w5 h4).mono ?_
  rintro e w6 ⟨rfl, rfl⟩
  go_wp2_with fail
  refine (encode_any a (few xs).length c (few xs) w5 hf (by omega)).mono ?_
  rintro e w6 ⟨rfl, hb6⟩
  have hf6 := hf.keep hb6
  have h6 := h4.keep hb6
  have hb6' : Below w.heap.size w w6 := hb4.trans (hb6.mono z4)
  have z6 := hb6'.size
  clear hf h4 hb4 hb6
  go_wp2_with fail
  refine (few_any a n c xs w6 h6).mono ?_
  rintro e w7 ⟨rfl, rfl⟩
  go_wp2_with fail
  refine (refEncode_any a (few xs).length c (few xs) w6 hf6 (by omega)).mono ?_
  rintro e w7 ⟨rfl, hb7⟩
  have hb7' : Below w.heap.size w w7 := hb6'.trans (hb7.mono z6)
  have z7 := hb7'.size
  clear hf6 h6 hb6' hb7
  generalize Str (encAll ((few xs).map fix)) = S
  go_wp2_with fail
  refine (width_any r w7).mono ?_
  rintro e w8 ⟨rfl, hb8⟩
  have hb8' : Below w.heap.size w w8 := hb7'.trans (hb8.mono z7)
  have z8 := hb8'.size
  clear hb7' hb8
  go_wp2_with fail
  refine (refWidth_any r w8).mono ?_
  rintro e w9 ⟨rfl, rfl⟩
  generalize wid r = W1
  go_wp2_with fail
  refine (width_any (r % 262144) w8).mono ?_
  rintro e w9 ⟨rfl, hb9⟩
  have hb9' : Below w.heap.size w w9 := hb8'.trans (hb9.mono z8)
  clear hb8' hb9
  go_wp2_with fail
  refine (refWidth_any (r % 262144) w9).mono ?_
  rintro e w10 ⟨rfl, rfl⟩
  generalize wid (r % 262144) = W2
  go_wp2_with fail
  go_returns
  exact ⟨by simp, hb9'⟩
end Tell
end Ru
end Go.Proofs.Ytaagljkpihecpaa
