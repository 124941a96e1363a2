/- few: at most 20 characters. No condition beyond each theorem's own premises. -/
import Derived.Test.YtaagljkpihecpaaEnc
namespace Go.Proofs.Ytaagljkpihecpaa
open Go.RowKit
namespace Ru
/-- A slice that came in. -/
def In32 (w : World) (a : Option Addr) (n c : Nat) (xs : List Int) : Prop := Reads w a n (is xs) ∧ n ≤ c ∧ c ≤ maxLen
theorem In32.nil (w : World) : In32 w none 0 0 [] := ⟨⟨rfl, .inl rfl⟩, Nat.le_refl _, by unfold maxLen; omega⟩
theorem In32.of_row {w : World} {x : Addr} {len cap : Nat} {zs : List Int} (hl : len ≤ cap) (hm : cap ≤ maxLen) (hz : zs.length = cap) (hc : ∀ i, i < zs.length → w.cell? (x.add i) = some (.int .i32 (zs.getD i 0))) :
    In32 w (some x) len cap (zs.take len) := by
  refine ⟨⟨by simp [is]; omega, ?_⟩, hl, hm⟩
  by_cases h0 : len = 0
  · exact .inl h0
  · obtain ⟨b, off, spot⟩ := x
    have h1 := hc 0 (by omega)
    have hspot : spot = none := by simpa [Addr.add] using World.cell?_spot h1
    subst hspot
    refine .inr ⟨b, off, rfl, by rw [Addr.add_lit] at h1; exact World.block_lt_of_cell? (a := ⟨b, off + 0, none⟩) _ h1, fun j u hu => ?_⟩
    unfold is at hu
    rw [List.map_take, List.getElem?_take] at hu
    split at hu
    · rename_i hj
      have h2 := hc j (by omega)
      rw [Addr.add_lit] at h2
      rw [h2]
      have : j < zs.length := by omega
      simp [this] at hu
      simp [List.getD, this, hu]
    · cases hu
def few (l : List Int) : List Int := l.take 20
theorem reads_take {w : World} {a : Option Addr} {n m : Nat} {xs : List Int} (h : Reads w a n (is xs)) (hm : m ≤ n) : Reads w a m (is (xs.take m)) := by
  have hl : xs.length = n := by simpa [is] using h.1
  refine ⟨by simp [is]; omega, ?_⟩
  by_cases h0 : m = 0
  · exact .inl h0
  · obtain ⟨g, off, rfl, hg, hc⟩ := h.2.resolve_left (by omega)
    refine .inr ⟨g, off, rfl, hg, fun j u hu => hc j u ?_⟩
    unfold is at hu ⊢
    rw [List.map_take, List.getElem?_take] at hu
    split at hu
    · exact hu
    · cases hu
theorem few_any (a : Option Addr) (n c : Nat) (xs : List Int) (w : World) (h : In32 w a n c xs) :
    Calls Try.prog 17 #[.slice a n c] w fun e w' => e = .returned (.slice a (few xs).length c) ∧ w = w' := by
  obtain ⟨h1, h2, h3⟩ := h
  have hl : xs.length = n := by simpa [is] using h1.1
  unfold maxLen at h3
  by_cases k : 20 < n
  · have e : (few xs).length = 20 := by simp [few]; omega
    rw [e]
    have k1 : (20 : Int) < (n : Int) := by omega
    have k2 : (20 : Int) ≤ (c : Int) := by omega
    have k3 : 20 ≤ c := by omega
    obtain ⟨g, off, rfl, hg, hc⟩ := h1.2.resolve_left (by omega)
    have HC := Lib.hid hc
    have HL := Lib.hid hl
    clear hc hl h1 e
    go_enter Try.func17, Try.ntmps17
    go_wp2
    go_returns
    exact ⟨rfl, rfl⟩
  · have e : (few xs).length = n := by simp [few]; omega
    rw [e]
    have k1 : ¬ (20 : Int) < (n : Int) := by omega
    have HL := Lib.hid hl
    clear hl h1 e
    go_enter Try.func17, Try.ntmps17
    go_wp2
    go_returns
    exact ⟨rfl, rfl⟩
theorem few_reads {w : World} {a : Option Addr} {n c : Nat} {xs : List Int} (h : In32 w a n c xs) : Reads w a (few xs).length (is (few xs)) := by
  have hl : xs.length = n := by simpa [is] using h.1.1
  by_cases k : 20 < n
  · have e : (few xs).length = 20 := by simp [few]; omega
    rw [e]; exact reads_take h.1 (by omega)
  · have e : few xs = xs := List.take_of_length_le (by omega)
    rw [e, hl]; exact h.1
theorem few_len (xs : List Int) : (few xs).length ≤ 20 := by simp [few]; omega

end Ru
end Go.Proofs.Ytaagljkpihecpaa
