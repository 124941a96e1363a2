/- few; awake. No condition beyond each theorem's own premises. -/
import Derived.Test.YtgbpmefiafoliaaFeed
namespace Go.Proofs.Ytgbpmefiafoliaa
open Go.RowKit
namespace Esc
/-- A slice that reads ys, in a block below B. -/
def Reads (w : World) (B : Nat) (a : Option Addr) (n : Nat) (ys : List Value) : Prop :=
  ys.length = n ∧ (n = 0 ∨ ∃ b off, a = some ⟨b, off, none⟩ ∧ b < B ∧ ∀ j u, ys[j]? = some u → w.cell? ⟨b, off + j, none⟩ = some u)
theorem Reads.keep {w w' : World} {B : Nat} {a : Option Addr} {n : Nat} {ys : List Value} (h : Reads w B a n ys) (hb : Below B w w') : Reads w' B a n ys := by
  refine ⟨h.1, ?_⟩
  rcases h.2 with h2 | ⟨b, off, ha, hlt, hc⟩
  · exact .inl h2
  · exact .inr ⟨b, off, ha, hlt, fun j u hu => (hb.cell (p := ⟨b, off + j, none⟩) hlt).trans (hc j u hu)⟩
theorem Reads.rd {w : World} {B p : Nat} {a : Option Addr} {n : Nat} {ys : List Value} (h : Reads w B a n ys) (hB : B ≤ w.heap.size) (hp : B ≤ p) : Rd w p a n ys := by
  refine ⟨h.1, ?_⟩
  rcases h.2 with h2 | ⟨b, off, ha, hlt, hc⟩
  · exact .inl h2
  · exact .inr ⟨b, off, ha, by omega, by omega, hc⟩
theorem Reads.cells {w : World} {B : Nat} {a : Option Addr} {n : Nat} {ys : List Value} (h : Reads w B a n ys) {i : Nat} (hi : i < n) : ∃ b off, a = some ⟨b, off, none⟩ ∧ b < B ∧ ∀ u, ys[i]? = some u → w.cell? ⟨b, off + i, none⟩ = some u := by
  obtain ⟨b, off, e, hb, hc⟩ := h.2.resolve_left (by omega)
  exact ⟨b, off, e, hb, hc i⟩
/-- A slice of characters that came in. -/
def In32 (w : World) (B : Nat) (a : Option Addr) (n c : Nat) (xs : List Int) : Prop := Reads w B a n (is xs) ∧ n ≤ c ∧ c ≤ maxLen
theorem In32.keep {w w' : World} {B : Nat} {a : Option Addr} {n c : Nat} {xs : List Int} (h : In32 w B a n c xs) (hb : Below B w w') : In32 w' B a n c xs := ⟨h.1.keep hb, h.2⟩
theorem In32.nil (w : World) (B : Nat) : In32 w B none 0 0 [] := ⟨⟨rfl, .inl rfl⟩, Nat.le_refl _, by unfold maxLen; omega⟩
theorem In32.of_row {w : World} {x : Addr} {len cap : Nat} {zs : List Int} (hl : len ≤ cap) (hm : cap ≤ maxLen) (hz : zs.length = cap) (hc : ∀ i, i < zs.length → w.cell? (x.add i) = some (.int .i32 (zs.getD i 0))) :
    In32 w w.heap.size (some x) len cap (zs.take len) := by
  refine ⟨⟨by simp [is]; omega, ?_⟩, hl, hm⟩
  by_cases h0 : len = 0
  · exact .inl h0
  · obtain ⟨b, off, spot⟩ := x
    have h1 := hc 0 (by omega)
    have hspot : spot = none := by simpa [Addr.add] using World.cell?_spot h1
    subst hspot
    refine .inr ⟨b, off, rfl, by rw [Addr.add_lit] at h1; exact World.block_lt_of_cell? (a := ⟨b, off + 0, none⟩) _ h1, fun j u hu => ?_⟩
    unfold is at hu
    rw [List.map_take, List.getElem?_take] at hu
    split at hu
    · rename_i hj
      have h2 := hc j (by omega)
      rw [Addr.add_lit] at h2
      rw [h2]
      have : j < zs.length := by omega
      simp [this] at hu
      simp [List.getD, this, hu]
    · cases hu
def few (l : List Int) : List Int := l.take 60
theorem reads_take {w : World} {B : Nat} {a : Option Addr} {n m : Nat} {xs : List Int} (h : Reads w B a n (is xs)) (hm : m ≤ n) : Reads w B a m (is (xs.take m)) := by
  have hl : xs.length = n := by simpa [is] using h.1
  refine ⟨by simp [is]; omega, ?_⟩
  by_cases h0 : m = 0
  · exact .inl h0
  · obtain ⟨g, off, rfl, hg, hc⟩ := h.2.resolve_left (by omega)
    refine .inr ⟨g, off, rfl, hg, fun j u hu => hc j u ?_⟩
    unfold is at hu ⊢
    rw [List.map_take, List.getElem?_take] at hu
    split at hu
    · exact hu
    · cases hu
theorem few_any (B : Nat) (a : Option Addr) (n c : Nat) (xs : List Int) (w : World) (h : In32 w B a n c xs) :
    Calls Try.prog 9 #[.slice a n c] w fun e w' => e = .returned (.slice a (few xs).length c) ∧ w = w' := by
  obtain ⟨h1, h2, h3⟩ := h
  have hl : xs.length = n := by simpa [is] using h1.1
  unfold maxLen at h3
  by_cases k : 60 < n
  · have e : (few xs).length = 60 := by simp [few]; omega
    rw [e]
    have k1 : (60 : Int) < (n : Int) := by omega
    have k2 : (60 : Int) ≤ (c : Int) := by omega
    have k3 : 60 ≤ c := by omega
    obtain ⟨g, off, rfl, hg, hc⟩ := h1.2.resolve_left (by omega)
    have HC := Lib.hid hc
    have HL := Lib.hid hl
    clear hc hl h1 e
    go_enter Try.func9, Try.ntmps9
    go_wp2
    go_returns
    exact ⟨rfl, rfl⟩
  · have e : (few xs).length = n := by simp [few]; omega
    rw [e]
    have k1 : ¬ (60 : Int) < (n : Int) := by omega
    have HL := Lib.hid hl
    clear hl h1 e
    go_enter Try.func9, Try.ntmps9
    go_wp2
    go_returns
    exact ⟨rfl, rfl⟩
theorem few_reads {w : World} {B : Nat} {a : Option Addr} {n c : Nat} {xs : List Int} (h : In32 w B a n c xs) : Reads w B a (few xs).length (is (few xs)) := by
  have hl : xs.length = n := by simpa [is] using h.1.1
  by_cases k : 60 < n
  · have e : (few xs).length = 60 := by simp [few]; omega
    rw [e]; exact reads_take h.1 (by omega)
  · have e : few xs = xs := List.take_of_length_le (by omega)
    rw [e, hl]; exact h.1
theorem few_len (xs : List Int) : (few xs).length ≤ 60 := by simp [few]; omega

theorem awake_plain : ∃ A : AC, (feed .zero [27, 91, 50, 59, 51, 72]).2 = [A] ∧ A.kind = 4 ∧ A.r = 72 ∧ A.n = 2 ∧ A.x 0 = 2 ∧ A.x 1 = 3 := ⟨_, rfl, by decide, by decide, by decide, by decide, by decide⟩

set_option maxRecDepth 100000 in
set_option maxHeartbeats 2000000 in
theorem awake_any (w : World) : Calls Try.prog 8 #[] w fun e w' => e = .returned (.bool true) ∧ Below w.heap.size w w' := by
  obtain ⟨A, hA, a0, a1, a2, a3, a4⟩ := awake_plain
  have hP : PAt ((w.alloc (.cells PS.zero.cells 27)).alloc (.cells #[.int .i32 27, .int .i32 91, .int .i32 50, .int .i32 59, .int .i32 51, .int .i32 72] 21)) w.heap.size .zero := hk_alloc (by simp) (new_at rfl)
  have hR : Rd ((w.alloc (.cells PS.zero.cells 27)).alloc (.cells #[.int .i32 27, .int .i32 91, .int .i32 50, .int .i32 59, .int .i32 51, .int .i32 72] 21)) w.heap.size (some ⟨w.heap.size + 1, 0, none⟩) 6 (is [27, 91, 50, 59, 51, 72]) := by
    refine ⟨rfl, .inr ⟨w.heap.size + 1, 0, rfl, by simp, by omega, fun j u hu => ?_⟩⟩
    refine cell_of_heap (new_at (by simp)) (0 + j) u ?_
    simpa [is] using hu
  have hf := feed_any w.heap.size .zero (some ⟨w.heap.size + 1, 0, none⟩) 6 6 [27, 91, 50, 59, 51, 72] _ hP PS.zero_ok hR (by decide)
  obtain ⟨t, l, hx⟩ : ∃ t l, feed .zero [27, 91, 50, 59, 51, 72] = (t, l) := ⟨_, _, rfl⟩
  rw [hx] at hf hA
  dsimp only at hA
  subst hA
  have HF := Lib.hid hf
  clear hf hx hP hR
  go_enter Try.func8, Try.ntmps8
  go_wp2_with fail
  refine HF.out.mono ?_
  unfold Fed
  dsimp only
  rintro e w1 ⟨a, c, rfl, hh, ho, hP1⟩
  have hbw : Below w.heap.size w w1 := ((((Below.refl _ w).alloc (Nat.le_refl _) _).alloc (by simp) _)).trans (ho.below (by simp; omega) (by simp))
  obtain ⟨g, off, cap, hv, -, -, -, -, hc⟩ := hh.form (by simp)
  simp only [Value.slice.injEq] at hv
  obtain ⟨rfl, -, rfl⟩ := hv
  have k0 : w1.cell? ⟨g, off, none⟩ = some (.int .i64 4) := by have := hc 0 (.int .i64 A.kind) rfl; rw [a0] at this; exact this
  have k1 : w1.cell? ⟨g, off + 1, none⟩ = some (.int .i32 72) := by have := hc 1 (.int .i32 A.r) rfl; rw [a1] at this; exact this
  have k4 : w1.cell? ⟨g, off + 4, none⟩ = some (.int .i64 2) := by have := hc 4 (.int .i64 A.n) rfl; rw [a2] at this; exact this
  have k5 : w1.cell? ⟨g, off + 5, none⟩ = some (.int .i64 2) := by have := hc 5 (.int .i64 (A.x 0)) rfl; rw [a3] at this; exact this
  have k6 : w1.cell? ⟨g, off + 6, none⟩ = some (.int .i64 3) := by have := hc 6 (.int .i64 (A.x 1)) rfl; rw [a4] at this; exact this
  have k6' : w1.cell? ⟨g, off + 5 + 1, none⟩ = some (.int .i64 3) := k6
  clear HF hh ho hP1 hc a0 a1 a2 a3 a4
  go_wp2_with fail
  go_returns
  exact ⟨rfl, hbw⟩
end Esc
end Go.Proofs.Ytgbpmefiafoliaa
