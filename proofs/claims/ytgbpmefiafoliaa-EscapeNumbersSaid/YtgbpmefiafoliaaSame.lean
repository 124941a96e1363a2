/- Same. No condition beyond each theorem's own premises. -/
import Derived.Test.YtgbpmefiafoliaaSmall
import Derived.Test.YtgbpmefiafoliaaEqAct
import Derived.Test.YtgbpmefiafoliaaQuiet
namespace Go.Proofs.Ytgbpmefiafoliaa
open Go.RowKit
namespace Esc
/-- A slice of acts. -/
def Acts (w : World) (a : Option Addr) (n : Nat) (l : List AC) : Prop :=
  l.length = n ∧ (n = 0 ∨ ∃ b off, a = some ⟨b, off, none⟩ ∧ b < w.heap.size ∧ ∀ j u, (flat l)[j]? = some u → w.cell? ⟨b, off + j, none⟩ = some u)
theorem flat_get (l : List AC) (i k : Nat) (hi : i < l.length) (hk : k < 13) : (flat l)[i * 13 + k]? = l[i].list[k]? := by
  induction l generalizing i with
  | nil => simp at hi
  | cons a l ih =>
    have e : flat (a :: l) = a.list ++ flat l := by simp [flat]
    have hl : a.list.length = 13 := rfl
    cases i with
    | zero => rw [e, List.getElem?_append_left (by omega)]; simp
    | succ i =>
      rw [e, List.getElem?_append_right (by omega), hl, show (i + 1) * 13 + k - 13 = i * 13 + k by omega]
      exact ih i (by simpa using hi)
theorem Acts.cell {w : World} {a : Option Addr} {n : Nat} {l : List AC} (h : Acts w a n l) {i : Nat} (hi : i < n) : ∃ b off, a = some ⟨b, off, none⟩ ∧ ∀ (A : AC), l[i]? = some A → ∀ k u, k < 13 → A.list[k]? = some u → w.cell? ⟨b, off + (i * 13 + k), none⟩ = some u := by
  obtain ⟨b, off, e, -, hc⟩ := h.2.resolve_left (by omega)
  refine ⟨b, off, e, fun A hA k u hk hu => hc _ u ?_⟩
  have hl : i < l.length := by rw [h.1]; exact hi
  rw [List.getElem?_eq_getElem hl] at hA
  rw [flat_get l i k hl hk]
  simp at hA
  rw [hA]
  exact hu

set_option maxRecDepth 100000 in
set_option maxHeartbeats 2000000 in
theorem same_any (a1 a2 : Option Addr) (n c1 c2 : Nat) (l : List AC) (w : World) (h1 : Acts w a1 n l) (h2 : Acts w a2 n l) (hn : n ≤ 10000) :
    Calls Try.prog 12 #[.slice a1 n c1, .slice a2 n c2] w fun e w' => e = .returned (.bool true) ∧ ∃ q, w' = w.drewN q := by
  have hl : l.length = n := h1.1
  have e0 : ((n : Int) != (n : Int)) = false := by simp
  have K1 := Lib.hid h1
  have K2 := Lib.hid h2
  have HL := Lib.hid hl
  clear h1 h2 hl
  go_enter Try.func12, Try.ntmps12
  go_wp2_with fail
  go_loopw [5] (fun iv wr => ∃ i : Nat, i ≤ n ∧ iv = .int .i64 i ∧ ∃ q, wr = w.drewN q) (fun iv _ => n - (intOf iv).toNat)
  case atStart => exact ⟨0, Nat.zero_le _, rfl, 0, rfl⟩
  case round =>
    obtain ⟨i, hi, rfl, q, rfl⟩ := hrel
    by_cases hlt : i < n
    · obtain ⟨b1, o1, ea, k1⟩ := K1.out.cell hlt
      obtain ⟨b2, o2, eb, k2⟩ := K2.out.cell hlt
      subst ea eb
      obtain ⟨A, hA⟩ : ∃ A, l[i]? = some A := ⟨l[i]'(by have := HL.out; omega), List.getElem?_eq_getElem _⟩
      have i0 : (0 : Int) ≤ (i : Int) := by omega
      have i1 : (i : Int) < (n : Int) := by omega
      have m1 := k1 A hA
      have m2 := k2 A hA
      have p0 : w.cell? ⟨b1, o1 + i * 13, none⟩ = some (.int .i64 A.kind) := by have h := m1 0 _ (by decide) rfl; exact h
      have p1 : w.cell? ⟨b1, o1 + i * 13 + 1, none⟩ = some (.int .i32 A.r) := by have h := m1 1 _ (by decide) rfl; rw [← Nat.add_assoc] at h; exact h
      have p2 : w.cell? ⟨b1, o1 + i * 13 + 2, none⟩ = some (.int .u8 A.priv) := by have h := m1 2 _ (by decide) rfl; rw [← Nat.add_assoc] at h; exact h
      have p3 : w.cell? ⟨b1, o1 + i * 13 + 3, none⟩ = some (.int .u8 A.mid) := by have h := m1 3 _ (by decide) rfl; rw [← Nat.add_assoc] at h; exact h
      have p4 : w.cell? ⟨b1, o1 + i * 13 + 4, none⟩ = some (.int .i64 A.n) := by have h := m1 4 _ (by decide) rfl; rw [← Nat.add_assoc] at h; exact h
      have p5 : w.cell? ⟨b1, o1 + i * 13 + 5, none⟩ = some (.int .i64 (A.x 0)) := by have h := m1 5 _ (by decide) rfl; rw [← Nat.add_assoc] at h; exact h
      have p6 : w.cell? ⟨b1, o1 + i * 13 + 6, none⟩ = some (.int .i64 (A.x 1)) := by have h := m1 6 _ (by decide) rfl; rw [← Nat.add_assoc] at h; exact h
      have p7 : w.cell? ⟨b1, o1 + i * 13 + 7, none⟩ = some (.int .i64 (A.x 2)) := by have h := m1 7 _ (by decide) rfl; rw [← Nat.add_assoc] at h; exact h
      have p8 : w.cell? ⟨b1, o1 + i * 13 + 8, none⟩ = some (.int .i64 (A.x 3)) := by have h := m1 8 _ (by decide) rfl; rw [← Nat.add_assoc] at h; exact h
      have p9 : w.cell? ⟨b1, o1 + i * 13 + 9, none⟩ = some (.int .i64 (A.x 4)) := by have h := m1 9 _ (by decide) rfl; rw [← Nat.add_assoc] at h; exact h
      have p10 : w.cell? ⟨b1, o1 + i * 13 + 10, none⟩ = some (.int .i64 (A.x 5)) := by have h := m1 10 _ (by decide) rfl; rw [← Nat.add_assoc] at h; exact h
      have p11 : w.cell? ⟨b1, o1 + i * 13 + 11, none⟩ = some (.int .i64 (A.x 6)) := by have h := m1 11 _ (by decide) rfl; rw [← Nat.add_assoc] at h; exact h
      have p12 : w.cell? ⟨b1, o1 + i * 13 + 12, none⟩ = some (.int .i64 (A.x 7)) := by have h := m1 12 _ (by decide) rfl; rw [← Nat.add_assoc] at h; exact h
      have q0 : w.cell? ⟨b2, o2 + i * 13, none⟩ = some (.int .i64 A.kind) := by have h := m2 0 _ (by decide) rfl; exact h
      have q1 : w.cell? ⟨b2, o2 + i * 13 + 1, none⟩ = some (.int .i32 A.r) := by have h := m2 1 _ (by decide) rfl; rw [← Nat.add_assoc] at h; exact h
      have q2 : w.cell? ⟨b2, o2 + i * 13 + 2, none⟩ = some (.int .u8 A.priv) := by have h := m2 2 _ (by decide) rfl; rw [← Nat.add_assoc] at h; exact h
      have q3 : w.cell? ⟨b2, o2 + i * 13 + 3, none⟩ = some (.int .u8 A.mid) := by have h := m2 3 _ (by decide) rfl; rw [← Nat.add_assoc] at h; exact h
      have q4 : w.cell? ⟨b2, o2 + i * 13 + 4, none⟩ = some (.int .i64 A.n) := by have h := m2 4 _ (by decide) rfl; rw [← Nat.add_assoc] at h; exact h
      have q5 : w.cell? ⟨b2, o2 + i * 13 + 5, none⟩ = some (.int .i64 (A.x 0)) := by have h := m2 5 _ (by decide) rfl; rw [← Nat.add_assoc] at h; exact h
      have q6 : w.cell? ⟨b2, o2 + i * 13 + 6, none⟩ = some (.int .i64 (A.x 1)) := by have h := m2 6 _ (by decide) rfl; rw [← Nat.add_assoc] at h; exact h
      have q7 : w.cell? ⟨b2, o2 + i * 13 + 7, none⟩ = some (.int .i64 (A.x 2)) := by have h := m2 7 _ (by decide) rfl; rw [← Nat.add_assoc] at h; exact h
      have q8 : w.cell? ⟨b2, o2 + i * 13 + 8, none⟩ = some (.int .i64 (A.x 3)) := by have h := m2 8 _ (by decide) rfl; rw [← Nat.add_assoc] at h; exact h
      have q9 : w.cell? ⟨b2, o2 + i * 13 + 9, none⟩ = some (.int .i64 (A.x 4)) := by have h := m2 9 _ (by decide) rfl; rw [← Nat.add_assoc] at h; exact h
      have q10 : w.cell? ⟨b2, o2 + i * 13 + 10, none⟩ = some (.int .i64 (A.x 5)) := by have h := m2 10 _ (by decide) rfl; rw [← Nat.add_assoc] at h; exact h
      have q11 : w.cell? ⟨b2, o2 + i * 13 + 11, none⟩ = some (.int .i64 (A.x 6)) := by have h := m2 11 _ (by decide) rfl; rw [← Nat.add_assoc] at h; exact h
      have q12 : w.cell? ⟨b2, o2 + i * 13 + 12, none⟩ = some (.int .i64 (A.x 7)) := by have h := m2 12 _ (by decide) rfl; rw [← Nat.add_assoc] at h; exact h
      have he : ∀ W, (Op.equalIn 10000 30 (.agg #[.int .i64 A.kind, .int .i32 A.r, .int .u8 A.priv, .int .u8 A.mid, .int .i64 A.n, .int .i64 (A.x 0), .int .i64 (A.x 1), .int .i64 (A.x 2), .int .i64 (A.x 3), .int .i64 (A.x 4), .int .i64 (A.x 5), .int .i64 (A.x 6), .int .i64 (A.x 7)]) (.agg #[.int .i64 A.kind, .int .i32 A.r, .int .u8 A.priv, .int .u8 A.mid, .int .i64 A.n, .int .i64 (A.x 0), .int .i64 (A.x 1), .int .i64 (A.x 2), .int .i64 (A.x 3), .int .i64 (A.x 4), .int .i64 (A.x 5), .int .i64 (A.x 6), .int .i64 (A.x 7)])).run Try.prog W = .ok true W := fun W => by have h := eq30 A W; rwa [AC.lit] at h
      clear k1 k2 hA m1 m2
      go_wp2_with fail
      go_quiet (fail)
      go_wp2_with fail
      go_roundw
      case rel => exact ⟨i + 1, by omega, by go_num, _, by first | rfl | (rw [World.drewN_drewN])⟩
      case measure => simp [intOf]; omega
    · go_wp2_with fail
      go_returns
      exact ⟨rfl, _, rfl⟩
end Esc
end Go.Proofs.Ytgbpmefiafoliaa
