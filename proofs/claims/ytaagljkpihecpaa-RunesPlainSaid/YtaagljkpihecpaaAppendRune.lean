/- utf8.AppendRune of characters that have a sequence, onto a row of bytes that the call owns. No condition beyond each theorem's own premises. -/
import Derived.Test.YtaagljkpihecpaaClone
import Derived.Test.YtaagljkpihecpaaSrc
import Derived.Test.YtaagljkpihecpaaPlain3
namespace Go.Proofs.Ytaagljkpihecpaa
open Go.RowKit
namespace Ru
theorem below_of_grown {B : Nat} {w w' : World} {o : Obj} {row : Option Nat} (hB : B ≤ w.heap.size) (h : (w.alloc o).grownBy w' row) (hr : ∀ k, row = some k → B ≤ k) : Below B w w' :=
  ⟨h.os, h.tape, h.output, Nat.le_trans (by simp) h.size, fun k hk => (h.block k (by simp; omega) (fun e => by have := hr k e.symm; omega)).trans (Below.heap_alloc w o k (by omega))⟩

set_option maxHeartbeats 4000000 in
set_option maxRecDepth 100000 in
theorem nonASCII_two (B : Nat) (v : Value) (n : Nat) (xs : List Value) (r : Int) (h0 : 128 ≤ r) (h1 : r ≤ 2047) (w : World) (hown : Held w B 5 1 v n xs) (hlen : n + 4 ≤ 140737488355328) (hBw : B ≤ w.heap.size) :
    Calls Try.prog 34 #[v, .int .i32 r] w fun e w' => ∃ a c, e = .returned (.slice a (n + 2) c) ∧ Held w' B 5 1 (.slice a (n + 2) c) (n + 2) (xs ++ [.int .u8 (192 + r / 64), .int .u8 (128 + r % 64)]) ∧ Below B w w' := by
  obtain ⟨i0, hi, hz0, hz1, hz2⟩ := info_parts info5
  go_enter Try.func34, Try.ntmps34
  go_wp2_with (at_builtin; refine wpList_append_held _ rfl _ _ 47 rfl B 5 i0 (.int .u8 0) 1 1 Try.underlying47 hi hz0 hz1 hz2 rfl (by decide) _ _ _ rfl (hown.alloc _) ⟨w.heap.size, 0, none⟩ 2 2 [.int .u8 (192 + r / 64), .int .u8 (128 + r % 64)] rfl rfl ?c1 ?c2 (by decide) ?c3 ?c4 ?c5 ?_)
  case c1 =>
    intro j u hj
    match j, hj with
    | 0, hj => simp at hj; subst hj; simp [Addr.add]
    | 1, hj => simp at hj; subst hj; simp [Addr.add]
    | (j + 2), hj => simp at hj
  case c2 => intro u hu; simp at hu; rcases hu with rfl | rfl <;> rfl
  case c3 => unfold maxLen; omega
  case c4 => omega
  case c5 => simp; omega
  intro g off cap w2 hown' hgrow _ _
  go_wp2
  go_returns
  exact ⟨_, _, rfl, hown', below_of_grown hBw hgrow (fun k hk => (hown.lt k hk).1)⟩

set_option maxHeartbeats 4000000 in
set_option maxRecDepth 100000 in
theorem nonASCII_three_lo (B : Nat) (v : Value) (n : Nat) (xs : List Value) (r : Int) (h0 : 2048 ≤ r) (h1 : r < 55296) (w : World) (hown : Held w B 5 1 v n xs) (hlen : n + 4 ≤ 140737488355328) (hBw : B ≤ w.heap.size) :
    Calls Try.prog 34 #[v, .int .i32 r] w fun e w' => ∃ a c, e = .returned (.slice a (n + 3) c) ∧ Held w' B 5 1 (.slice a (n + 3) c) (n + 3) (xs ++ [.int .u8 (224 + r / 4096), .int .u8 (128 + r / 64 % 64), .int .u8 (128 + r % 64)]) ∧ Below B w w' := by
  obtain ⟨i0, hi, hz0, hz1, hz2⟩ := info_parts info5
  go_enter Try.func34, Try.ntmps34
  go_wp2_with (at_builtin; refine wpList_append_held _ rfl _ _ 47 rfl B 5 i0 (.int .u8 0) 1 1 Try.underlying47 hi hz0 hz1 hz2 rfl (by decide) _ _ _ rfl (hown.alloc _) ⟨w.heap.size, 0, none⟩ 3 3 [.int .u8 (224 + r / 4096), .int .u8 (128 + r / 64 % 64), .int .u8 (128 + r % 64)] rfl rfl ?c1 ?c2 (by decide) ?c3 ?c4 ?c5 ?_)
  case c1 =>
    intro j u hj
    match j, hj with
    | 0, hj => simp at hj; subst hj; simp [Addr.add]
    | 1, hj => simp at hj; subst hj; simp [Addr.add]
    | 2, hj => simp at hj; subst hj; simp [Addr.add]
    | (j + 3), hj => simp at hj
  case c2 => intro u hu; simp at hu; rcases hu with rfl | rfl | rfl <;> rfl
  case c3 => unfold maxLen; omega
  case c4 => omega
  case c5 => simp; omega
  intro g off cap w2 hown' hgrow _ _
  go_wp2
  go_returns
  exact ⟨_, _, rfl, hown', below_of_grown hBw hgrow (fun k hk => (hown.lt k hk).1)⟩

set_option maxHeartbeats 4000000 in
set_option maxRecDepth 100000 in
theorem nonASCII_three_hi (B : Nat) (v : Value) (n : Nat) (xs : List Value) (r : Int) (h0 : 57343 < r) (h1 : r ≤ 65535) (w : World) (hown : Held w B 5 1 v n xs) (hlen : n + 4 ≤ 140737488355328) (hBw : B ≤ w.heap.size) :
    Calls Try.prog 34 #[v, .int .i32 r] w fun e w' => ∃ a c, e = .returned (.slice a (n + 3) c) ∧ Held w' B 5 1 (.slice a (n + 3) c) (n + 3) (xs ++ [.int .u8 (224 + r / 4096), .int .u8 (128 + r / 64 % 64), .int .u8 (128 + r % 64)]) ∧ Below B w w' := by
  obtain ⟨i0, hi, hz0, hz1, hz2⟩ := info_parts info5
  go_enter Try.func34, Try.ntmps34
  go_wp2_with (at_builtin; refine wpList_append_held _ rfl _ _ 47 rfl B 5 i0 (.int .u8 0) 1 1 Try.underlying47 hi hz0 hz1 hz2 rfl (by decide) _ _ _ rfl (hown.alloc _) ⟨w.heap.size, 0, none⟩ 3 3 [.int .u8 (224 + r / 4096), .int .u8 (128 + r / 64 % 64), .int .u8 (128 + r % 64)] rfl rfl ?c1 ?c2 (by decide) ?c3 ?c4 ?c5 ?_)
  case c1 =>
    intro j u hj
    match j, hj with
    | 0, hj => simp at hj; subst hj; simp [Addr.add]
    | 1, hj => simp at hj; subst hj; simp [Addr.add]
    | 2, hj => simp at hj; subst hj; simp [Addr.add]
    | (j + 3), hj => simp at hj
  case c2 => intro u hu; simp at hu; rcases hu with rfl | rfl | rfl <;> rfl
  case c3 => unfold maxLen; omega
  case c4 => omega
  case c5 => simp; omega
  intro g off cap w2 hown' hgrow _ _
  go_wp2
  go_returns
  exact ⟨_, _, rfl, hown', below_of_grown hBw hgrow (fun k hk => (hown.lt k hk).1)⟩

set_option maxHeartbeats 4000000 in
set_option maxRecDepth 100000 in
theorem nonASCII_four (B : Nat) (v : Value) (n : Nat) (xs : List Value) (r : Int) (h0 : 65536 ≤ r) (h1 : r ≤ 1114111) (w : World) (hown : Held w B 5 1 v n xs) (hlen : n + 4 ≤ 140737488355328) (hBw : B ≤ w.heap.size) :
    Calls Try.prog 34 #[v, .int .i32 r] w fun e w' => ∃ a c, e = .returned (.slice a (n + 4) c) ∧ Held w' B 5 1 (.slice a (n + 4) c) (n + 4) (xs ++ [.int .u8 (240 + r / 262144), .int .u8 (128 + r / 4096 % 64), .int .u8 (128 + r / 64 % 64), .int .u8 (128 + r % 64)]) ∧ Below B w w' := by
  obtain ⟨i0, hi, hz0, hz1, hz2⟩ := info_parts info5
  go_enter Try.func34, Try.ntmps34
  go_wp2_with (at_builtin; refine wpList_append_held _ rfl _ _ 47 rfl B 5 i0 (.int .u8 0) 1 1 Try.underlying47 hi hz0 hz1 hz2 rfl (by decide) _ _ _ rfl (hown.alloc _) ⟨w.heap.size, 0, none⟩ 4 4 [.int .u8 (240 + r / 262144), .int .u8 (128 + r / 4096 % 64), .int .u8 (128 + r / 64 % 64), .int .u8 (128 + r % 64)] rfl rfl ?c1 ?c2 (by decide) ?c3 ?c4 ?c5 ?_)
  case c1 =>
    intro j u hj
    match j, hj with
    | 0, hj => simp at hj; subst hj; simp [Addr.add]
    | 1, hj => simp at hj; subst hj; simp [Addr.add]
    | 2, hj => simp at hj; subst hj; simp [Addr.add]
    | 3, hj => simp at hj; subst hj; simp [Addr.add]
    | (j + 4), hj => simp at hj
  case c2 => intro u hu; simp at hu; rcases hu with rfl | rfl | rfl | rfl <;> rfl
  case c3 => unfold maxLen; omega
  case c4 => omega
  case c5 => simp; omega
  intro g off cap w2 hown' hgrow _ _
  go_wp2
  go_returns
  exact ⟨_, _, rfl, hown', below_of_grown hBw hgrow (fun k hk => (hown.lt k hk).1)⟩

set_option maxHeartbeats 4000000 in
set_option maxRecDepth 100000 in
theorem appendRune_ascii (B : Nat) (v : Value) (n : Nat) (xs : List Value) (r : Int) (h0 : 0 ≤ r) (h1 : r ≤ 127) (w : World) (hown : Held w B 5 1 v n xs) (hlen : n + 4 ≤ 140737488355328) (hBw : B ≤ w.heap.size) :
    Calls Try.prog 27 #[v, .int .i32 r] w fun e w' => ∃ a c, e = .returned (.slice a (n + 1) c) ∧ Held w' B 5 1 (.slice a (n + 1) c) (n + 1) (xs ++ [.int .u8 (r)]) ∧ Below B w w' := by
  obtain ⟨i0, hi, hz0, hz1, hz2⟩ := info_parts info5
  go_enter Try.func27, Try.ntmps27
  go_wp2_with (at_builtin; refine wpList_append_held _ rfl _ _ 47 rfl B 5 i0 (.int .u8 0) 1 1 Try.underlying47 hi hz0 hz1 hz2 rfl (by decide) _ _ _ rfl (hown.alloc _) ⟨w.heap.size, 0, none⟩ 1 1 [.int .u8 (r)] rfl rfl ?c1 ?c2 (by decide) ?c3 ?c4 ?c5 ?_)
  case c1 =>
    intro j u hj
    match j, hj with
    | 0, hj => simp at hj; subst hj; simp [Addr.add]
    | (j + 1), hj => simp at hj
  case c2 => intro u hu; simp at hu; rcases hu with rfl <;> rfl
  case c3 => unfold maxLen; omega
  case c4 => omega
  case c5 => simp; omega
  intro g off cap w2 hown' hgrow _ _
  go_wp2
  go_returns
  exact ⟨_, _, rfl, hown', below_of_grown hBw hgrow (fun k hk => (hown.lt k hk).1)⟩


/-- The cells of bytes. -/
def bs (l : List Nat) : List Value := l.map fun b : Nat => .int .u8 (b : Int)
theorem bs_append (a b : List Nat) : bs (a ++ b) = bs a ++ bs b := by simp [bs]

set_option maxRecDepth 100000 in
theorem appendRune_other (r : Nat) (hv : valid r) (h : 128 ≤ r) (B : Nat) (v : Value) (n : Nat) (xs : List Value) (w : World) (hown : Held w B 5 1 v n xs) (hlen : n + 4 ≤ 140737488355328) (hBw : B ≤ w.heap.size) :
    Calls Try.prog 34 #[v, .int .i32 (r : Int)] w fun e w' => ∃ a c, e = .returned (.slice a (n + (enc r).length) c) ∧ Held w' B 5 1 (.slice a (n + (enc r).length) c) (n + (enc r).length) (xs ++ bs (enc r)) ∧ Below B w w' := by
  obtain ⟨h1, h2⟩ := hv
  by_cases c1 : r < 2048
  · have e : enc r = [192 + r / 64, 128 + r % 64] := by simp [enc, c1, show ¬ r < 128 by omega]
    rw [e]
    exact nonASCII_two B v n xs r (by omega) (by omega) w hown hlen hBw
  · by_cases c2 : r < 55296
    · have e : enc r = [224 + r / 4096, 128 + r / 64 % 64, 128 + r % 64] := by simp [enc, c1, show ¬ r < 128 by omega, show r < 65536 by omega]
      rw [e]
      exact nonASCII_three_lo B v n xs r (by omega) (by omega) w hown hlen hBw
    · by_cases c3 : r < 65536
      · have e : enc r = [224 + r / 4096, 128 + r / 64 % 64, 128 + r % 64] := by simp [enc, c1, c3, show ¬ r < 128 by omega]
        rw [e]
        exact nonASCII_three_hi B v n xs r (by omega) (by omega) w hown hlen hBw
      · have e : enc r = [240 + r / 262144, 128 + r / 4096 % 64, 128 + r / 64 % 64, 128 + r % 64] := by simp [enc, c1, c3, show ¬ r < 128 by omega]
        rw [e]
        exact nonASCII_four B v n xs r (by omega) (by omega) w hown hlen hBw

set_option maxRecDepth 100000 in
theorem appendRune_any (r : Nat) (hv : valid r) (B : Nat) (v : Value) (n : Nat) (xs : List Value) (w : World) (hown : Held w B 5 1 v n xs) (hlen : n + 4 ≤ 140737488355328) (hBw : B ≤ w.heap.size) :
    Calls Try.prog 27 #[v, .int .i32 (r : Int)] w fun e w' => ∃ a c, e = .returned (.slice a (n + (enc r).length) c) ∧ Held w' B 5 1 (.slice a (n + (enc r).length) c) (n + (enc r).length) (xs ++ bs (enc r)) ∧ Below B w w' := by
  by_cases c : r < 128
  · have e : enc r = [r] := by simp [enc, c]
    rw [e]
    exact appendRune_ascii B v n xs r (by omega) (by omega) w hown hlen hBw
  · obtain ⟨av, cv, rfl, -⟩ := hown.shape
    have r0 : ¬ (r : Int) ≤ 127 := by omega
    have r1 : (0 : Int) ≤ (r : Int) := by omega
    have r2 : (r : Int) ≤ 1114111 := by have := hv.1; omega
    go_enter Try.func27, Try.ntmps27
    go_wp2_with fail
    refine (appendRune_other r hv (by omega) B _ n xs w hown hlen hBw).mono ?_
    rintro e w' ⟨a, c, rfl, h1, h2⟩
    go_wp2_with fail
    go_returns
    exact ⟨a, c, rfl, h1, h2⟩
end Ru
end Go.Proofs.Ytaagljkpihecpaa
