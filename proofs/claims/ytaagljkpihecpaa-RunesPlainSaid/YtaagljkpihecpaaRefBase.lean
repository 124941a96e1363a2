/- 'first' of the reference for runes: the first character of a text. No condition beyond the theorem's own premises. -/
import Derived.Test.YtaagljkpihecpaaFirst
namespace Go.Proofs.Ytaagljkpihecpaa
open Go.RowKit
namespace Ru

set_option maxRecDepth 100000 in
theorem follows_p (h : Nat) (w : World) (c : h ≤ 127) :
    Calls Try.prog 33 #[.int .u8 (h : Int)] w fun e w' => e = .returned (.agg #[.int .i64 (0), .int .i64 128, .int .i64 191]) ∧ Below w.heap.size w w' := by
  go_enter Try.func33, Try.ntmps33
  go_wp2
  refine bodyPost_ret (v := .agg #[.int .i64 (0), .int .i64 128, .int .i64 191]) (by simp [results, Try.results33, go_sem]) rfl ⟨rfl, ?_⟩
  go_grown

set_option maxRecDepth 100000 in
theorem follows_n1 (h : Nat) (w : World) (c1 : 128 ≤ h) (c2 : h ≤ 193) :
    Calls Try.prog 33 #[.int .u8 (h : Int)] w fun e w' => e = .returned (.agg #[.int .i64 (-1), .int .i64 0, .int .i64 0]) ∧ Below w.heap.size w w' := by
  go_enter Try.func33, Try.ntmps33
  go_wp2
  refine bodyPost_ret (v := .agg #[.int .i64 (-1), .int .i64 0, .int .i64 0]) (by simp [results, Try.results33, go_sem]) rfl ⟨rfl, ?_⟩
  go_grown

set_option maxRecDepth 100000 in
theorem follows_n2 (h : Nat) (w : World) (c1 : 245 ≤ h) (c2 : h ≤ 255) :
    Calls Try.prog 33 #[.int .u8 (h : Int)] w fun e w' => e = .returned (.agg #[.int .i64 (-1), .int .i64 0, .int .i64 0]) ∧ Below w.heap.size w w' := by
  go_enter Try.func33, Try.ntmps33
  go_wp2
  refine bodyPost_ret (v := .agg #[.int .i64 (-1), .int .i64 0, .int .i64 0]) (by simp [results, Try.results33, go_sem]) rfl ⟨rfl, ?_⟩
  go_grown

set_option maxRecDepth 100000 in
theorem follows_1 (h : Nat) (w : World) (c1 : 194 ≤ h) (c2 : h ≤ 223) :
    Calls Try.prog 33 #[.int .u8 (h : Int)] w fun e w' => e = .returned (.agg #[.int .i64 (1), .int .i64 128, .int .i64 191]) ∧ Below w.heap.size w w' := by
  go_enter Try.func33, Try.ntmps33
  go_wp2
  refine bodyPost_ret (v := .agg #[.int .i64 (1), .int .i64 128, .int .i64 191]) (by simp [results, Try.results33, go_sem]) rfl ⟨rfl, ?_⟩
  go_grown

set_option maxRecDepth 100000 in
theorem follows_2 (h : Nat) (w : World) (c1 : 224 ≤ h) (c2 : h ≤ 224) :
    Calls Try.prog 33 #[.int .u8 (h : Int)] w fun e w' => e = .returned (.agg #[.int .i64 (2), .int .i64 160, .int .i64 191]) ∧ Below w.heap.size w w' := by
  go_enter Try.func33, Try.ntmps33
  go_wp2
  refine bodyPost_ret (v := .agg #[.int .i64 (2), .int .i64 160, .int .i64 191]) (by simp [results, Try.results33, go_sem]) rfl ⟨rfl, ?_⟩
  go_grown

set_option maxRecDepth 100000 in
theorem follows_3 (h : Nat) (w : World) (c1 : 225 ≤ h) (c2 : h ≤ 236) :
    Calls Try.prog 33 #[.int .u8 (h : Int)] w fun e w' => e = .returned (.agg #[.int .i64 (2), .int .i64 128, .int .i64 191]) ∧ Below w.heap.size w w' := by
  go_enter Try.func33, Try.ntmps33
  go_wp2
  refine bodyPost_ret (v := .agg #[.int .i64 (2), .int .i64 128, .int .i64 191]) (by simp [results, Try.results33, go_sem]) rfl ⟨rfl, ?_⟩
  go_grown

set_option maxRecDepth 100000 in
theorem follows_4 (h : Nat) (w : World) (c1 : 237 ≤ h) (c2 : h ≤ 237) :
    Calls Try.prog 33 #[.int .u8 (h : Int)] w fun e w' => e = .returned (.agg #[.int .i64 (2), .int .i64 128, .int .i64 159]) ∧ Below w.heap.size w w' := by
  go_enter Try.func33, Try.ntmps33
  go_wp2
  refine bodyPost_ret (v := .agg #[.int .i64 (2), .int .i64 128, .int .i64 159]) (by simp [results, Try.results33, go_sem]) rfl ⟨rfl, ?_⟩
  go_grown

set_option maxRecDepth 100000 in
theorem follows_5 (h : Nat) (w : World) (c1 : 238 ≤ h) (c2 : h ≤ 239) :
    Calls Try.prog 33 #[.int .u8 (h : Int)] w fun e w' => e = .returned (.agg #[.int .i64 (2), .int .i64 128, .int .i64 191]) ∧ Below w.heap.size w w' := by
  go_enter Try.func33, Try.ntmps33
  go_wp2
  refine bodyPost_ret (v := .agg #[.int .i64 (2), .int .i64 128, .int .i64 191]) (by simp [results, Try.results33, go_sem]) rfl ⟨rfl, ?_⟩
  go_grown

set_option maxRecDepth 100000 in
theorem follows_6 (h : Nat) (w : World) (c1 : 240 ≤ h) (c2 : h ≤ 240) :
    Calls Try.prog 33 #[.int .u8 (h : Int)] w fun e w' => e = .returned (.agg #[.int .i64 (3), .int .i64 144, .int .i64 191]) ∧ Below w.heap.size w w' := by
  go_enter Try.func33, Try.ntmps33
  go_wp2
  refine bodyPost_ret (v := .agg #[.int .i64 (3), .int .i64 144, .int .i64 191]) (by simp [results, Try.results33, go_sem]) rfl ⟨rfl, ?_⟩
  go_grown

set_option maxRecDepth 100000 in
theorem follows_7 (h : Nat) (w : World) (c1 : 241 ≤ h) (c2 : h ≤ 243) :
    Calls Try.prog 33 #[.int .u8 (h : Int)] w fun e w' => e = .returned (.agg #[.int .i64 (3), .int .i64 128, .int .i64 191]) ∧ Below w.heap.size w w' := by
  go_enter Try.func33, Try.ntmps33
  go_wp2
  refine bodyPost_ret (v := .agg #[.int .i64 (3), .int .i64 128, .int .i64 191]) (by simp [results, Try.results33, go_sem]) rfl ⟨rfl, ?_⟩
  go_grown

set_option maxRecDepth 100000 in
theorem follows_8 (h : Nat) (w : World) (c1 : 244 ≤ h) (c2 : h ≤ 244) :
    Calls Try.prog 33 #[.int .u8 (h : Int)] w fun e w' => e = .returned (.agg #[.int .i64 (3), .int .i64 128, .int .i64 143]) ∧ Below w.heap.size w w' := by
  go_enter Try.func33, Try.ntmps33
  go_wp2
  refine bodyPost_ret (v := .agg #[.int .i64 (3), .int .i64 128, .int .i64 143]) (by simp [results, Try.results33, go_sem]) rfl ⟨rfl, ?_⟩
  go_grown

/-- A part: how many bytes, the character, may it still become one. -/
def part (s : ByteArray) : Value := .agg #[.int .i64 ((first (nb s)).2.1 : Int), .int .i32 ((first (nb s)).1 : Int), .bool (first (nb s)).2.2]
def SaysP (s : ByteArray) (w : World) (e : Ending) (w' : World) : Prop := e = .returned (part s) ∧ Below w.heap.size w w'
theorem part_of {s : ByteArray} {R N : Nat} {O : Bool} (h : first (nb s) = (R, N, O)) : part s = .agg #[.int .i64 (N : Int), .int .i32 (R : Int), .bool O] := by
  unfold part; rw [h]

set_option maxRecDepth 100000 in
set_option maxHeartbeats 1600000 in
theorem refFirst_plain (s : ByteArray) (w : World) (hs : 0 < s.size) (c : s[0].toNat ≤ 127) : Calls Try.prog 25 #[.string s] w (SaysP s w) := by
  have hf : first (nb s) = (s[0].toNat, 1, false) := by rw [nb_cons s hs]; simp [first, kind, c]
  have HF := Lib.hid hf
  clear hf
  go_enter Try.func25, Try.ntmps25
  go_wp2_with fail
  refine (follows_p s[0].toNat _ c).mono ?_
  rintro e w1 ⟨rfl, hb1⟩
  have z1 : w.heap.size < w1.heap.size := by have := hb1.size; simp at this; omega
  have hp1 : w1.heap[w.heap.size]? = some (.cells #[.int .i64 0, .int .i32 0, .bool false] 53 (0, 0)) := by rw [hb1.block _ (by simp)]; exact heap_alloc_new w _
  have p0 := cell_of_heap hp1 0 _ rfl
  have p1 := cell_of_heap hp1 1 _ rfl
  have p2 := cell_of_heap hp1 2 _ rfl
  have f0 := free_of_heap hp1 0
  have f1 := free_of_heap hp1 1
  have f2 := free_of_heap hp1 2
  have hbw : Below w.heap.size w w1 := ((Below.refl _ _).alloc (Nat.le_refl _) _).trans (hb1.mono (by simp))
  go_wp2
  refine bodyPost_ret (v := .agg #[.int .i64 1, .int .i32 (s[0].toNat : Int), .bool false]) (by simp [results, Try.results25, go_sem, z1, p0, p1, p2]) rfl ⟨?_, ?_⟩
  · rw [part_of HF.out]; first | done | rfl
  · go_grown

set_option maxRecDepth 100000 in
set_option maxHeartbeats 1600000 in
theorem refFirst_n1 (s : ByteArray) (w : World) (hs : 0 < s.size) (c1 : 128 ≤ s[0].toNat) (c2 : s[0].toNat ≤ 193) : Calls Try.prog 25 #[.string s] w (SaysP s w) := by
  have hf : first (nb s) = (65533, 1, false) := by
    have hk : kind s[0].toNat = 4 := by unfold kind; repeat (first | rw [if_pos (by omega)] | rw [if_neg (by omega)])
    rw [nb_cons s hs]; simp [first, hk]
  have HF := Lib.hid hf
  clear hf
  go_enter Try.func25, Try.ntmps25
  go_wp2_with fail
  refine (follows_n1 s[0].toNat _ c1 c2).mono ?_
  rintro e w1 ⟨rfl, hb1⟩
  have z1 : w.heap.size < w1.heap.size := by have := hb1.size; simp at this; omega
  have hp1 : w1.heap[w.heap.size]? = some (.cells #[.int .i64 0, .int .i32 0, .bool false] 53 (0, 0)) := by rw [hb1.block _ (by simp)]; exact heap_alloc_new w _
  have p0 := cell_of_heap hp1 0 _ rfl
  have p1 := cell_of_heap hp1 1 _ rfl
  have p2 := cell_of_heap hp1 2 _ rfl
  have f0 := free_of_heap hp1 0
  have f1 := free_of_heap hp1 1
  have f2 := free_of_heap hp1 2
  have hbw : Below w.heap.size w w1 := ((Below.refl _ _).alloc (Nat.le_refl _) _).trans (hb1.mono (by simp))
  go_wp2
  refine bodyPost_ret (v := .agg #[.int .i64 1, .int .i32 65533, .bool false]) (by simp [results, Try.results25, go_sem, z1, p0, p1, p2]) rfl ⟨?_, ?_⟩
  · rw [part_of HF.out]; first | done | rfl
  · go_grown

set_option maxRecDepth 100000 in
set_option maxHeartbeats 1600000 in
theorem refFirst_n2 (s : ByteArray) (w : World) (hs : 0 < s.size) (c1 : 245 ≤ s[0].toNat) (c2 : s[0].toNat ≤ 255) : Calls Try.prog 25 #[.string s] w (SaysP s w) := by
  have hf : first (nb s) = (65533, 1, false) := by
    have hk : kind s[0].toNat = 4 := by unfold kind; repeat (first | rw [if_pos (by omega)] | rw [if_neg (by omega)])
    rw [nb_cons s hs]; simp [first, hk]
  have HF := Lib.hid hf
  clear hf
  go_enter Try.func25, Try.ntmps25
  go_wp2_with fail
  refine (follows_n2 s[0].toNat _ c1 c2).mono ?_
  rintro e w1 ⟨rfl, hb1⟩
  have z1 : w.heap.size < w1.heap.size := by have := hb1.size; simp at this; omega
  have hp1 : w1.heap[w.heap.size]? = some (.cells #[.int .i64 0, .int .i32 0, .bool false] 53 (0, 0)) := by rw [hb1.block _ (by simp)]; exact heap_alloc_new w _
  have p0 := cell_of_heap hp1 0 _ rfl
  have p1 := cell_of_heap hp1 1 _ rfl
  have p2 := cell_of_heap hp1 2 _ rfl
  have f0 := free_of_heap hp1 0
  have f1 := free_of_heap hp1 1
  have f2 := free_of_heap hp1 2
  have hbw : Below w.heap.size w w1 := ((Below.refl _ _).alloc (Nat.le_refl _) _).trans (hb1.mono (by simp))
  go_wp2
  refine bodyPost_ret (v := .agg #[.int .i64 1, .int .i32 65533, .bool false]) (by simp [results, Try.results25, go_sem, z1, p0, p1, p2]) rfl ⟨?_, ?_⟩
  · rw [part_of HF.out]; first | done | rfl
  · go_grown
end Ru
end Go.Proofs.Ytaagljkpihecpaa
