/- KeysBytes returns true for every input, and leaves what was there as it was, where internal/bytealg.MaxLen holds a number (as it does). No other condition. -/
import Derived.Test.YtfejfgajdjickaaDoorRBytes
import Derived.Test.YtfejfgajdjickaaDoorMask
import Derived.Deep.RegionHeld3
import Derived.ShutString
import Derived.ChangeOld
namespace Go.Proofs.YtfejfgajdjickaaDoor
open Go.ChangeShapes Go.WideShapes Go.ChangeAt Go.RowKit
namespace Keys
/-- What both say of a key. -/
def said (kind n : Int) (l : List UInt8) : List UInt8 := if kind = 1 then textBytes l else keyBytes (kind, n)
theorem both6 (kind n : Int) (l : List UInt8) (m : Int) (w : World) (hl : l.length ≤ 100) (hm : w.cell? ⟨0, 0, none⟩ = some (.int .i64 m)) :
    Calls Tryd.prog 6 #[.agg #[.int .i64 kind, .int .i64 n, .string (sb l)]] w fun e w' => e = .returned (.string (sb (said kind n l))) ∧ Below w.heap.size w w' := by
  unfold said
  split
  · next h => subst h; exact bytes_text (sb l) n m w (by rw [sb_size]; omega) hm
  · next h => exact bytes_key (sb l) kind n w h
theorem both7 (kind n : Int) (l : List UInt8) (w : World) (hl : l.length ≤ 100) :
    Calls Tryd.prog 7 #[.agg #[.int .i64 kind, .int .i64 n, .string (sb l)]] w fun e w' => e = .returned (.string (sb (said kind n l))) ∧ Below w.heap.size w w' := by
  unfold said
  split
  · next h => subst h; exact ref_text l n w (by omega)
  · next h => rw [← same_bytes]; exact ref_key (sb l) kind n w h
/-- What stays through the last statement. -/
structure Kn (w : World) (m : Int) (A B : Nat) (l : List UInt8) (x0 y0 x1 y1 y3 : Int) (W : World) : Prop where
  b : Below w.heap.size w W
  mx : W.cell? ⟨0, 0, none⟩ = some (.int .i64 m)
  h0 : W.heap[A]? = some (.cells #[.int .i64 x0, .int .i64 y0, .string (sb l)] 23 (0, 0))
  h1 : W.heap[B]? = some (.cells #[.int .i64 x1, .int .i64 y1, .string (sb l)] 23 (0, 0))
  h2 : W.heap[B + 1]? = some (.cells #[.int .i64 x1, .int .i64 0, .string (sb l)] 23 (0, 0))
  h3 : W.heap[B + 1 + 1]? = some (.cells #[.int .i64 x1, .int .i64 y3, .string (sb l)] 23 (0, 0))
section
variable {w W W' : World} {m : Int} {A B : Nat} {l : List UInt8} {x0 y0 x1 y1 y3 : Int}
theorem Kn.next (h : Kn w m A B l x0 y0 x1 y1 y3 W) (hb : Below W.heap.size W W') : Kn w m A B l x0 y0 x1 y1 y3 W' :=
  ⟨h.b.trans (hb.mono h.b.size), (hb.cell (p := ⟨0, 0, none⟩) (World.block_lt_of_cell? W _ h.mx)).trans h.mx, (hb.block _ (lt_of_heap h.h0)).trans h.h0, (hb.block _ (lt_of_heap h.h1)).trans h.h1, (hb.block _ (lt_of_heap h.h2)).trans h.h2, (hb.block _ (lt_of_heap h.h3)).trans h.h3⟩
theorem Kn.drew (h : Kn w m A B l x0 y0 x1 y1 y3 W) : Kn w m A B l x0 y0 x1 y1 y3 W.drew :=
  ⟨⟨h.b.os, h.b.tape, h.b.output, h.b.size, h.b.block⟩, h.mx, h.h0, h.h1, h.h2, h.h3⟩
theorem Kn.six (h : Kn w m A B l x0 y0 x1 y1 y3 W) (k n : Int) (hl : l.length ≤ 100) (V : ByteArray) (hV : V = sb (said k n l)) :
    Calls Tryd.prog 6 #[.agg #[.int .i64 k, .int .i64 n, .string (sb l)]] W fun e w' => e = .returned (.string V) ∧ Kn w m A B l x0 y0 x1 y1 y3 w' := by
  subst hV
  exact (both6 k n l m W hl h.mx).mono fun _ _ ⟨h1, h2⟩ => ⟨h1, h.next h2⟩
theorem Kn.seven (h : Kn w m A B l x0 y0 x1 y1 y3 W) (k n : Int) (hl : l.length ≤ 100) (V : ByteArray) (hV : V = sb (said k n l)) :
    Calls Tryd.prog 7 #[.agg #[.int .i64 k, .int .i64 n, .string (sb l)]] W fun e w' => e = .returned (.string V) ∧ Kn w m A B l x0 y0 x1 y1 y3 w' := by
  subst hV
  exact (both7 k n l W hl).mono fun _ _ ⟨h1, h2⟩ => ⟨h1, h.next h2⟩
theorem Kn.c0 (h : Kn w m A B l x0 y0 x1 y1 y3 W) : W.cell? ⟨A, 0, none⟩ = some (.int .i64 x0) ∧ W.cell? ⟨A, 1, none⟩ = some (.int .i64 y0) ∧ W.cell? ⟨A, 2, none⟩ = some (.string (sb l)) := ⟨cell_of_heap h.h0 0 _ rfl, cell_of_heap h.h0 1 _ rfl, cell_of_heap h.h0 2 _ rfl⟩
theorem Kn.c1 (h : Kn w m A B l x0 y0 x1 y1 y3 W) : W.cell? ⟨B, 0, none⟩ = some (.int .i64 x1) ∧ W.cell? ⟨B, 1, none⟩ = some (.int .i64 y1) ∧ W.cell? ⟨B, 2, none⟩ = some (.string (sb l)) := ⟨cell_of_heap h.h1 0 _ rfl, cell_of_heap h.h1 1 _ rfl, cell_of_heap h.h1 2 _ rfl⟩
theorem Kn.c2 (h : Kn w m A B l x0 y0 x1 y1 y3 W) : W.cell? ⟨B + 1, 0, none⟩ = some (.int .i64 x1) ∧ W.cell? ⟨B + 1, 1, none⟩ = some (.int .i64 0) ∧ W.cell? ⟨B + 1, 2, none⟩ = some (.string (sb l)) := ⟨cell_of_heap h.h2 0 _ rfl, cell_of_heap h.h2 1 _ rfl, cell_of_heap h.h2 2 _ rfl⟩
theorem Kn.c3 (h : Kn w m A B l x0 y0 x1 y1 y3 W) : W.cell? ⟨B + 1 + 1, 0, none⟩ = some (.int .i64 x1) ∧ W.cell? ⟨B + 1 + 1, 1, none⟩ = some (.int .i64 y3) ∧ W.cell? ⟨B + 1 + 1, 2, none⟩ = some (.string (sb l)) := ⟨cell_of_heap h.h3 0 _ rfl, cell_of_heap h.h3 1 _ rfl, cell_of_heap h.h3 2 _ rfl⟩
/-- All that the last statement loads. -/
def Cs (A B : Nat) (l : List UInt8) (x0 y0 x1 y1 y3 : Int) (W : World) : Prop :=
  W.cell? ⟨A, 0, none⟩ = some (.int .i64 x0) ∧ W.cell? ⟨A, 1, none⟩ = some (.int .i64 y0) ∧ W.cell? ⟨A, 2, none⟩ = some (.string (sb l)) ∧
  W.cell? ⟨B, 0, none⟩ = some (.int .i64 x1) ∧ W.cell? ⟨B, 1, none⟩ = some (.int .i64 y1) ∧ W.cell? ⟨B, 2, none⟩ = some (.string (sb l)) ∧
  W.cell? ⟨B + 1, 0, none⟩ = some (.int .i64 x1) ∧ W.cell? ⟨B + 1, 1, none⟩ = some (.int .i64 0) ∧ W.cell? ⟨B + 1, 2, none⟩ = some (.string (sb l)) ∧
  W.cell? ⟨B + 1 + 1, 0, none⟩ = some (.int .i64 x1) ∧ W.cell? ⟨B + 1 + 1, 1, none⟩ = some (.int .i64 y3) ∧ W.cell? ⟨B + 1 + 1, 2, none⟩ = some (.string (sb l))
theorem Kn.all (h : Kn w m A B l x0 y0 x1 y1 y3 W) : Cs A B l x0 y0 x1 y1 y3 W := ⟨h.c0.1, h.c0.2.1, h.c0.2.2, h.c1.1, h.c1.2.1, h.c1.2.2, h.c2.1, h.c2.2.1, h.c2.2.2, h.c3.1, h.c3.2.1, h.c3.2.2⟩
end
namespace Law
set_option maxRecDepth 1000000 in
set_option maxHeartbeats 16000000 in
theorem walk (kind n : Int) (s : ByteArray) (k2 n2 m : Int) (w : World) (hm : w.cell? ⟨0, 0, none⟩ = some (.int .i64 m)) :
    Calls Tryd.prog 3 #[.agg #[.int .i64 kind, .int .i64 n, .string s], .int .i64 k2, .int .i64 n2] w fun e w' => e = .returned (.bool true) ∧ Below w.heap.size w w' := by
  have hm0 := World.block_lt_of_cell? w _ hm
  have hX : (w.alloc (.cells #[.int .i64 kind, .int .i64 n, .string s] 23)).heap[w.heap.size]? = some (.cells #[.int .i64 kind, .int .i64 n, .string s] 23 (0, 0)) := new_at rfl
  have hb0 : Below w.heap.size w (w.alloc (.cells #[.int .i64 kind, .int .i64 n, .string s] 23)) := (Below.refl _ _).alloc (Nat.le_refl _) _
  have HX := Lib.hid hX
  have HB0 := Lib.hid hb0
  have HM := Lib.hid hm
  have e15 := i64_and15 k2
  have e1023 : bits .and .i64 n2 1023 = n2 % 1024 := mask_any .i64 63 (by decide) wraps_i64 10 (by decide) n2
  have e7 := i64_and7 n2
  clear hX hb0 hm
  go_enter Tryd.func3, Tryd.ntmps3
  go_wp2_with fail
  refine (awake_any _).mono ?_
  rintro e w1 ⟨rfl, hb1⟩
  have hX1 := (hb1.block w.heap.size (by simp)).trans HX.out
  have hbw1 : Below w.heap.size w w1 := HB0.out.trans (hb1.mono (by simp))
  have hl1 := lt_of_heap hX1
  have c0 := cell_of_heap hX1 0 _ rfl
  have c1 := cell_of_heap hX1 1 _ rfl
  have c2 := cell_of_heap hX1 2 _ rfl
  have c3 := free_of_heap hX1 2
  have HX1 := Lib.hid hX1
  have HB1 := Lib.hid hbw1
  clear hb1 hX1 hbw1
  go_wp2_with fail
  refine (short_any s 20 _ (by decide)).mono ?_
  rintro e w2 ⟨rfl, rfl⟩
  have hu := cut_size s 20
  generalize cut s 20 = u at hu ⊢
  obtain ⟨l, rfl⟩ : ∃ l, u = sb l := ⟨u.data.toList, rfl⟩
  rw [sb_size] at hu
  go_wp2_with fail
  have hlA := lt_of_heap HX1.out
  have hW : Kn w m w.heap.size w1.heap.size l kind n (k2 % 16) (n2 % 1024 - 20) (n2 % 8) ((((w1.setCell ⟨w.heap.size, 2, none⟩ (.string (sb l))).alloc (.cells #[.int .i64 (k2 % 16), .int .i64 (n2 % 1024 - 20), .string (sb l)] 23)).alloc (.cells #[.int .i64 (k2 % 16), .int .i64 0, .string (sb l)] 23)).alloc (.cells #[.int .i64 (k2 % 16), .int .i64 (n2 % 8), .string (sb l)] 23)) := by
    have b1 : Below w.heap.size w (w1.setCell ⟨w.heap.size, 2, none⟩ (.string (sb l))) := HB1.out.setCell (by simp) _
    have x1 : (w1.setCell ⟨w.heap.size, 2, none⟩ (.string (sb l))).heap[w.heap.size]? = some (.cells #[.int .i64 kind, .int .i64 n, .string (sb l)] 23 (0, 0)) := hk_self HX1.out 2 _
    have z1 := HB1.out.size
    have hb : Below w.heap.size w ((((w1.setCell ⟨w.heap.size, 2, none⟩ (.string (sb l))).alloc (.cells #[.int .i64 (k2 % 16), .int .i64 (n2 % 1024 - 20), .string (sb l)] 23)).alloc (.cells #[.int .i64 (k2 % 16), .int .i64 0, .string (sb l)] 23)).alloc (.cells #[.int .i64 (k2 % 16), .int .i64 (n2 % 8), .string (sb l)] 23)) :=
      ((b1.alloc (by simp; omega) _).alloc (by simp; omega) _).alloc (by simp; omega) _
    refine ⟨hb, (hb.cell (p := ⟨0, 0, none⟩) hm0).trans HM.out, hk_alloc (by simp; omega) (hk_alloc (by simp; omega) (hk_alloc (by simp; omega) x1)), hk_alloc (by simp; omega) (hk_alloc (by simp) (new_at (by simp))), hk_alloc (by simp) (new_at (by simp)), new_at (by simp)⟩
  generalize w1.heap.size = B at hW ⊢
  generalize k2 % 16 = x1 at hW ⊢
  generalize n2 % 1024 - 20 = y1 at hW ⊢
  generalize n2 % 8 = y3 at hW ⊢
  generalize ((((w1.setCell ⟨w.heap.size, 2, none⟩ (.string (sb l))).alloc (.cells #[.int .i64 x1, .int .i64 y1, .string (sb l)] 23)).alloc (.cells #[.int .i64 x1, .int .i64 0, .string (sb l)] 23)).alloc (.cells #[.int .i64 x1, .int .i64 y3, .string (sb l)] 23)) = W at hW ⊢
  generalize w.heap.size = A at hW ⊢
  obtain ⟨V0, hV0⟩ : ∃ V, V = sb (said (kind) (n) l) := ⟨_, rfl⟩
  have HV0 := Lib.hid hV0
  clear hV0
  obtain ⟨V1, hV1⟩ : ∃ V, V = sb (said (x1) (y1) l) := ⟨_, rfl⟩
  have HV1 := Lib.hid hV1
  clear hV1
  obtain ⟨V2, hV2⟩ : ∃ V, V = sb (said (x1) (0) l) := ⟨_, rfl⟩
  have HV2 := Lib.hid hV2
  clear hV2
  obtain ⟨V3, hV3⟩ : ∃ V, V = sb (said (x1) (y3) l) := ⟨_, rfl⟩
  have HV3 := Lib.hid hV3
  clear hV3
  have hu2 : l.length ≤ 100 := by omega
  have hC := hW.all
  have hCd := hW.drew.all
  clear HX1 HB1 HX HB0 HM hlA hl1 c0 c1 c2 c3
  go_region_held3 (fun w' => w'.cell? ⟨A, 0, none⟩ = some (.int .i64 kind) ∧ w'.cell? ⟨A, 1, none⟩ = some (.int .i64 n) ∧ w'.cell? ⟨A, 2, none⟩ = some (.string (sb l)) ∧
    w'.cell? ⟨B, 0, none⟩ = some (.int .i64 x1) ∧ w'.cell? ⟨B, 1, none⟩ = some (.int .i64 y1) ∧ w'.cell? ⟨B, 2, none⟩ = some (.string (sb l)) ∧
    w'.cell? ⟨B + 1, 0, none⟩ = some (.int .i64 x1) ∧ w'.cell? ⟨B + 1, 1, none⟩ = some (.int .i64 0) ∧ w'.cell? ⟨B + 1, 2, none⟩ = some (.string (sb l)) ∧
    w'.cell? ⟨B + 1 + 1, 0, none⟩ = some (.int .i64 x1) ∧ w'.cell? ⟨B + 1 + 1, 1, none⟩ = some (.int .i64 y3) ∧ w'.cell? ⟨B + 1 + 1, 2, none⟩ = some (.string (sb l))) (first | exact hC | exact hCd)
    ((first
      | (go_at_call 6; (with_reducible refine (hW.six kind n hu2 V0 HV0.out).mono ?_); rintro e w2 ⟨rfl, hW⟩; have hC := hW.all)
      | (go_at_call 6; (with_reducible refine (hW.drew.six kind n hu2 V0 HV0.out).mono ?_); rintro e w2 ⟨rfl, hW⟩; have hC := hW.all)
      | (go_at_call 6; (with_reducible refine (hW.six x1 y1 hu2 V1 HV1.out).mono ?_); rintro e w2 ⟨rfl, hW⟩; have hC := hW.all)
      | (go_at_call 6; (with_reducible refine (hW.drew.six x1 y1 hu2 V1 HV1.out).mono ?_); rintro e w2 ⟨rfl, hW⟩; have hC := hW.all)
      | (go_at_call 6; (with_reducible refine (hW.six x1 0 hu2 V2 HV2.out).mono ?_); rintro e w2 ⟨rfl, hW⟩; have hC := hW.all)
      | (go_at_call 6; (with_reducible refine (hW.drew.six x1 0 hu2 V2 HV2.out).mono ?_); rintro e w2 ⟨rfl, hW⟩; have hC := hW.all)
      | (go_at_call 6; (with_reducible refine (hW.six x1 y3 hu2 V3 HV3.out).mono ?_); rintro e w2 ⟨rfl, hW⟩; have hC := hW.all)
      | (go_at_call 6; (with_reducible refine (hW.drew.six x1 y3 hu2 V3 HV3.out).mono ?_); rintro e w2 ⟨rfl, hW⟩; have hC := hW.all)
      | (go_at_call 7; (with_reducible refine (hW.seven kind n hu2 V0 HV0.out).mono ?_); rintro e w2 ⟨rfl, hW⟩; have hC := hW.all)
      | (go_at_call 7; (with_reducible refine (hW.drew.seven kind n hu2 V0 HV0.out).mono ?_); rintro e w2 ⟨rfl, hW⟩; have hC := hW.all)
      | (go_at_call 7; (with_reducible refine (hW.seven x1 y1 hu2 V1 HV1.out).mono ?_); rintro e w2 ⟨rfl, hW⟩; have hC := hW.all)
      | (go_at_call 7; (with_reducible refine (hW.drew.seven x1 y1 hu2 V1 HV1.out).mono ?_); rintro e w2 ⟨rfl, hW⟩; have hC := hW.all)
      | (go_at_call 7; (with_reducible refine (hW.seven x1 0 hu2 V2 HV2.out).mono ?_); rintro e w2 ⟨rfl, hW⟩; have hC := hW.all)
      | (go_at_call 7; (with_reducible refine (hW.drew.seven x1 0 hu2 V2 HV2.out).mono ?_); rintro e w2 ⟨rfl, hW⟩; have hC := hW.all)
      | (go_at_call 7; (with_reducible refine (hW.seven x1 y3 hu2 V3 HV3.out).mono ?_); rintro e w2 ⟨rfl, hW⟩; have hC := hW.all)
      | (go_at_call 7; (with_reducible refine (hW.drew.seven x1 y3 hu2 V3 HV3.out).mono ?_); rintro e w2 ⟨rfl, hW⟩; have hC := hW.all)))
  all_goals (go_wp2_with fail; go_returns; exact ⟨by simp, hW.b⟩)
end Law
end Keys
end Go.Proofs.YtfejfgajdjickaaDoor
