/- HandsNil returns true for every input, and leaves what was there as it was. No condition. -/
import Derived.Test.YtibpnemfgnaepaaAwake
import Derived.ProofKit
import Derived.OpenShut
import Derived.ShutString
import Derived.ChangeOld
import Derived.Lib.SmallJoins
namespace Go.Proofs.Ytibpnemfgnaepaa
open Go.ChangeShapes Go.WideShapes Go.ChangeAt Go.RowKit Go.Joins
namespace Nil

theorem dismiss (w : World) : Calls Try.prog 10 #[.pointer none] w fun e w' => e = .returned (.tuple #[.agg #[.int .i64 0, .int .i64 0], .bool false]) ∧ Below w.heap.size w w' := by
  go_enter Try.func10, Try.ntmps10
  go_wp2
  go_returns
  exact ⟨rfl, by go_grown⟩
theorem head (w : World) : Calls Try.prog 16 #[.pointer none] w fun e w' => e = .returned (.tuple #[.int .i64 0, .bool false]) ∧ w = w' := by
  go_enter Try.func16, Try.ntmps16
  go_wp2
  go_returns
  exact ⟨rfl, rfl⟩
theorem raise (a b : Int) (w : World) : Calls Try.prog 9 #[.pointer none, .agg #[.int .i64 a, .int .i64 b]] w fun e w' => e = .returned (.bool false) ∧ Below w.heap.size w w' := by
  go_enter Try.func9, Try.ntmps9
  go_wp2
  go_returns
  exact ⟨rfl, by go_grown⟩
theorem list (w : World) : Calls Try.prog 13 #[.pointer none] w fun e w' => e = .returned (.slice none 0 0) ∧ w = w' := by
  go_enter Try.func13, Try.ntmps13
  go_wp2
  go_returns
  exact ⟨rfl, rfl⟩
theorem len (w : World) : Calls Try.prog 11 #[.pointer none] w fun e w' => e = .returned (.int .i64 0) ∧ w = w' := by
  go_enter Try.func11, Try.ntmps11
  go_wp2
  go_returns
  exact ⟨rfl, rfl⟩
theorem rraise (a : Int) (w : World) : Calls Try.prog 15 #[.pointer none, .int .i64 a] w fun e w' => e = .returned (.bool false) ∧ w = w' := by
  go_enter Try.func15, Try.ntmps15
  go_wp2
  go_returns
  exact ⟨rfl, rfl⟩
theorem rack (a : Int) (w : World) : Calls Try.prog 17 #[.pointer none, .int .i64 a] w fun e w' => e = .returned (.bool false) ∧ w = w' := by
  go_enter Try.func17, Try.ntmps17
  go_wp2
  go_returns
  exact ⟨rfl, rfl⟩
theorem rlen (w : World) : Calls Try.prog 14 #[.pointer none] w fun e w' => e = .returned (.int .i64 0) ∧ w = w' := by
  go_enter Try.func14, Try.ntmps14
  go_wp2
  go_returns
  exact ⟨rfl, rfl⟩

theorem walk (a b : Int) (w : World) :
    Calls Try.prog 6 #[.agg #[.int .i64 a, .int .i64 b]] w fun e w' => e = .returned (.bool true) ∧ Below w.heap.size w w' := by
  go_enter Try.func6, Try.ntmps6
  go_wp2_with fail
  refine (dismiss _).mono ?_
  rintro e w1 ⟨rfl, hb1⟩
  go_wp2_with fail
  refine (head _).mono ?_
  rintro e w2 ⟨rfl, rfl⟩
  go_wp2_with fail
  refine (awake_any _).mono ?_
  rintro e w3 ⟨rfl, hb3⟩
  have z1 : w.heap.size < w1.heap.size := by have := hb1.size; simp at this; omega
  have z3 : w1.heap.size < w3.heap.size := by have := hb3.size; simp at this; omega
  have hh1 : w1.heap[w.heap.size]? = some (.cells #[.int .i64 a, .int .i64 b] 27 (0, 0)) := by rw [hb1.block _ (by simp)]; exact heap_alloc_new w _
  have hh3 : w3.heap[w.heap.size]? = some (.cells #[.int .i64 a, .int .i64 b] 27 (0, 0)) := by rw [hb3.block _ (by simp; omega)]; (repeat' (first | (with_reducible assumption) | (with_reducible exact rfl) | (with_reducible refine hk_drew ?_) | (with_reducible refine hk_drewN ?_) | (with_reducible refine hk_alloc ?_ ?_) | (with_reducible refine hk_self ?_ _ _) | (with_reducible refine hk_set ?_ ?_) | omega | (simp; omega)))
  have a3 := cell_of_heap hh3 0 _ rfl
  have b3 := cell_of_heap hh3 1 _ rfl
  have g3 : Below w.heap.size w w3 := ((((Below.refl _ _).alloc (Nat.le_refl _) _).trans (hb1.mono (by simp))).alloc (by omega) _).trans (hb3.mono (by simp; omega))
  go_wp2_with fail
  refine (raise a b _).mono ?_
  rintro e w4 ⟨rfl, hb4⟩
  have hh4 : w4.heap[w.heap.size]? = some (.cells #[.int .i64 a, .int .i64 b] 27 (0, 0)) := by rw [hb4.block _ (by omega)]; exact hh3
  have b4 := cell_of_heap hh4 1 _ rfl
  have g4 : Below w.heap.size w w4 := g3.trans (hb4.mono (by omega))
  clear a3 b3
  go_wp2_with fail
  refine (list _).mono ?_
  rintro e w5 ⟨rfl, rfl⟩
  go_wp2_with fail
  refine (len _).mono ?_
  rintro e w5 ⟨rfl, rfl⟩
  go_wp2_with fail
  refine (rraise b _).mono ?_
  rintro e w5 ⟨rfl, rfl⟩
  go_wp2_with fail
  refine (rack b _).mono ?_
  rintro e w5 ⟨rfl, rfl⟩
  go_wp2_with fail
  refine (rlen _).mono ?_
  rintro e w5 ⟨rfl, rfl⟩
  go_wp2
  go_returns
  exact ⟨rfl, g4⟩

theorem own : ownKnob Try.prog.godebug = none := by kernel_rfl
theorem cells27 : Try.prog.cellsOf 27 = 2 := by kernel_rfl

set_option maxRecDepth 100000 in
theorem lifted (os : Os) (started : os.Started) (H : Type) (enc : TypeId × Value → H) :
    ReturnsInHanded {} Try.checked os 6 .any (Rows.handsNilSpec.pre6 enc Try.prog Try.f6 Rows.handsNilRow.domain false) (Rows.handsNilSpec.post enc Try.prog Try.f6 false true false false) := by
  refine returnsInHanded_of_change (C := Try.checked) own started (by kernel_rfl) Try.func6
    (ChangeSpec.witness6 (enc := enc) (C := Try.checked) false ⟨#[], #[.agg #[.int .i64 0, .int .i64 0]], []⟩ 8 (by kernel_rfl) (by kernel_rfl) (by kernel_rfl) (by kernel_rfl)) ?_
  intro W base args ds gs before hval0 hW hcnd _
  have hval : ∀ (j : Nat) t v, Try.f6.params[j]? = some t → args[j]? = some v → Value.okWide Try.prog W .any base t v := hval0
  have hW' := hW
  obtain ⟨p, q, hA0, hV, rfl, hfz, hnd⟩ := hW
  have hA : DataW.TrodAll enc Try.prog W 0 (fun _ => true) true Try.f6.params.toList args.toList ds p := hA0
  rw [Try.params6] at hA hval
  obtain ⟨v0, vs0, d0, ds0, p0, q0, hargs, rfl, rfl, h0, r0⟩ := trodAll_cons hA
  obtain ⟨rfl, rfl, rfl⟩ := trodAll_nil r0
  obtain rfl : args = #[v0] := by cases args; simp_all
  obtain ⟨rfl, rfl⟩ := trodVars_none hV
  obtain ⟨c0, c1, y0, y1, mm, rfl, rfl, rfl, hy0, hy1⟩ := open_agg2 Try.underlying27 (by kernel_rfl) cells27 (hval 0 27 v0 rfl rfl) h0
  obtain ⟨a0, e0, rfl, w0⟩ := DataW.trod_int Try.underlying3 hy0
  obtain ⟨a1, e1, rfl, w1⟩ := DataW.trod_int Try.underlying3 hy1
  simp at e0 e1
  subst e0 e1
  clear hA0 hval0
  simp only [List.append_nil] at hW'
  refine (walk a0 a1 W).mono fun e W' ⟨he, bel⟩ => ?_
  subst he
  exact ⟨_, rfl, _, _, _, [], [], [], hW', trodAll_mk1 (shut_bool Try.underlying4 _), (trodAll_cons_mk (shut_agg2 (y0 := (.lit (.int .i64 a0), [])) (y1 := (.lit (.int .i64 a1), [])) Try.underlying27 (by kernel_rfl) cells27 ⟨1, by simp [DataW.trod, Try.underlying3, w0]⟩ ⟨1, by simp [DataW.trod, Try.underlying3, w1]⟩) trodAll_mk0), rfl, bel.frame _, fun h => by cases h⟩

theorem over : Rows.handsNilRow.holds Try.pinned (OpenSpec.ofChange Rows.handsNilSpec) :=
  OpenClaim.holds_of_wide 6 Try.f6 rfl rfl rfl rfl rfl rfl rfl ⟨rfl, rfl, rfl, rfl, rfl⟩ rfl rfl rfl rfl rfl (by kernel_rfl) Try.func6 (by kernel_rfl)
    (of_decide_eq_true (by kernel_rfl)) (by unfold Func.isWrapper; first | (rw [if_pos (by decide +kernel)]; kernel_rfl) | (rw [if_neg (by decide +kernel)]; exact ⟨rfl, rfl⟩))
    (fun os started H enc _ => lifted os started H enc)
end Nil

theorem handsNil_holds : Rows.HandsNilSaid := Nil.over
#print axioms handsNil_holds
end Go.Proofs.Ytibpnemfgnaepaa
