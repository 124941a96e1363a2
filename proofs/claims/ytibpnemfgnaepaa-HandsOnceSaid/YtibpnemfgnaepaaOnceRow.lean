/- HandsOnce's statement: it returns true for every input, and its input reads behind it as it did. No condition. -/
import Derived.Test.YtibpnemfgnaepaaOnce
import Derived.Deep.Slices
namespace Go.Proofs.Ytibpnemfgnaepaa
open Go.ChangeShapes Go.WideShapes Go.ChangeAt Go.RowKit Go.Deep
namespace Once
theorem own : ownKnob Try.prog.godebug = none := by kernel_rfl
theorem laidOut : laidOutB Try.prog = true := by kernel_rfl
theorem c37 : Try.prog.cellsOf 37 = 4 := by kernel_rfl
theorem c27 : Try.prog.cellsOf 27 = 2 := by kernel_rfl
theorem c3 : Try.prog.cellsOf 3 = 1 := by kernel_rfl
theorem c4 : Try.prog.cellsOf 4 = 1 := by kernel_rfl

theorem some_of_lt {α : Type} {l : List α} {i n : Nat} (h : l.length = n) (hi : i < n) : ∃ x, l[i]? = some x := ⟨l[i]'(by omega), List.getElem?_eq_getElem (by omega)⟩

set_option maxRecDepth 100000 in
theorem hand_cells {H : Type} {enc : TypeId × Value → H} {W : World} {base n : Nat} {sp : Nat → Bool} {hd : Bool} {cs : List Value} {x : DataW H × List MemPlace} (h : DataW.trod enc Try.prog W base sp hd n 27 cs = some x) :
    ∃ v m : Int, cs = [.int .i64 v, .int .i64 m] := by
  obtain ⟨xs, k, rfl, _, hl, hxl, hf⟩ := DataW.trod_struct Try.underlying27 h
  rw [c27] at hl
  match cs, hl with
  | [a, b], _ =>
    obtain ⟨y0, hy0⟩ := some_of_lt hxl (i := 0) (by decide)
    obtain ⟨y1, hy1⟩ := some_of_lt hxl (i := 1) (by decide)
    have h0 : DataW.trod enc Try.prog W base sp hd k 3 (List.take (Try.prog.cellsOf 3) (List.drop 0 [a, b])) = some y0 := (hf 0 _ rfl).trans hy0
    have h1 : DataW.trod enc Try.prog W base sp hd k 3 (List.take (Try.prog.cellsOf 3) (List.drop 1 [a, b])) = some y1 := (hf 1 _ rfl).trans hy1
    rw [c3] at h0 h1
    obtain ⟨v, e0, _⟩ := DataW.trod_int Try.underlying3 h0
    obtain ⟨m, e1, _⟩ := DataW.trod_int Try.underlying3 h1
    simp at e0 e1
    subst e0 e1
    exact ⟨v, m, rfl⟩

set_option maxRecDepth 100000 in
theorem op_cells {H : Type} {enc : TypeId × Value → H} {W : World} {base n : Nat} {sp : Nat → Bool} {hd : Bool} {cs : List Value} {x : DataW H × List MemPlace} (h : DataW.trod enc Try.prog W base sp hd n 37 cs = some x) :
    ∃ (kd v m : Int) (fr : Bool), cs = [.int .i64 kd, .int .i64 v, .int .i64 m, .bool fr] := by
  obtain ⟨xs, k, rfl, _, hl, hxl, hf⟩ := DataW.trod_struct Try.underlying37 h
  rw [c37] at hl
  match cs, hl with
  | [a, b, c, d], _ =>
    obtain ⟨y0, hy0⟩ := some_of_lt hxl (i := 0) (by decide)
    obtain ⟨y1, hy1⟩ := some_of_lt hxl (i := 1) (by decide)
    obtain ⟨y2, hy2⟩ := some_of_lt hxl (i := 2) (by decide)
    have h0 : DataW.trod enc Try.prog W base sp hd k 3 (List.take (Try.prog.cellsOf 3) (List.drop 0 [a, b, c, d])) = some y0 := (hf 0 _ rfl).trans hy0
    have h1 : DataW.trod enc Try.prog W base sp hd k 27 (List.take (Try.prog.cellsOf 27) (List.drop 1 [a, b, c, d])) = some y1 := (hf 1 _ rfl).trans hy1
    have h2 : DataW.trod enc Try.prog W base sp hd k 4 (List.take (Try.prog.cellsOf 4) (List.drop 3 [a, b, c, d])) = some y2 := (hf 2 _ rfl).trans hy2
    rw [c3] at h0
    rw [c27] at h1
    rw [c4] at h2
    obtain ⟨kd, e0, _⟩ := DataW.trod_int Try.underlying3 h0
    obtain ⟨v, m, e1⟩ := hand_cells h1
    obtain ⟨fr, e2, _⟩ := DataW.trod_bool Try.underlying4 h2
    simp at e0 e1 e2
    obtain ⟨rfl, rfl⟩ := e1
    subst e0 e2
    exact ⟨kd, v, m, fr, rfl⟩

theorem ops_of {H : Type} {enc : TypeId × Value → H} {W : World} {base n : Nat} {sp : Nat → Bool} {hd : Bool} {a0 : Option Addr} {len cap : Nat} {x : DataW H × List MemPlace}
    (h : DataW.trod enc Try.prog W base sp hd n 32 [.slice a0 len cap] = some x) : InOps W a0 len cap := by
  rcases open_slice Try.underlying32 h with ⟨hcs, _⟩ | ⟨a, l, c, m, k, D, Pl, hcs, _, hl, hm, hmm, _, hi⟩
  · simp at hcs
    exact .inl hcs.2.1
  · simp at hcs
    obtain ⟨rfl, rfl, rfl⟩ := hcs
    by_cases h0 : len = 0
    · exact .inl h0
    · have hml : len ≤ m := by rw [hmm]; split <;> omega
      have hcell : ∀ i, i < len → ∃ (kd v n : Int) (fr : Bool), W.cell? (a.add (i * 4)) = some (.int .i64 kd) ∧ W.cell? ((a.add (i * 4)).add 1) = some (.int .i64 v) ∧ W.cell? ((a.add (i * 4)).add 2) = some (.int .i64 n) ∧ W.cell? ((a.add (i * 4)).add 3) = some (.bool fr) := by
        intro i hlt
        obtain ⟨cs', h1, h2⟩ := hi i (by omega)
        rw [c37] at h1
        obtain ⟨kd, v, n', fr, rfl⟩ := op_cells h2
        obtain ⟨_, _, hat⟩ := World.cells?_some h1
        have e0 := hat 0 (by omega)
        refine ⟨kd, v, n', fr, ?_, hat 1 (by omega), hat 2 (by omega), hat 3 (by omega)⟩
        rw [Go.Deep.add_add] at e0
        simpa using e0
      obtain ⟨b, off, spot⟩ := a
      obtain ⟨kd, _, _, _, hc, _⟩ := hcell 0 (by omega)
      have hspot : spot = none := by simpa [Addr.add] using World.cell?_spot hc
      subst hspot
      refine .inr ⟨b, off, rfl, hl, hm, fun i hlt => ?_⟩
      obtain ⟨kd, v, n', fr, h1, h2, h3, h4⟩ := hcell i hlt
      simp only [Addr.add_lit] at h1 h2 h3 h4
      exact ⟨kd, v, n', fr, h1, h2, h3, h4⟩

set_option maxRecDepth 100000 in
theorem lifted (os : Os) (started : os.Started) (H : Type) (enc : TypeId × Value → H) :
    ReturnsInHanded {} Try.checked os 4 .any (Rows.handsOnceSpec.pre6 enc Try.prog Try.f4 Rows.handsOnceRow.domain false) (Rows.handsOnceSpec.post enc Try.prog Try.f4 false true false false) := by
  refine returnsInHanded_of_change (C := Try.checked) own started (by kernel_rfl) Try.func4
    (ChangeSpec.witness6 (enc := enc) (C := Try.checked) false ⟨#[], #[.int .i64 0, .slice none 0 0], []⟩ 8 (by kernel_rfl) (by kernel_rfl) (by kernel_rfl) (by kernel_rfl)) ?_
  intro W base args ds gs before hval0 hW hcnd _
  have hval : ∀ (j : Nat) t v, Try.f4.params[j]? = some t → args[j]? = some v → Value.okWide Try.prog W .any base t v := hval0
  have hW' := hW
  obtain ⟨p, q, hA0, hV, rfl, hfz, hnd⟩ := hW
  have hA : DataW.TrodAll enc Try.prog W 0 (fun _ => true) true Try.f4.params.toList args.toList ds p := hA0
  rw [Try.params4] at hA hval
  obtain ⟨v0, vs0, d0, ds0, p0, q0, hargs, rfl, rfl, h0, r0⟩ := trodAll_cons hA
  obtain ⟨v1, vs1, d1, ds1, p1, q1, rfl, rfl, rfl, h1, r1⟩ := trodAll_cons r0
  obtain ⟨rfl, rfl, rfl⟩ := trodAll_nil r1
  obtain rfl : args = #[v0, v1] := by cases args; simp_all
  obtain ⟨rfl, rfl⟩ := trodVars_none hV
  obtain ⟨a1, rfl, rfl, rfl, w1⟩ := open_int Try.underlying3 (hval 0 3 v0 rfl rfl) h0
  obtain ⟨a0, len0, cap0, rfl⟩ := okWide_slice Try.underlying32 (hval 1 32 v1 rfl rfl)
  have k0 := h1
  have lt0 : ∀ x ∈ p1, x.block < W.heap.size := by obtain ⟨m, hm⟩ := k0; exact DataW.trod_lt m _ _ _ hm
  have w0 : InOps W a0 len0 cap0 := by
    obtain ⟨fuel, hf⟩ := h1
    exact ops_of (by simpa [Value.cells] using hf)
  clear hA0 hval0
  refine (walk a1 a0 len0 cap0 W w0).mono fun e W' ⟨he, bel⟩ => ?_
  subst he
  exact ⟨_, rfl, _, _, _, [], _, [], hW', trodAll_mk1 (shut_bool Try.underlying4 _), (trodAll_cons_mk (shut_int Try.underlying3 w1) (trodAll_cons_mk (Below.trod laidOut (by kernel_rfl) (of_decide_eq_true (by kernel_rfl)) k0 bel lt0) trodAll_mk0)), rfl, bel.frame _, fun h => by cases h⟩

theorem over : Rows.handsOnceRow.holds Try.pinned (OpenSpec.ofChange Rows.handsOnceSpec) :=
  OpenClaim.holds_of_wide 4 Try.f4 rfl rfl rfl rfl rfl rfl rfl ⟨rfl, rfl, rfl, rfl, rfl⟩ rfl rfl rfl rfl rfl (by kernel_rfl) Try.func4 (by kernel_rfl)
    (of_decide_eq_true (by kernel_rfl)) (by unfold Func.isWrapper; first | (rw [if_pos (by decide +kernel)]; kernel_rfl) | (rw [if_neg (by decide +kernel)]; exact ⟨rfl, rfl⟩))
    (fun os started H enc _ => lifted os started H enc)
end Once

theorem handsOnce_holds : Rows.HandsOnceSaid := Once.over
#print axioms handsOnce_holds
end Go.Proofs.Ytibpnemfgnaepaa
