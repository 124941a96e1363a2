/- The reference's two tables, as maps; command and copied. No condition beyond each theorem's own premises. -/
import Derived.Test.YtfejfgajdjickaaDoorBPlain
import Derived.Test.YtfejfgajdjickaaDoorSmall
namespace Go.Proofs.YtfejfgajdjickaaDoor
open Go.RowKit
namespace Keys
def ent : List (Int × Int) → Nat → List MapEntry
  | [], _ => []
  | p :: l, i => ⟨.int .u8 p.1, .int .i64 p.2, i⟩ :: ent l (i + 1)
theorem look_cons (p : Int × Int) (l : List (Int × Int)) (b : Int) : look (p :: l) b = if p.1 = b then p.2 else look l b := by
  unfold look
  by_cases h : p.1 = b
  · simp [h]
  · simp [h]
theorem find_ent (tab : List (Int × Int)) (b : Int) (i j : Nat) : ∃ r, Instr.findNow (.int .u8) (.int .u8 b) (ent tab i) j = some r ∧ (r.map (·.2)).getD (.int .i64 0) = .int .i64 (look tab b) := by
  induction tab generalizing i j with
  | nil => exact ⟨none, rfl, rfl⟩
  | cons p l ih =>
    rw [look_cons]
    by_cases h : p.1 = b
    · refine ⟨some (j, .int .i64 p.2), ?_, by simp [h]⟩
      simp [ent, Instr.findNow, Instr.sameNow, h]
    · obtain ⟨r, h1, h2⟩ := ih (i + 1) (j + 1)
      refine ⟨r, ?_, by rw [h2]; simp [h]⟩
      have hb : (b == p.1) = false := by simp; exact fun e => h e.symm
      simp [ent, Instr.findNow, Instr.sameNow, hb, h1]
theorem check5 (e : Bool) (b : Int) (w : World) : (Instr.checkKey e 10000 5 (.int .u8 b)).run Tryd.prog w = .ok () w := by
  rw [show (10000 : Nat) = 9999 + 1 from rfl, Instr.checkKey]
  simp only [Sem.run_bind, run_underlying Tryd.underlying5, Result.andThen_ok]
  rfl
theorem get_map {w : World} {r : Nat} {es : Array MapEntry} {c : Nat} (hr : w.heap[r]? = some (.map es c)) : (getObj r).run Tryd.prog w = .ok (.map es c) w := by
  unfold getObj
  rw [Sem.run, hr]
  rfl
theorem look_run (w : World) (r : Nat) (es : Array MapEntry) (c : Nat) (tab : List (Int × Int)) (hr : w.heap[r]? = some (.map es c)) (he : es.toList = ent tab 0) (b : Int) :
    (Instr.lookup 45 (.map (some r)) (.int .u8 b) false).run Tryd.prog w = .ok (.int .i64 (look tab b)) w := by
  obtain ⟨q, h1, h2⟩ := find_ent tab b 0 0
  unfold Instr.lookup Instr.findKey
  simp only [Sem.run_bind, run_underlying Tryd.underlying45, Result.andThen_ok, get_map hr, check5, he, run_underlying Tryd.underlying5, h1, Sem.run_pure]
  cases q with
  | none =>
    simp only [Sem.run_bind, Tryd.zeroValue3, Result.andThen_ok, Sem.run_pure]
    simpa using h2
  | some x =>
    simp only [Sem.run_bind, Result.andThen_ok, Sem.run_pure]
    simpa using h2
theorem ins (w : World) (es : Array MapEntry) (c : Nat) (k v : Int) (hk : Instr.findNow (.int .u8) (.int .u8 k) es.toList 0 = some none) :
    (Instr.mapUpdate 45 (.map (some w.heap.size)) (.int .u8 k) (.int .i64 v)).run Tryd.prog (w.alloc (.map es c)) = .ok () (w.alloc (.map (es.push ⟨.int .u8 k, .int .i64 v, c⟩) (c + 1))) := by
  have hr : (w.alloc (.map es c)).heap[w.heap.size]? = some (.map es c) := new_at rfl
  unfold Instr.mapUpdate Instr.findKey
  simp only [Sem.run_bind, run_underlying Tryd.underlying45, Result.andThen_ok, get_map hr, check5, run_underlying Tryd.underlying5, hk, Sem.run_pure]
  unfold setObj
  rw [Sem.run, hr]
  have e : ∀ o o' : Obj, (w.heap.push o).setIfInBounds w.heap.size o' = w.heap.push o' := by
    intro o o'
    apply Array.ext'
    simp
  show Result.ok () { w.alloc (.map es c) with heap := (w.heap.push (.map es c)).setIfInBounds w.heap.size _ } = _
  rw [e]
  rfl
theorem make_run (w : World) : (Instr.makeMap 45 none).run Tryd.prog w = .ok (.map (some w.heap.size)) (w.alloc (.map #[] 0)) := by
  rfl
theorem wpList_insert {P : Program} {w : World} {ops : Array Oper} {rest : List Oper} {o : Oper} {a : Act} {Q : Exit → Act → World → Prop} (hgd : o.guard = none) (t : TypeId) (m k x : Operand)
    (ho : o.op = .insert t m k x) (vm vk vx : Value) (w' : World) (hm : a.eval m = vm) (hk : a.eval k = vk) (hx : a.eval x = vx)
    (hr : (Instr.mapUpdate t vm vk vx).run P w = .ok () w') (h : wpList P ops Q rest (a.put o.dst undef) w') : wpList P ops Q (o :: rest) a w := by
  refine wpList_plain hgd fun K hK => ?_
  unfold Oper.wp execOp
  simp only [ho, Sem.run_bind, Sem.run_pure, Result.andThen_ok, hm, hk, hx, hr]
  exact hK _ _ h
theorem wpList_makeMap {P : Program} {w : World} {ops : Array Oper} {rest : List Oper} {o : Oper} {a : Act} {Q : Exit → Act → World → Prop} (hgd : o.guard = none) (t : TypeId)
    (ho : o.op = .makeMap t none) (v : Value) (w' : World)
    (hr : (Instr.makeMap t none).run P w = .ok v w') (h : wpList P ops Q rest (a.put o.dst v) w') : wpList P ops Q (o :: rest) a w := by
  refine wpList_plain hgd fun K hK => ?_
  unfold Oper.wp execOp
  simp only [ho, Sem.run_bind, Sem.run_pure, Result.andThen_ok, Option.map_none, hr]
  exact hK _ _ h
theorem wpList_lookup {P : Program} {w : World} {ops : Array Oper} {rest : List Oper} {o : Oper} {a : Act} {Q : Exit → Act → World → Prop} (hgd : o.guard = none) (t : TypeId) (m k : Operand)
    (ho : o.op = .lookup t m k false) (vm vk v : Value) (w' : World) (hm : a.eval m = vm) (hk : a.eval k = vk)
    (hr : (Instr.lookup t vm vk false).run P w = .ok v w') (h : wpList P ops Q rest (a.put o.dst v) w') : wpList P ops Q (o :: rest) a w := by
  refine wpList_plain hgd fun K hK => ?_
  unfold Oper.wp execOp
  simp only [ho, Sem.run_bind, Sem.run_pure, Result.andThen_ok, hm, hk, hr]
  exact hK _ _ h
theorem keyRes {fn : Func} (h : fn.results = #[.cell 2 23]) {tmps : Array Value} {w : World} {g : Nat} {cs : Array Value} {fr : Nat × Nat} (hp : tmps.getD 2 undef = .pointer (some ⟨g, 0, none⟩)) (hg : w.heap[g]? = some (.cells cs 23 fr)) (hs : cs.size = 3) :
    (results fn tmps).run Tryd.prog w = .ok (.agg cs) w := by
  have hp' : tmps[2]?.getD undef = .pointer (some ⟨g, 0, none⟩) := by simpa using hp
  have hl := run_loadVar_row (P := Tryd.prog) w g 23 23 cs fr _ hg Tryd.underlying23 rfl (by rw [show (Tryd.prog.info? 23).map (·.size) = some 3 by kernel_rfl, hs])
  simp [results, h, hp', asAddr, hl]
theorem size23 : (Tryd.prog.info? 23).map (·.size) = some 3 := by kernel_rfl

set_option maxHeartbeats 4000000 in
set_option maxRecDepth 100000 in
theorem refCopied_any (b : Int) (w : World) :
    Calls Tryd.prog 13 #[.int .u8 b] w fun e w' => e = .returned (.agg (cop b).cells) ∧ Below w.heap.size w w' := by
  have hlk : (Instr.lookup 45 (.map (some (w.heap.size + 1))) (.int .u8 b) false).run Tryd.prog ((w.alloc (.cells #[.int .i64 0, .int .i64 0, .string { data := #[] }] 23)).alloc (.map #[⟨.int .u8 107, .int .i64 1, 0⟩, ⟨.int .u8 106, .int .i64 (-1), 1⟩, ⟨.int .u8 117, .int .i64 10, 2⟩, ⟨.int .u8 100, .int .i64 (-10), 3⟩, ⟨.int .u8 103, .int .i64 1000, 4⟩, ⟨.int .u8 71, .int .i64 (-1000), 5⟩] 6)) = .ok (.int .i64 (look scrollsT b)) ((w.alloc (.cells #[.int .i64 0, .int .i64 0, .string { data := #[] }] 23)).alloc (.map #[⟨.int .u8 107, .int .i64 1, 0⟩, ⟨.int .u8 106, .int .i64 (-1), 1⟩, ⟨.int .u8 117, .int .i64 10, 2⟩, ⟨.int .u8 100, .int .i64 (-10), 3⟩, ⟨.int .u8 103, .int .i64 1000, 4⟩, ⟨.int .u8 71, .int .i64 (-1000), 5⟩] 6)) := look_run _ _ _ _ scrollsT (new_at (by simp)) rfl b
  by_cases h1 : look scrollsT b ≠ 0
  · have hc : cop b = ⟨11, look scrollsT b, []⟩ := by unfold cop; rw [if_pos h1]
    rw [hc]
    have t1 : ((look scrollsT b : Int) != 0) = true := by simpa using h1
    clear hc h1
    go_enter Tryd.func13, Tryd.ntmps13
    go_wp2_with (first
        | (refine wpList_makeMap rfl 45 (by rfl) _ _ (make_run _) ?_)
        | (refine wpList_insert rfl 45 (.tmp 4) (.const _) (.const _) (by rfl) _ _ _ _ (by rfl) (by rfl) (by rfl) (ins _ _ _ _ _ (by rfl)) ?_))
    refine bodyPost_ret_by (keyRes Tryd.results13 (by rfl) (hk_alloc (by simp) (new_at rfl)) rfl) rfl ⟨rfl, ?_⟩
    exact ((Below.refl _ _).alloc (Nat.le_refl _) _).alloc (by simp) _
  · have h0 : look scrollsT b = 0 := by simpa using h1
    rw [h0] at hlk
    by_cases h2 : b = 113
    · have hc : cop b = ⟨12, 0, []⟩ := by unfold cop; rw [if_neg h1, if_pos h2]
      rw [hc]
      have t2 : ((b : Int) == 113) = true := by simpa using h2
      clear hc h1 h0 h2
      go_enter Tryd.func13, Tryd.ntmps13
      go_wp2_with (first
          | (refine wpList_makeMap rfl 45 (by rfl) _ _ (make_run _) ?_)
          | (refine wpList_insert rfl 45 (.tmp 4) (.const _) (.const _) (by rfl) _ _ _ _ (by rfl) (by rfl) (by rfl) (ins _ _ _ _ _ (by rfl)) ?_))
      refine bodyPost_ret_by (keyRes Tryd.results13 (by rfl) (hk_alloc (by simp) (new_at rfl)) rfl) rfl ⟨rfl, ?_⟩
      exact ((Below.refl _ _).alloc (Nat.le_refl _) _).alloc (by simp) _
    · have hc : cop b = ⟨0, 0, []⟩ := by unfold cop; rw [if_neg h1, if_neg h2]
      rw [hc]
      have t2 : ((b : Int) == 113) = false := by simpa using h2
      clear hc h1 h0 h2
      go_enter Tryd.func13, Tryd.ntmps13
      go_wp2_with (first
          | (refine wpList_makeMap rfl 45 (by rfl) _ _ (make_run _) ?_)
          | (refine wpList_insert rfl 45 (.tmp 4) (.const _) (.const _) (by rfl) _ _ _ _ (by rfl) (by rfl) (by rfl) (ins _ _ _ _ _ (by rfl)) ?_))
      refine bodyPost_ret_by (keyRes Tryd.results13 (by rfl) (hk_alloc (by simp) (new_at rfl)) rfl) rfl ⟨rfl, ?_⟩
      exact ((Below.refl _ _).alloc (Nat.le_refl _) _).alloc (by simp) _

set_option maxHeartbeats 8000000 in
set_option maxRecDepth 100000 in
theorem refCommand_any (b : Int) (w : World) (b0 : 0 ≤ b) (b1 : b < 256) :
    Calls Tryd.prog 12 #[.int .u8 b] w fun e w' => e = .returned (.agg (cmd b).cells) ∧ Below w.heap.size w w' := by
  have hl1 : (Instr.lookup 45 (.map (some (w.heap.size + 1))) (.int .u8 b) false).run Tryd.prog (((w.alloc (.cells #[.int .i64 0, .int .i64 0, .string { data := #[] }] 23)).alloc (.map #[⟨.int .u8 37, .int .i64 2, 0⟩, ⟨.int .u8 34, .int .i64 3, 1⟩, ⟨.int .u8 111, .int .i64 4, 2⟩, ⟨.int .u8 120, .int .i64 5, 3⟩, ⟨.int .u8 99, .int .i64 6, 4⟩, ⟨.int .u8 110, .int .i64 7, 5⟩, ⟨.int .u8 112, .int .i64 8, 6⟩, ⟨.int .u8 100, .int .i64 13, 7⟩, ⟨.int .u8 91, .int .i64 14, 8⟩] 9)).alloc (.map #[⟨.int .u8 104, .int .i64 1, 0⟩, ⟨.int .u8 108, .int .i64 2, 1⟩, ⟨.int .u8 107, .int .i64 3, 2⟩, ⟨.int .u8 106, .int .i64 4, 3⟩] 4)) = .ok (.int .i64 (look kindsT b)) (((w.alloc (.cells #[.int .i64 0, .int .i64 0, .string { data := #[] }] 23)).alloc (.map #[⟨.int .u8 37, .int .i64 2, 0⟩, ⟨.int .u8 34, .int .i64 3, 1⟩, ⟨.int .u8 111, .int .i64 4, 2⟩, ⟨.int .u8 120, .int .i64 5, 3⟩, ⟨.int .u8 99, .int .i64 6, 4⟩, ⟨.int .u8 110, .int .i64 7, 5⟩, ⟨.int .u8 112, .int .i64 8, 6⟩, ⟨.int .u8 100, .int .i64 13, 7⟩, ⟨.int .u8 91, .int .i64 14, 8⟩] 9)).alloc (.map #[⟨.int .u8 104, .int .i64 1, 0⟩, ⟨.int .u8 108, .int .i64 2, 1⟩, ⟨.int .u8 107, .int .i64 3, 2⟩, ⟨.int .u8 106, .int .i64 4, 3⟩] 4)) := look_run _ _ _ _ kindsT (hk_alloc (by simp) (new_at (by simp))) rfl b
  have hl2 : (Instr.lookup 45 (.map (some (w.heap.size + 1 + 1))) (.int .u8 b) false).run Tryd.prog (((w.alloc (.cells #[.int .i64 0, .int .i64 0, .string { data := #[] }] 23)).alloc (.map #[⟨.int .u8 37, .int .i64 2, 0⟩, ⟨.int .u8 34, .int .i64 3, 1⟩, ⟨.int .u8 111, .int .i64 4, 2⟩, ⟨.int .u8 120, .int .i64 5, 3⟩, ⟨.int .u8 99, .int .i64 6, 4⟩, ⟨.int .u8 110, .int .i64 7, 5⟩, ⟨.int .u8 112, .int .i64 8, 6⟩, ⟨.int .u8 100, .int .i64 13, 7⟩, ⟨.int .u8 91, .int .i64 14, 8⟩] 9)).alloc (.map #[⟨.int .u8 104, .int .i64 1, 0⟩, ⟨.int .u8 108, .int .i64 2, 1⟩, ⟨.int .u8 107, .int .i64 3, 2⟩, ⟨.int .u8 106, .int .i64 4, 3⟩] 4)) = .ok (.int .i64 (look movesT b)) (((w.alloc (.cells #[.int .i64 0, .int .i64 0, .string { data := #[] }] 23)).alloc (.map #[⟨.int .u8 37, .int .i64 2, 0⟩, ⟨.int .u8 34, .int .i64 3, 1⟩, ⟨.int .u8 111, .int .i64 4, 2⟩, ⟨.int .u8 120, .int .i64 5, 3⟩, ⟨.int .u8 99, .int .i64 6, 4⟩, ⟨.int .u8 110, .int .i64 7, 5⟩, ⟨.int .u8 112, .int .i64 8, 6⟩, ⟨.int .u8 100, .int .i64 13, 7⟩, ⟨.int .u8 91, .int .i64 14, 8⟩] 9)).alloc (.map #[⟨.int .u8 104, .int .i64 1, 0⟩, ⟨.int .u8 108, .int .i64 2, 1⟩, ⟨.int .u8 107, .int .i64 3, 2⟩, ⟨.int .u8 106, .int .i64 4, 3⟩] 4)) := look_run _ _ _ _ movesT (new_at (by simp)) rfl b
  by_cases h1 : 0 < look kindsT b
  · have hc : cmd b = ⟨look kindsT b, 0, []⟩ := by unfold cmd; rw [if_pos h1]
    rw [hc]
    clear hc
    go_enter Tryd.func12, Tryd.ntmps12
    go_wp2_with (first
        | (refine wpList_makeMap rfl 45 (by rfl) _ _ (make_run _) ?_)
        | (refine wpList_insert rfl 45 (.tmp 5) (.const _) (.const _) (by rfl) _ _ _ _ (by rfl) (by rfl) (by rfl) (ins _ _ _ _ _ (by rfl)) ?_)
        | (refine wpList_insert rfl 45 (.tmp 7) (.const _) (.const _) (by rfl) _ _ _ _ (by rfl) (by rfl) (by rfl) (ins _ _ _ _ _ (by rfl)) ?_))
    refine bodyPost_ret_by (keyRes Tryd.results12 (by rfl) (hk_alloc (by simp; omega) (hk_alloc (by simp) (new_at rfl))) rfl) rfl ⟨rfl, ?_⟩
    exact (((Below.refl _ _).alloc (Nat.le_refl _) _).alloc (by simp) _).alloc (by simp; omega) _
  · by_cases h2 : 0 < look movesT b
    · have hc : cmd b = ⟨10, look movesT b, []⟩ := by unfold cmd; rw [if_neg h1, if_pos h2]
      rw [hc]
      clear hc
      go_enter Tryd.func12, Tryd.ntmps12
      go_wp2_with (first
          | (refine wpList_makeMap rfl 45 (by rfl) _ _ (make_run _) ?_)
          | (refine wpList_insert rfl 45 (.tmp 5) (.const _) (.const _) (by rfl) _ _ _ _ (by rfl) (by rfl) (by rfl) (ins _ _ _ _ _ (by rfl)) ?_)
          | (refine wpList_insert rfl 45 (.tmp 7) (.const _) (.const _) (by rfl) _ _ _ _ (by rfl) (by rfl) (by rfl) (ins _ _ _ _ _ (by rfl)) ?_))
      refine bodyPost_ret_by (keyRes Tryd.results12 (by rfl) (hk_alloc (by simp; omega) (hk_alloc (by simp) (new_at rfl))) rfl) rfl ⟨rfl, ?_⟩
      exact (((Below.refl _ _).alloc (Nat.le_refl _) _).alloc (by simp) _).alloc (by simp; omega) _
    · by_cases h3 : 49 ≤ b ∧ b ≤ 57
      · have hc : cmd b = ⟨9, b - 48, []⟩ := by unfold cmd; rw [if_neg h1, if_neg h2, if_pos h3]
        rw [hc]
        obtain ⟨h4, h5⟩ := h3
        clear hc
        go_enter Tryd.func12, Tryd.ntmps12
        go_wp2_with (first
            | (refine wpList_makeMap rfl 45 (by rfl) _ _ (make_run _) ?_)
            | (refine wpList_insert rfl 45 (.tmp 5) (.const _) (.const _) (by rfl) _ _ _ _ (by rfl) (by rfl) (by rfl) (ins _ _ _ _ _ (by rfl)) ?_)
            | (refine wpList_insert rfl 45 (.tmp 7) (.const _) (.const _) (by rfl) _ _ _ _ (by rfl) (by rfl) (by rfl) (ins _ _ _ _ _ (by rfl)) ?_))
        refine bodyPost_ret_by (keyRes Tryd.results12 (by rfl) (hk_alloc (by simp; omega) (hk_alloc (by simp) (new_at rfl))) rfl) rfl ⟨rfl, ?_⟩
        exact (((Below.refl _ _).alloc (Nat.le_refl _) _).alloc (by simp) _).alloc (by simp; omega) _
      · by_cases h4 : b = 2
        · have hc : cmd b = ⟨1, 0, [2]⟩ := by unfold cmd; rw [if_neg h1, if_neg h2, if_neg h3, if_pos h4]
          rw [hc]
          subst h4
          clear hc h3
          go_enter Tryd.func12, Tryd.ntmps12
          go_wp2_with (first
              | (refine wpList_makeMap rfl 45 (by rfl) _ _ (make_run _) ?_)
              | (refine wpList_insert rfl 45 (.tmp 5) (.const _) (.const _) (by rfl) _ _ _ _ (by rfl) (by rfl) (by rfl) (ins _ _ _ _ _ (by rfl)) ?_)
              | (refine wpList_insert rfl 45 (.tmp 7) (.const _) (.const _) (by rfl) _ _ _ _ (by rfl) (by rfl) (by rfl) (ins _ _ _ _ _ (by rfl)) ?_))
          refine bodyPost_ret_by (keyRes Tryd.results12 (by rfl) (hk_alloc (by simp; omega) (hk_alloc (by simp) (new_at rfl))) rfl) rfl ⟨rfl, ?_⟩
          exact (((Below.refl _ _).alloc (Nat.le_refl _) _).alloc (by simp) _).alloc (by simp; omega) _
        · have hc : cmd b = ⟨0, 0, []⟩ := by unfold cmd; rw [if_neg h1, if_neg h2, if_neg h3, if_neg h4]
          rw [hc]
          have t2 : ((b : Int) == 2) = false := by simpa using h4
          clear hc h4
          by_cases h6 : 49 ≤ b
          · have h7 : ¬ b ≤ 57 := fun h => h3 ⟨h6, h⟩
            clear h3
            go_enter Tryd.func12, Tryd.ntmps12
            go_wp2_with (first
                | (refine wpList_makeMap rfl 45 (by rfl) _ _ (make_run _) ?_)
                | (refine wpList_insert rfl 45 (.tmp 5) (.const _) (.const _) (by rfl) _ _ _ _ (by rfl) (by rfl) (by rfl) (ins _ _ _ _ _ (by rfl)) ?_)
                | (refine wpList_insert rfl 45 (.tmp 7) (.const _) (.const _) (by rfl) _ _ _ _ (by rfl) (by rfl) (by rfl) (ins _ _ _ _ _ (by rfl)) ?_))
            refine bodyPost_ret_by (keyRes Tryd.results12 (by rfl) (hk_alloc (by simp; omega) (hk_alloc (by simp) (new_at rfl))) rfl) rfl ⟨rfl, ?_⟩
            exact (((Below.refl _ _).alloc (Nat.le_refl _) _).alloc (by simp) _).alloc (by simp; omega) _
          · clear h3
            go_enter Tryd.func12, Tryd.ntmps12
            go_wp2_with (first
                | (refine wpList_makeMap rfl 45 (by rfl) _ _ (make_run _) ?_)
                | (refine wpList_insert rfl 45 (.tmp 5) (.const _) (.const _) (by rfl) _ _ _ _ (by rfl) (by rfl) (by rfl) (ins _ _ _ _ _ (by rfl)) ?_)
                | (refine wpList_insert rfl 45 (.tmp 7) (.const _) (.const _) (by rfl) _ _ _ _ (by rfl) (by rfl) (by rfl) (ins _ _ _ _ _ (by rfl)) ?_))
            refine bodyPost_ret_by (keyRes Tryd.results12 (by rfl) (hk_alloc (by simp; omega) (hk_alloc (by simp) (new_at rfl))) rfl) rfl ⟨rfl, ?_⟩
            exact (((Below.refl _ _).alloc (Nat.le_refl _) _).alloc (by simp) _).alloc (by simp; omega) _
end Keys
end Go.Proofs.YtfejfgajdjickaaDoor
