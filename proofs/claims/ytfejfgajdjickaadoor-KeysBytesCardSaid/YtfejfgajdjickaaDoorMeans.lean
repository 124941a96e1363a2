/- The tables of meanings, and what stands at an index of them. No condition beyond each theorem's own premises. -/
import Derived.Test.YtfejfgajdjickaaDoorTell
namespace Go.Proofs.YtfejfgajdjickaaDoor
open Go.RowKit
namespace Keys
def mcs (l : List (Int × Int)) : Array Value := (l.flatMap fun m => [Value.int .i64 m.1, Value.int .i64 m.2]).toArray
def bCells : Array Value := mcs behindM
def cCells : Array Value := mcs copiedM
theorem bCells_one : bCells.all (·.oneCell') = true := by kernel_rfl
theorem cCells_one : cCells.all (·.oneCell') = true := by kernel_rfl
theorem setRow_only (w : World) (g : Nat) (cs : Array Value) : Only [g] w (w.setRow g cs) :=
  ⟨rfl, rfl, rfl, by simp, fun k _ hk => setRow_other _ _ _ _ (by simpa using hk)⟩
/-- A whole array stored into a block that is known whole. -/
theorem wpList_store_abs {P : Program} {ops : Array Oper} {rest : List Oper} {o : Oper} {a : Act} {w : World} {Q : Exit → Act → World → Prop} (hgd : o.guard = none) (ty : TypeId) (x y : Operand) (ho : o.op = .store ty x y)
    (g : Nat) (cells : Array Value) (hx : a.eval x = .pointer (some ⟨g, 0, none⟩)) (hy : a.eval y = .agg cells)
    (t : TypeId) (old : Array Value) (hg : w.heap[g]? = some (.cells old t (0, 0))) (hi : (P.info? ty).map (·.size) = some cells.size)
    (hold : old.size = cells.size) (h1 : cells.all (·.oneCell') = true)
    (h : ∀ w', Only [g] w w' → w'.heap.size = w.heap.size → w'.heap[g]? = some (.cells cells t (0, 0)) → wpList P ops Q rest (a.put o.dst undef) w') : wpList P ops Q (o :: rest) a w :=
  wpList_store_row hgd ty x y ho g cells hx hy t old hg hi hold h1 (h _ (setRow_only w g cells) (by simp) (setRow_heap w g old cells t (0, 0) hg))
theorem size40 : (Tryd.prog.info? 36).map (·.size) = some bCells.size := by kernel_rfl
theorem size42 : (Tryd.prog.info? 38).map (·.size) = some cCells.size := by kernel_rfl

theorem behind_at (i : Nat) (hi : i < 22) (w : World) : (Instr.index 36 (.agg bCells) (.int .i64 (i : Int))).run Tryd.prog w = .ok (.agg #[.int .i64 (behindM.getD i (0, 0)).1, .int .i64 (behindM.getD i (0, 0)).2]) w := by
  rcases (show i = 0 ∨ i = 1 ∨ i = 2 ∨ i = 3 ∨ i = 4 ∨ i = 5 ∨ i = 6 ∨ i = 7 ∨ i = 8 ∨ i = 9 ∨ i = 10 ∨ i = 11 ∨ i = 12 ∨ i = 13 ∨ i = 14 ∨ i = 15 ∨ i = 16 ∨ i = 17 ∨ i = 18 ∨ i = 19 ∨ i = 20 ∨ i = 21 from by omega) with rfl | rfl | rfl | rfl | rfl | rfl | rfl | rfl | rfl | rfl | rfl | rfl | rfl | rfl | rfl | rfl | rfl | rfl | rfl | rfl | rfl | rfl
  all_goals kernel_rfl

theorem copied_at (i : Nat) (hi : i < 7) (w : World) : (Instr.index 38 (.agg cCells) (.int .i64 (i : Int))).run Tryd.prog w = .ok (.agg #[.int .i64 (copiedM.getD i (0, 0)).1, .int .i64 (copiedM.getD i (0, 0)).2]) w := by
  rcases (show i = 0 ∨ i = 1 ∨ i = 2 ∨ i = 3 ∨ i = 4 ∨ i = 5 ∨ i = 6 from by omega) with rfl | rfl | rfl | rfl | rfl | rfl | rfl
  all_goals kernel_rfl

theorem behindRes {fn : Func} (h : fn.results = #[.cell 0 36]) {tmps : Array Value} {w : World} {g : Nat} {fr : Nat × Nat} (hp : tmps.getD 0 undef = .pointer (some ⟨g, 0, none⟩)) (hg : w.heap[g]? = some (.cells bCells 36 fr)) :
    (results fn tmps).run Tryd.prog w = .ok (.agg bCells) w := by
  have hp' : tmps[0]?.getD undef = .pointer (some ⟨g, 0, none⟩) := by simpa using hp
  have hl := run_loadVar_row (P := Tryd.prog) w g 36 36 bCells fr _ hg Tryd.underlying36 rfl size40
  simp [results, h, hp', asAddr, hl]
theorem behindZ : (Tryd.prog.info? 36).map (fun i => i.zero) = some (some (.agg (mcs (List.replicate 22 (0, 0))))) := by kernel_rfl
set_option maxHeartbeats 2000000 in
set_option maxRecDepth 100000 in
theorem behind_any (w : World) : Calls Tryd.prog 10 #[] w fun e w' => e = .returned (.agg bCells) ∧ Below w.heap.size w w' := by
  go_enter Tryd.func10, Tryd.ntmps10
  go_wp2_with (refine wpList_store_abs (by rfl) 36 (.tmp 0) (.tmp 23) (by rfl) w.heap.size bCells (by rfl) (by rfl) 36 (mcs (List.replicate 22 (0, 0))) (heap_alloc_new _ _) size40 (by kernel_rfl) bCells_one ?_)
  intro w2 ho hsz hg
  go_wp2
  refine bodyPost_ret_by (behindRes Tryd.results10 (by rfl) hg) rfl ⟨rfl, ?_⟩
  exact ((Below.refl _ _).alloc (Nat.le_refl _) _).trans (ho.below (by simp) (by simp))

theorem copiedRes {fn : Func} (h : fn.results = #[.cell 0 38]) {tmps : Array Value} {w : World} {g : Nat} {fr : Nat × Nat} (hp : tmps.getD 0 undef = .pointer (some ⟨g, 0, none⟩)) (hg : w.heap[g]? = some (.cells cCells 38 fr)) :
    (results fn tmps).run Tryd.prog w = .ok (.agg cCells) w := by
  have hp' : tmps[0]?.getD undef = .pointer (some ⟨g, 0, none⟩) := by simpa using hp
  have hl := run_loadVar_row (P := Tryd.prog) w g 38 38 cCells fr _ hg Tryd.underlying38 rfl size42
  simp [results, h, hp', asAddr, hl]
theorem copiedZ : (Tryd.prog.info? 38).map (fun i => i.zero) = some (some (.agg (mcs (List.replicate 7 (0, 0))))) := by kernel_rfl
set_option maxHeartbeats 2000000 in
set_option maxRecDepth 100000 in
theorem copied_any (w : World) : Calls Tryd.prog 11 #[] w fun e w' => e = .returned (.agg cCells) ∧ Below w.heap.size w w' := by
  go_enter Tryd.func11, Tryd.ntmps11
  go_wp2_with (refine wpList_store_abs (by rfl) 38 (.tmp 0) (.tmp 8) (by rfl) w.heap.size cCells (by rfl) (by rfl) 38 (mcs (List.replicate 7 (0, 0))) (heap_alloc_new _ _) size42 (by kernel_rfl) cCells_one ?_)
  intro w2 ho hsz hg
  go_wp2
  refine bodyPost_ret_by (copiedRes Tryd.results11 (by rfl) hg) rfl ⟨rfl, ?_⟩
  exact ((Below.refl _ _).alloc (Nat.le_refl _) _).trans (ho.below (by simp) (by simp))
end Keys
end Go.Proofs.YtfejfgajdjickaaDoor
