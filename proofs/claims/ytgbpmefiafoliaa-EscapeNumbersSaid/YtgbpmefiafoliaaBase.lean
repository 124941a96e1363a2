/- Where a parser lies; Reset, Idle. No condition beyond each theorem's own premises. -/
import Derived.Test.YtgbpmefiafoliaaRows
import Derived.Test.YtgbpmefiafoliaaPlain
import Derived.Test.YtgbpmefiafoliaaOwn
import Derived.Test.YtgbpmefiafoliaaSrc
import Derived.Laws.Tables
import Derived.Laws.Rows
import Derived.Deep.RegionHeld3
import Derived.BigQuiet
import Derived.Deep.QuietTactic
import Derived.WalkSpells
import Derived.Handy
import Derived.Deep.RegionLaw
namespace Go.Proofs.Ytgbpmefiafoliaa
open Go.RowKit
namespace Esc
def PAt (w : World) (p : Nat) (s : PS) : Prop := w.heap[p]? = some (.cells s.cells 27 (0, 0))
theorem size27 : (Try.prog.info? 27).map (·.size) = some 12 := by kernel_rfl
theorem size30 : (Try.prog.info? 30).map (·.size) = some 13 := by kernel_rfl
theorem PS.one (s : PS) : (s.cells.all fun u => u.oneCell') = true := by simp [PS.cells, PS.list, Value.oneCell']
theorem AC.one (a : AC) : (a.cells.all fun u => u.oneCell') = true := by simp [AC.cells, AC.list, Value.oneCell']
theorem setRow_only (w : World) (g : Nat) (cs : Array Value) : Only [g] w (w.setRow g cs) := ⟨rfl, rfl, rfl, by simp, fun k _ hk => setRow_other w g k cs (by simpa using hk)⟩
theorem PAt.lt {w : World} {p : Nat} {s : PS} (h : PAt w p s) : p < w.heap.size := lt_of_heap h
theorem PAt.set {w : World} {p : Nat} {s : PS} (h : PAt w p s) (t : PS) : PAt (w.setRow p t.cells) p t := setRow_heap w p _ _ 27 (0, 0) h
theorem PAt.keep {w w' : World} {p : Nat} {s : PS} (h : PAt w p s) (hb : Below w.heap.size w w') : PAt w' p s := (hb.block p h.lt).trans h
theorem PAt.only {w w' : World} {p : Nat} {s : PS} {S : List Nat} (h : PAt w p s) (ho : Only S w w') (hn : p ∉ S) : PAt w' p s := (ho.block p h.lt hn).trans h

theorem PAt.drew {w : World} {p : Nat} {s : PS} (h : PAt w p s) : PAt w.drew p s := h
/-- A whole struct stored into a block that is known whole. -/
theorem wpList_store_abs {P : Program} {ops : Array Oper} {rest : List Oper} {o : Oper} {a : Act} {w : World} {Q : Exit → Act → World → Prop} (hgd : o.guard = none) (ty : TypeId) (x y : Operand) (ho : o.op = .store ty x y)
    (g : Nat) (cells : Array Value) (hx : a.eval x = .pointer (some ⟨g, 0, none⟩)) (hy : a.eval y = .agg cells)
    (t : TypeId) (old : Array Value) (hg : w.heap[g]? = some (.cells old t (0, 0))) (hi : (P.info? ty).map (·.size) = some cells.size)
    (hold : old.size = cells.size) (h1 : cells.all (·.oneCell') = true)
    (h : ∀ w', Only [g] w w' → w'.heap.size = w.heap.size → w'.heap[g]? = some (.cells cells t (0, 0)) → wpList P ops Q rest (a.put o.dst undef) w') : wpList P ops Q (o :: rest) a w :=
  wpList_store_row hgd ty x y ho g cells hx hy t old hg hi hold h1 (h _ (setRow_only w g cells) (by simp) (setRow_heap w g old cells t (0, 0) hg))
theorem results_act {fn : Func} (h : fn.results = #[.cell 4 30, .tmp 5]) {tmps : Array Value} {w : World} {g : Nat} {cs : Array Value} {fr : Nat × Nat} {b : Bool}
    (hp : tmps.getD 4 undef = .pointer (some ⟨g, 0, none⟩)) (h5 : tmps.getD 5 undef = .bool b) (hg : w.heap[g]? = some (.cells cs 30 fr)) (hs : cs.size = 13) :
    (results fn tmps).run Try.prog w = .ok (.tuple #[.agg cs, .bool b]) w := by
  have hp' : tmps[4]?.getD undef = .pointer (some ⟨g, 0, none⟩) := by simpa using hp
  have h5' : tmps[5]?.getD undef = .bool b := by simpa using h5
  have hl := run_loadVar_row (P := Try.prog) w g 30 30 cs fr _ hg Try.underlying30 rfl (by rw [size30, hs])
  simp [results, h, hp', h5', asAddr, hl]
theorem AC.size (a : AC) : a.cells.size = 13 := rfl
theorem zeros30 : (Try.prog.info? 30).map (fun i => (i.zero, i.size)) = some (some (.agg AC.zero.cells), 13) := by kernel_rfl

theorem reset_any (p : Nat) (s : PS) (w : World) (hP : PAt w p s) :
    Calls Try.prog 14 #[.pointer (some ⟨p, 0, none⟩)] w fun e w' => e = .returned (.tuple #[]) ∧ w' = w.setRow p PS.zero.cells := by
  go_enter Try.func14, Try.ntmps14
  go_wp2_with (refine wpList_store_row (by rfl) 27 (.tmp 6) (.tmp 5) (by rfl) p PS.zero.cells (by rfl) (by rfl) 27 s.cells hP size27 (by rfl) (PS.one _) ?_)
  go_returns
  exact ⟨rfl, rfl⟩

theorem idle_any (p : Nat) (s : PS) (w : World) (hP : PAt w p s) :
    Calls Try.prog 13 #[.pointer (some ⟨p, 0, none⟩)] w fun e w' => e = .returned (.bool (s.inn == 0)) ∧ w = w' := by
  have c0 := cell_of_heap hP 0 (.int .i64 s.inn) rfl
  clear hP
  go_enter Try.func13, Try.ntmps13
  go_wp2_with fail
  go_returns
  exact ⟨rfl, rfl⟩
end Esc
end Go.Proofs.Ytgbpmefiafoliaa
