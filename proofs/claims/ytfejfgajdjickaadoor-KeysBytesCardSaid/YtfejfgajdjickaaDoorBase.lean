/- How a reader of keys lies in memory; the closures of Feed. No condition beyond each theorem's own premises. -/
import Derived.Test.YtfejfgajdjickaaDoorIdx
import Derived.Test.YtfejfgajdjickaaDoorRows
import Derived.Test.YtfejfgajdjickaaDoorOwn
import Derived.Test.YtfejfgajdjickaaDoorSrc
import Derived.Test.YtfejfgajdjickaaDoorQuiet
import Derived.WalkSpells
import Derived.Handy
import Derived.ProofKit
import Derived.OpenShut
import Derived.Deep.DeepCutAuto
import Derived.Laws.BytesArg
namespace Go.Proofs.YtfejfgajdjickaaDoor
open Go.RowKit
/-- An append whose run is known. -/
theorem wpList_append_eq {P : Program} {w : World} {ops : Array Oper} {rest : List Oper} {o : Oper} {a : Act} {Q : Exit → Act → World → Prop} (hgd : o.guard = none) (s x : Operand) (t : TypeId)
    (ho : o.op = .call { callee := .builtin .append, args := #[s, x], argTypes := #[t, t] }) (v vx r : Value) (w' : World) (hs : a.eval s = v) (hx : a.eval x = vx)
    (hr : (Builtin.append_ #[t, t] o.type #[v, vx]).run P w = .ok r w') (h : wpList P ops Q rest (a.put o.dst r) w') : wpList P ops Q (o :: rest) a w := by
  refine wpList_plain hgd fun K hK => ?_
  unfold Oper.wp execOp
  simp only [ho, resolve, invoke, builtin, Sem.run_bind, Sem.run_pure, Result.andThen_ok, List.map_toArray, List.map_cons, List.map_nil, hs, hx, hr]
  exact hK _ _ h
namespace Keys
def sb (l : List UInt8) : ByteArray := ⟨l.toArray⟩
def bs (l : List UInt8) : List Value := l.map fun b => .int .u8 (b.toNat : Int)
theorem sb_nums (l : List UInt8) : strOfNums (l.map fun x : UInt8 => (x.toNat : Int)) = sb l := by simp [strOfNums, sb, Function.comp_def]
theorem bs_length (l : List UInt8) : (bs l).length = l.length := by simp [bs]
def K.list (k : K) : List Value := [.int .i64 k.kind, .int .i64 k.n, .string (sb k.s)]
def K.cells (k : K) : Array Value := #[.int .i64 k.kind, .int .i64 k.n, .string (sb k.s)]
theorem K.list_one (k : K) : ∀ u ∈ k.list, u.oneCell' = true := by
  intro u hu
  simp [K.list] at hu
  rcases hu with rfl | rfl | rfl <;> rfl
def kcs (l : List K) : List Value := l.flatMap K.list
theorem kcs_length (l : List K) : (kcs l).length = l.length * 3 := by
  induction l with
  | nil => rfl
  | cons a r ih => simp [kcs, K.list] at ih ⊢; omega
theorem kcs_append (a b : List K) : kcs (a ++ b) = kcs a ++ kcs b := by simp [kcs]
theorem kcs_one (k : K) : kcs [k] = k.list := by simp [kcs]
theorem bs_append (a b : List UInt8) : bs (a ++ b) = bs a ++ bs b := by simp [bs]
theorem bs_one (l : List UInt8) : ∀ u ∈ bs l, u.oneCell' = true := by
  intro u hu
  simp [bs] at hu
  obtain ⟨x, -, rfl⟩ := hu
  rfl
theorem info34 : (Tryd.prog.info? 23).map (fun i => (i.zero, i.size, i.bytes)) = some (some (.agg #[.int .i64 0, .int .i64 0, .string ⟨#[]⟩]), 3, 32) := by kernel_rfl
theorem info5 : (Tryd.prog.info? 5).map (fun i => (i.zero, i.size, i.bytes)) = some (some (.int .u8 0), 1, 1) := by kernel_rfl

theorem Held_ne {w : World} {base e size n : Nat} {v : Value} {xs : List Value} (h : Held w base e size v n xs) {b t : Nat} {cs : Array Value} {fr : Nat × Nat} (hb : w.heap[b]? = some (.cells cs t fr)) (ht : t ≠ e) : v.ownBlock ≠ some b := by
  intro hk
  rcases h.2 with ⟨rfl, _⟩ | ⟨g, off, cap, cur, rfl, _, hg, _⟩
  · simp [Value.ownBlock] at hk
  · simp [Value.ownBlock] at hk
    subst hk
    rw [hg] at hb
    simp at hb
    exact ht hb.2.1.symm

theorem ne_type {w : World} {a b t t' : Nat} {cs cs' : Array Value} {fr fr' : Nat × Nat} (ha : w.heap[a]? = some (.cells cs t fr)) (hb : w.heap[b]? = some (.cells cs' t' fr')) (ht : t ≠ t') : a ≠ b := by
  rintro rfl
  rw [ha] at hb
  simp at hb
  exact ht hb.2.1

/-- The variables that Feed's closures share. -/
def Inv (w : World) (B T Q : Nat) (tx : List UInt8) (l : List K) : Prop :=
  ∃ ta tc ka kc, w.heap[T]? = some (.cells #[.slice ta tx.length tc] 41 (0, 0)) ∧ w.heap[Q]? = some (.cells #[.slice ka l.length kc] 31 (0, 0)) ∧
    Held w B 5 1 (.slice ta tx.length tc) tx.length (bs tx) ∧ Held w B 23 3 (.slice ka l.length kc) l.length (kcs l)
/-- What may have turned. -/
def Turn (p B T Q : Nat) (w w' : World) : Prop :=
  ∃ S, Only S w w' ∧ ∀ k, k ∈ S → k = p ∨ (B ≤ k ∧ (k = T ∨ k = Q ∨ w.heap.size ≤ k ∨ ∃ cs t fr, w.heap[k]? = some (.cells cs t fr) ∧ (t = 23 ∨ t = 5)))
theorem Turn.refl (p B T Q : Nat) (w : World) : Turn p B T Q w w := ⟨[], Only.refl _ _, by simp⟩
theorem Turn.size {p B T Q : Nat} {w w' : World} (h : Turn p B T Q w w') : w.heap.size ≤ w'.heap.size := by obtain ⟨S, ho, _⟩ := h; exact ho.size
theorem Turn.keep {p B T Q : Nat} {w w' : World} (h : Turn p B T Q w w') {b t : Nat} {cs : Array Value} {fr : Nat × Nat} (hb : w.heap[b]? = some (.cells cs t fr)) (ht : t ≠ 23 ∧ t ≠ 5) (h0 : b ≠ p) (h1 : b ≠ T) (h2 : b ≠ Q) : w'.heap[b]? = some (.cells cs t fr) := by
  obtain ⟨S, ho, hS⟩ := h
  rw [ho.block b (lt_of_heap hb) (fun hm => ?_)]
  · exact hb
  · rcases hS b hm with e | ⟨_, e | e | e | ⟨c, t', f, e, ht'⟩⟩
    · exact h0 e
    · exact h1 e
    · exact h2 e
    · have := lt_of_heap hb; omega
    · rw [hb] at e
      simp at e
      rcases ht' with h | h
      · exact ht.1 (e.2.1.trans h)
      · exact ht.2 (e.2.1.trans h)
theorem Turn.trans {p B T Q : Nat} {a b c : World} (h : Turn p B T Q a b) (k : Turn p B T Q b c) : Turn p B T Q a c := by
  obtain ⟨S, ho, hS⟩ := h
  obtain ⟨S', ho', hS'⟩ := k
  refine ⟨S ++ S', (ho.mono fun i hi => .inl (List.mem_append_left _ hi)).trans (ho'.mono fun i hi => .inl (List.mem_append_right _ hi)), ?_⟩
  intro i hi
  by_cases hm : i ∈ S
  · exact hS i hm
  · have hi' : i ∈ S' := (List.mem_append.1 hi).resolve_left hm
    rcases hS' i hi' with e | ⟨h1, h2⟩
    · exact .inl e
    · refine .inr ⟨h1, ?_⟩
      rcases h2 with e | e | e | ⟨cs, t, fr, e, ht⟩
      · exact .inl e
      · exact .inr (.inl e)
      · exact .inr (.inr (.inl (Nat.le_trans ho.size e)))
      · by_cases hlt : i < a.heap.size
        · rw [ho.block i hlt hm] at e
          exact .inr (.inr (.inr ⟨_, _, _, e, ht⟩))
        · exact .inr (.inr (.inl (by omega)))
theorem Turn.alloc {p B T Q : Nat} {a b : World} (h : Turn p B T Q a b) (o : Obj) : Turn p B T Q a (b.alloc o) := by
  obtain ⟨S, ho, hS⟩ := h
  exact ⟨S, ho.alloc o, hS⟩
theorem Turn.setT {p B T Q : Nat} {a b : World} (h : Turn p B T Q a b) (hT : B ≤ T) (u : Value) : Turn p B T Q a (b.setCell ⟨T, 0, none⟩ u) := by
  obtain ⟨S, ho, hS⟩ := h
  refine ⟨T :: S, (ho.mono fun i hi => .inl (List.mem_cons_of_mem _ hi)).setCell (by simp) _, ?_⟩
  intro k hk
  rcases List.mem_cons.1 hk with rfl | hk
  · exact .inr ⟨hT, .inl rfl⟩
  · exact hS k hk
theorem Turn.setP {p B T Q o : Nat} {a b : World} (h : Turn p B T Q a b) (u : Value) : Turn p B T Q a (b.setCell ⟨p, o, none⟩ u) := by
  obtain ⟨S, ho, hS⟩ := h
  refine ⟨p :: S, (ho.mono fun i hi => .inl (List.mem_cons_of_mem _ hi)).setCell (by simp) _, ?_⟩
  intro k hk
  rcases List.mem_cons.1 hk with rfl | hk
  · exact .inl rfl
  · exact hS k hk
theorem Turn.only {p B T Q : Nat} {a w w' : World} (h : Turn p B T Q w w') (ho : Only [p] a w) (hB : a.heap.size ≤ B) : Only [p] a w' := by
  obtain ⟨S', ho', hS⟩ := h
  refine ho.and ho' fun i hi => ?_
  rcases hS i hi with rfl | ⟨h1, _⟩
  · exact .inl (by simp)
  · exact .inr (Nat.le_trans hB h1)

theorem conv_held {w : World} {base n c : Nat} {a : Option Addr} {l : List UInt8} (h : Held w base 5 1 (.slice a n c) n (bs l)) :
    (convert 41 9 (.slice a n c)).run Tryd.prog w = .ok (.string (sb l)) w := by
  have hl : l.length = n := by have := h.1; simpa [bs] using this
  rcases h.2 with ⟨hv, h0⟩ | ⟨g, off, cap, cur, hv, hb, hg, hc, hm, hs, ht⟩
  · simp only [Value.slice.injEq] at hv
    obtain ⟨rfl, rfl, rfl⟩ := hv
    obtain rfl : l = [] := List.eq_nil_of_length_eq_zero hl
    exact run_convert_bytes_nil w 41 5 Tryd.underlying41 Tryd.underlying5 0 0 9 Tryd.underlying9
  · simp only [Value.slice.injEq] at hv
    obtain ⟨rfl, -, rfl⟩ := hv
    rw [← sb_nums]
    refine run_convert_bytes_arg w 41 5 Tryd.underlying41 Tryd.underlying5 g off n c (l.map fun x : UInt8 => (x.toNat : Int)) (by simpa using hl) ?_ 9 Tryd.underlying9
    intro i hi
    rw [cell_of_row w g (off + i) cur 5 (0, 0) hg]
    have hx : (bs l)[i]? = some (.int .u8 ((l.map fun x : UInt8 => (x.toNat : Int)).getD i 0)) := by
      have : i < l.length := by omega
      simp [bs, List.getD, this]
    rw [← ht, List.getElem?_take] at hx
    split at hx
    · simpa [List.getElem?_drop] using hx
    · cases hx
end Keys
end Go.Proofs.YtfejfgajdjickaaDoor
