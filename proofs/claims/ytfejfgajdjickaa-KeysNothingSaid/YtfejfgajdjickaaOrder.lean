/- What stays through a statement whose order is open: two readers, a row. No condition beyond each theorem's own premises. -/
import Derived.Test.YtfejfgajdjickaaFlat
namespace Go.Proofs.Ytfejfgajdjickaa
open Go.RowKit
theorem Held.grown {w w' : World} {base : Nat} {e : TypeId} {size : Nat} {v : Value} {n : Nat} {xs : List Value} {row : Option Nat} (h : Held w base e size v n xs) (hg : w.grownBy w' row) (hne : ∀ k, v.ownBlock = some k → row ≠ some k) : Held w' base e size v n xs :=
  h.keep fun k hk => hg.block k (h.lt k hk).2 (fun e => hne k hk e.symm)
theorem Held.rebase {w : World} {base base' : Nat} {e : TypeId} {size : Nat} {v : Value} {n : Nat} {xs : List Value} (h : Held w base e size v n xs) (hb : ∀ k, v.ownBlock = some k → base' ≤ k) : Held w base' e size v n xs := by
  refine ⟨h.1, ?_⟩
  rcases h.2 with h0 | ⟨g, off, cap, cur, rfl, -, rest⟩
  · exact .inl h0
  · exact .inr ⟨g, off, cap, cur, rfl, hb g rfl, rest⟩
theorem below_drew {B : Nat} {a w : World} (h : Below B a w) : Below B a w.drew := ⟨h.os, h.tape, h.output, h.size, h.block⟩
section
variable {P : Program} (w : World)
/-- append of whatever slice at a step of a region that draws its order. -/
theorem step_append_src {ops : Array Oper} {o : Oper} {a : Act} {K : Act → World → Prop} {Q : Exit → Act → World → Prop} {E : Prop} (hgd : o.guard = none) (s x : Operand) (t : TypeId)
    (ho : o.op = .call { callee := .builtin .append, args := #[s, x], argTypes := #[t, t] })
    (base : Nat) (e : TypeId) (i : TypeInfo) (z : Value) (size bytes : Nat) (ht : P.underlying t = some (.slice e)) (hi : P.info? e = some i) (hz : i.zero = some z)
    (hsize : i.size = size) (hby : i.bytes = bytes) (hzs : z.cells.size = size) (hsz : 0 < size)
    (v : Value) (n : Nat) (xs : List Value) (hs : a.eval s = v) (hown : Held w base e size v n xs)
    (sa : Option Addr) (m c : Nat) (ys : List Value) (hx : a.eval x = .slice sa m c) (hl : ys.length = m * size) (hnone : sa = none → m = 0 ∧ c = 0) (hys : ∀ ad, sa = some ad → ∀ j u, ys[j]? = some u → w.cell? (ad.add j) = some u) (h1 : ∀ u ∈ ys, u.oneCell' = true)
    (h63 : n + m ≤ maxLen) (hbytes : (n + m) * bytes ≤ 140737488355328) (hbase : base ≤ w.heap.size)
    (h : ∀ a' cap' w', Held w' base e size (.slice a' (n + m) cap') (n + m) (xs ++ ys) → w.grownBy w' v.ownBlock → (∀ k, (Value.slice a' (n + m) cap').ownBlock = some k → v.ownBlock = some k ∨ w.heap.size ≤ k) →
      K (a.put o.dst (.slice a' (n + m) cap')) w') :
    if Region.wanted o (yielded ops a.tmps) = true then Oper.wp P o a w K Q else E := by
  have hw : Region.wanted o (yielded ops a.tmps) = true := by simp [Region.wanted, hgd]
  rw [if_pos hw]
  obtain ⟨a', cap', w', hr, h2, h3, h4⟩ := run_append_src (P := P) w t o.type base e i z size bytes ht hi hz hsize hby hzs hsz v n xs hown sa m c ys hl hnone hys h1 h63 hbytes hbase
  unfold Oper.wp execOp
  simp only [ho, resolve, invoke, builtin, Sem.run_bind, Sem.run_pure, Result.andThen_ok, List.map_toArray, List.map_cons, List.map_nil, hs, hx, hr]
  exact h a' cap' w' h2 h3 h4
end
namespace Keys
theorem RAt.far {w w' : World} {p q : Nat} {c d : Bool} (h : RAt w p c d) (ho : Only [q] w w') (hn : p ≠ q) : RAt w' p c d := (ho.block p h.lt (by simpa using hn)).trans h
theorem RAt.grow {w : World} {p : Nat} {c d : Bool} (h : RAt w p c d) (o : Obj) : RAt (w.alloc o) p c d := hk_alloc h.lt h
theorem only_below {B p : Nat} {w w' : World} (h : Only [p] w w') (hB : B ≤ w.heap.size) (hp : B ≤ p) : Below B w w' := h.below hB (by simp; exact hp)
theorem kcs_one' (l : List K) : ∀ u ∈ kcs l, u.oneCell' = true := by
  intro u hu
  unfold kcs at hu
  obtain ⟨A, -, h⟩ := List.mem_flatMap.1 hu
  exact A.list_one u h
/-- A row that may be read. -/
structure Row (w : World) (base : Nat) (a : Option Addr) (n c : Nat) (l : List K) : Prop where
  held : Held w base 34 3 (.slice a n c) n (kcs l)
theorem Row.none {w : World} {base n c : Nat} {a : Option Addr} {l : List K} (h : Held w base 34 3 (.slice a n c) n (kcs l)) : a = Option.none → n = 0 ∧ c = 0 := by
  rintro rfl
  rcases h.2 with ⟨hv, h0⟩ | ⟨g, off, cap, cur, hv, -⟩
  · simp only [Value.slice.injEq] at hv
    exact ⟨h0, hv.2.2⟩
  · simp at hv
theorem Row.cells {w : World} {base n c : Nat} {a : Option Addr} {l : List K} (h : Held w base 34 3 (.slice a n c) n (kcs l)) : ∀ ad, a = some ad → ∀ j u, (kcs l)[j]? = some u → w.cell? (ad.add j) = some u := by
  rintro ad rfl j u hu
  obtain ⟨a', cap, hv, -, -, -, -, hc⟩ := h.shape
  simp only [Value.slice.injEq] at hv
  exact hc ad (by rw [← hv.1]) j u hu
/-- What stays. -/
structure Ord (w4 : World) (A : Nat) (SF : Bool × Bool) (vx : Value) (nx : Nat) (lx : List K) (W : World) (sq : Bool × Bool) : Prop where
  b : Below A w4 W
  z : w4.heap.size ≤ W.heap.size
  p : RAt W A SF.1 SF.2
  q : RAt W (A + 1) sq.1 sq.2
  x : Held W (A + 2) 34 3 vx nx (kcs lx)
  xb : ∀ k, vx.ownBlock = some k → k < w4.heap.size
  lt : A + 1 < w4.heap.size
section
variable {w4 W W' : World} {A : Nat} {SF sq sq' : Bool × Bool} {vx : Value} {nx : Nat} {lx : List K}
theorem Ord.drew (h : Ord w4 A SF vx nx lx W sq) : Ord w4 A SF vx nx lx W.drew sq := ⟨below_drew h.b, h.z, h.p, h.q, h.x, h.xb, h.lt⟩
theorem Ord.alloc (h : Ord w4 A SF vx nx lx W sq) (o : Obj) : Ord w4 A SF vx nx lx (W.alloc o) sq :=
  ⟨h.b.alloc (by have := h.p.lt; omega) o, by have := h.z; simp; omega, h.p.grow o, h.q.grow o, h.x.alloc o, h.xb, h.lt⟩
theorem Ord.fed (h : Ord w4 A SF vx nx lx W sq) (ho : Only [A + 1] W W') (hq : RAt W' (A + 1) sq'.1 sq'.2) : Ord w4 A SF vx nx lx W' sq' :=
  ⟨h.b.trans (ho.below (by have := h.p.lt; omega) (by simp)), Nat.le_trans h.z ho.size, h.p.far ho (by omega), hq, h.x.only ho (by intro k hk; have := (h.x.lt k hk).1; simp; omega), h.xb, h.lt⟩
theorem Ord.grown (h : Ord w4 A SF vx nx lx W sq) {row : Option Nat} (hg : W.grownBy W' row) (hr : ∀ k, row = some k → w4.heap.size ≤ k) : Ord w4 A SF vx nx lx W' sq := by
  have lt := h.lt
  refine ⟨h.b.grown hg (by have := h.p.lt; omega) (fun k hk => by have := hr k hk; omega), Nat.le_trans h.z hg.size, hk_grown hg h.p.lt (fun e => by have := hr _ e; omega) h.p, hk_grown hg h.q.lt (fun e => by have := hr _ e; omega) h.q, h.x.grown hg (fun k hk e => ?_), h.xb, h.lt⟩
  have := hr k e
  have := h.xb k hk
  omega
end
theorem fresh_new {B : Nat} (W : World) (hB : B ≤ W.heap.size) : Held (W.alloc (.cells #[] 34)) B 34 3 (.slice (some ⟨W.heap.size, 0, none⟩) 0 0) 0 (kcs []) :=
  ⟨rfl, .inr ⟨W.heap.size, 0, 0, #[], rfl, hB, new_at rfl, Nat.le_refl _, by decide, by decide, rfl⟩⟩
theorem fresh_only {B : Nat} {W W' : World} {q : Nat} (ho : Only [q] (W.alloc (.cells #[] 34)) W') (hB : B ≤ W.heap.size) (hq : q < W.heap.size) : Held W' B 34 3 (.slice (some ⟨W.heap.size, 0, none⟩) 0 0) 0 (kcs []) :=
  (fresh_new W hB).only ho (by intro k hk; simp [Value.ownBlock] at hk; simp; omega)
theorem fresh_only' {B : Nat} {W W' : World} {q : Nat} (ho : Only [q] (W.alloc (.cells #[] 34)).drew W') (hB : B ≤ W.heap.size) (hq : q < W.heap.size) : Held W' B 34 3 (.slice (some ⟨W.heap.size, 0, none⟩) 0 0) 0 (kcs []) :=
  ((fresh_new W hB).drew).only ho (by intro k hk; simp [Value.ownBlock] at hk; simp; omega)
theorem held_only {w w' : World} {base q : Nat} {v : Value} {n : Nat} {xs : List Value} (h : Held w base 34 3 v n xs) (ho : Only [q] w w') (hq : q < base) : Held w' base 34 3 v n xs :=
  h.only ho (by intro k hk; have := (h.lt k hk).1; simp; omega)
end Keys
end Go.Proofs.Ytfejfgajdjickaa
