/- append of whatever slice, empty or not, to a slice that the call owns. No condition beyond each theorem's own premises. -/
import Derived.Test.YtfejfgajdjickaaDoorOwn
namespace Go.Proofs.YtfejfgajdjickaaDoor
open Go.RowKit

section
variable {P : Program} (w : World)

theorem run_append_src (t ty : TypeId) (base : Nat) (e : TypeId) (i : TypeInfo) (z : Value) (size bytes : Nat) (ht : P.underlying t = some (.slice e)) (hi : P.info? e = some i) (hz : i.zero = some z)
    (hsize : i.size = size) (hby : i.bytes = bytes) (hzs : z.cells.size = size) (hsz : 0 < size)
    (v : Value) (n : Nat) (xs : List Value) (hown : Held w base e size v n xs)
    (sa : Option Addr) (m c : Nat) (ys : List Value) (hl : ys.length = m * size) (hnone : sa = none → m = 0 ∧ c = 0) (hys : ∀ ad, sa = some ad → ∀ j u, ys[j]? = some u → w.cell? (ad.add j) = some u) (h1 : ∀ u ∈ ys, u.oneCell' = true)
    (h63 : n + m ≤ maxLen) (hbytes : (n + m) * bytes ≤ 140737488355328) (hbase : base ≤ w.heap.size) :
    ∃ a' cap' w', (Builtin.append_ #[t, t] ty #[v, .slice sa m c]).run P w = .ok (.slice a' (n + m) cap') w' ∧
      Held w' base e size (.slice a' (n + m) cap') (n + m) (xs ++ ys) ∧ w.grownBy w' v.ownBlock ∧ ∀ k, (Value.slice a' (n + m) cap').ownBlock = some k → v.ownBlock = some k ∨ w.heap.size ≤ k := by
  by_cases hm : m = 0
  · subst hm
    obtain rfl : ys = [] := List.eq_nil_of_length_eq_zero (by simpa using hl)
    have hsame : (Builtin.append_ #[t, t] ty #[v, .slice sa 0 c]).run P w = .ok v w := by
      cases sa with
      | none =>
        obtain ⟨_, rfl⟩ := hnone rfl
        rcases hown.2 with ⟨rfl, rfl⟩ | ⟨g, off, cap, cur, rfl, hb, hg, hnc, hcm, hcs, htake⟩
        · simp [Builtin.append_, run_underlying ht, sizeOf, typeInfo, hi, Builtin.lenOf, Builtin.firstCells]
        · simp [Builtin.append_, run_underlying ht, sizeOf, typeInfo, hi, Builtin.lenOf, Builtin.firstCells, hnc, storeCells]
      | some ad =>
        rcases hown.2 with ⟨rfl, rfl⟩ | ⟨g, off, cap, cur, rfl, hb, hg, hnc, hcm, hcs, htake⟩
        · simp [Builtin.append_, run_underlying ht, sizeOf, typeInfo, hi, Builtin.lenOf, Builtin.firstCells, loadCells, loadCellsFrom]
        · have hfit : off + n * size ≤ cur.size := Nat.le_trans (Nat.add_le_add_left (Nat.mul_le_mul_right _ hnc) _) hcs
          subst hsize
          have := run_append_room_off (P := P) w t ty e i ht hi g off n cap cur hg ad 0 c [] (by simp) (by intro j u h; simp at h) (by simp) (by omega) (by simpa using hfit)
          rw [this]
          simp only [List.append_nil, List.length_nil, Nat.add_zero, List.take_append_drop, Array.toArray_toList, setRow_self w g cur e (0, 0) hg]
    obtain ⟨a, cap, rfl, _⟩ := hown.shape
    exact ⟨a, cap, w, hsame, by simpa using hown, ⟨rfl, rfl, rfl, Nat.le_refl _, fun _ _ _ => rfl⟩, fun k hk => .inl hk⟩
  · cases sa with
    | none => exact absurd (hnone rfl).1 hm
    | some ad =>
      obtain ⟨g, off, cap, w', hr, h2, h3, h4, h5⟩ := run_append_held (P := P) w t ty base e i z size bytes ht hi hz hsize hby hzs hsz v n xs hown ad m c ys hl (hys ad rfl) h1 (by omega) h63 hbytes hbase
      refine ⟨_, _, w', hr, h2, h3, fun k hk => ?_⟩
      simp only [Value.ownBlock, Option.some.injEq] at hk
      subst hk
      exact h4

theorem wpList_append_src {ops : Array Oper} {rest : List Oper} {o : Oper} {a : Act} {Q : Exit → Act → World → Prop} (hgd : o.guard = none) (s x : Operand) (t : TypeId)
    (ho : o.op = .call { callee := .builtin .append, args := #[s, x], argTypes := #[t, t] })
    (base : Nat) (e : TypeId) (i : TypeInfo) (z : Value) (size bytes : Nat) (ht : P.underlying t = some (.slice e)) (hi : P.info? e = some i) (hz : i.zero = some z)
    (hsize : i.size = size) (hby : i.bytes = bytes) (hzs : z.cells.size = size) (hsz : 0 < size)
    (v : Value) (n : Nat) (xs : List Value) (hs : a.eval s = v) (hown : Held w base e size v n xs)
    (sa : Option Addr) (m c : Nat) (ys : List Value) (hx : a.eval x = .slice sa m c) (hl : ys.length = m * size) (hnone : sa = none → m = 0 ∧ c = 0) (hys : ∀ ad, sa = some ad → ∀ j u, ys[j]? = some u → w.cell? (ad.add j) = some u) (h1 : ∀ u ∈ ys, u.oneCell' = true)
    (h63 : n + m ≤ maxLen) (hbytes : (n + m) * bytes ≤ 140737488355328) (hbase : base ≤ w.heap.size)
    (h : ∀ a' cap' w', Held w' base e size (.slice a' (n + m) cap') (n + m) (xs ++ ys) → w.grownBy w' v.ownBlock → (∀ k, (Value.slice a' (n + m) cap').ownBlock = some k → v.ownBlock = some k ∨ w.heap.size ≤ k) →
      wpList P ops Q rest (a.put o.dst (.slice a' (n + m) cap')) w') : wpList P ops Q (o :: rest) a w := by
  refine wpList_plain hgd fun K hK => ?_
  obtain ⟨a', cap', w', hr, h2, h3, h4⟩ := run_append_src (P := P) w t o.type base e i z size bytes ht hi hz hsize hby hzs hsz v n xs hown sa m c ys hl hnone hys h1 h63 hbytes hbase
  unfold Oper.wp execOp
  simp only [ho, resolve, invoke, builtin, Sem.run_bind, Sem.run_pure, Result.andThen_ok, List.map_toArray, List.map_cons, List.map_nil, hs, hx, hr]
  exact hK _ _ (h a' cap' w' h2 h3 h4)
end
end Go.Proofs.YtfejfgajdjickaaDoor
