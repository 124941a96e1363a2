/- A row of characters appended to a row that the call owns; where a text is parted. No condition beyond each theorem's own premises. -/
import Derived.Test.YtaagljkpihecpaaFeeds
import Derived.Test.YtaagljkpihecpaaSrc
namespace Go.Proofs.Ytaagljkpihecpaa
open Go.RowKit
namespace Ru
/-- A slice that may be read, of a block below B. -/
def SrcAt (w : World) (B : Nat) (a : Option Addr) (m c : Nat) (ys : List Nat) : Prop :=
  ys.length = m ∧ (a = none → m = 0 ∧ c = 0) ∧ ∀ ad, a = some ad → ad.block < B ∧ ∀ j u, (rs ys)[j]? = some u → w.cell? (ad.add j) = some u
theorem SrcAt.of {w : World} {base m c : Nat} {a : Option Addr} {ys : List Nat} (h : Held w base 21 1 (.slice a m c) m (rs ys)) : SrcAt w w.heap.size a m c ys := by
  refine ⟨by simpa [rs] using h.1, ?_⟩
  rcases h.2 with ⟨hv, h0⟩ | ⟨g, off, cap, cur, hv, hb, hg, hc, hm, hs, ht⟩
  · simp only [Value.slice.injEq] at hv
    obtain ⟨rfl, rfl, rfl⟩ := hv
    exact ⟨fun _ => ⟨rfl, rfl⟩, fun ad h => by cases h⟩
  · simp only [Value.slice.injEq] at hv
    obtain ⟨rfl, -, rfl⟩ := hv
    refine ⟨fun h => (by cases h), fun ad h => ?_⟩
    cases h
    refine ⟨lt_of_heap hg, fun j u hu => ?_⟩
    rw [Addr.add_lit, cell_of_row w g (off + j) cur 21 (0, 0) hg]
    rw [← ht, List.getElem?_take] at hu
    split at hu
    · simpa [List.getElem?_drop] using hu
    · cases hu
theorem SrcAt.keep {w w' : World} {B m c : Nat} {a : Option Addr} {ys : List Nat} (h : SrcAt w B a m c ys) (hb : Below B w w') : SrcAt w' B a m c ys :=
  ⟨h.1, h.2.1, fun ad ha => ⟨(h.2.2 ad ha).1, fun j u hu => (hb.cell (p := ad.add j) (by simp only [Addr.add]; split <;> exact (h.2.2 ad ha).1)).trans ((h.2.2 ad ha).2 j u hu)⟩⟩
theorem SrcAt.mono {w : World} {B B' m c : Nat} {a : Option Addr} {ys : List Nat} (h : SrcAt w B a m c ys) (hb : B ≤ B') : SrcAt w B' a m c ys :=
  ⟨h.1, h.2.1, fun ad ha => ⟨Nat.lt_of_lt_of_le (h.2.2 ad ha).1 hb, (h.2.2 ad ha).2⟩⟩
theorem SrcAt.reads {w : World} {m c : Nat} {a : Option Addr} {ys : List Nat} (h : SrcAt w w.heap.size a m c ys) : Reads w a m (rs ys) := by
  obtain ⟨h1, h2, h3⟩ := h
  refine ⟨by simpa [rs] using h1, ?_⟩
  cases a with
  | none => exact .inl (h2 rfl).1
  | some ad =>
    by_cases hm : m = 0
    · exact .inl hm
    · obtain ⟨hlt, hc⟩ := h3 ad rfl
      obtain ⟨b, off, spot⟩ := ad
      have hx : (rs ys)[0]? = some (.int .i32 (ys[0]'(by omega) : Nat)) := by simp [rs, show 0 < ys.length by omega]
      have := hc 0 _ hx
      have hspot : spot = none := by simpa [Addr.add] using World.cell?_spot this
      subst hspot
      exact .inr ⟨b, off, rfl, hlt, fun j u hu => by have := hc j u hu; rwa [Addr.add_lit] at this⟩

theorem wpList_append_rs {ops : Array Oper} {rest : List Oper} {o : Oper} {a : Act} {Q : Exit → Act → World → Prop} (hgd : o.guard = none) (s x : Operand)
    (ho : o.op = .call { callee := .builtin .append, args := #[s, x], argTypes := #[32, 32] })
    (w : World) (B : Nat) (v : Value) (n : Nat) (xs : List Nat) (hs : a.eval s = v) (hown : Held w B 21 1 v n (rs xs))
    (sa : Option Addr) (m c : Nat) (ys : List Nat) (hx : a.eval x = .slice sa m c) (hsrc : SrcAt w B sa m c ys) (h63 : n + m ≤ 100000) (hbase : B ≤ w.heap.size)
    (h : ∀ a' cap' w', Held w' B 21 1 (.slice a' (n + m) cap') (n + m) (rs (xs ++ ys)) → Below B w w' → wpList Try.prog ops Q rest (a.put o.dst (.slice a' (n + m) cap')) w') : wpList Try.prog ops Q (o :: rest) a w := by
  obtain ⟨i0, hi0, hz0, hz1, hz2⟩ := info_parts info21
  refine wpList_append_src w hgd s x 32 ho B 21 i0 _ 1 4 Try.underlying32 hi0 hz0 hz1 hz2 rfl (by decide) v n (rs xs) hs hown sa m c (rs ys) hx (by simpa [rs] using hsrc.1) hsrc.2.1 (fun ad ha => (hsrc.2.2 ad ha).2) (rs_one ys) (by unfold maxLen; omega) (by omega) hbase ?_
  intro a' cap' w' h1 h2 h3
  rw [← rs_append] at h1
  exact h a' cap' w' h1 ⟨h2.os, h2.tape, h2.output, h2.size, fun k hk => h2.block k (by omega) (fun e => by have := (hown.lt k e.symm).1; omega)⟩

theorem mod_place (a : Int) (n : Nat) : ∃ i : Nat, i ≤ n ∧ -(n : Int) ≤ a.tmod ((n : Int) + 1) ∧ a.tmod ((n : Int) + 1) ≤ n ∧ (a.tmod ((n : Int) + 1) + n + 1).tmod ((n : Int) + 1) = i := by
  have h1 : a.tmod ((n : Int) + 1) < (n : Int) + 1 := Int.tmod_lt_of_pos _ (by omega)
  have h2 : -((n : Int) + 1) < a.tmod ((n : Int) + 1) := Int.lt_tmod_of_pos _ (by omega)
  have h3 : (a.tmod ((n : Int) + 1) + n + 1).tmod ((n : Int) + 1) < (n : Int) + 1 := Int.tmod_lt_of_pos _ (by omega)
  have h4 : 0 ≤ (a.tmod ((n : Int) + 1) + n + 1).tmod ((n : Int) + 1) := Int.tmod_nonneg _ (by omega)
  exact ⟨((a.tmod ((n : Int) + 1) + n + 1).tmod ((n : Int) + 1)).toNat, by omega, by omega, by omega, by omega⟩

theorem parted3 (l1 l2 l3 : List Nat) :
    all (l1 ++ l2 ++ l3) = (decode l1).1 ++ (decode ((decode l1).2 ++ l2)).1 ++ (decode ((decode ((decode l1).2 ++ l2)).2 ++ l3)).1 ++
      (if (decode ((decode ((decode l1).2 ++ l2)).2 ++ l3)).2 = [] then [] else [65533]) := by
  have h1 := decode_parted l1 (l2 ++ l3)
  have h2 := decode_parted ((decode l1).2 ++ l2) l3
  unfold all
  rw [List.append_assoc l1, h1, ← List.append_assoc (decode l1).2, h2]
  simp
end Ru
end Go.Proofs.Ytaagljkpihecpaa
