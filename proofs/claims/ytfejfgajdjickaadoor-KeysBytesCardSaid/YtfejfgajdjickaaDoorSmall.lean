/- short, awake. No condition beyond each theorem's own premises. -/
import Derived.Test.YtfejfgajdjickaaDoorFeed
import Derived.Laws.StructEq
namespace Go.Proofs.YtfejfgajdjickaaDoor
open Go.RowKit
namespace Keys
/-- A slice of keys. -/
def KR (w : World) (a : Option Addr) (n : Nat) (l : List K) : Prop :=
  l.length = n ∧ (n = 0 ∨ ∃ b off, a = some ⟨b, off, none⟩ ∧ b < w.heap.size ∧ ∀ j u, (kcs l)[j]? = some u → w.cell? ⟨b, off + j, none⟩ = some u)
theorem KR.keep {w w' : World} {a : Option Addr} {n : Nat} {l : List K} (h : KR w a n l) (hb : Below w.heap.size w w') : KR w' a n l := by
  refine ⟨h.1, ?_⟩
  rcases h.2 with h2 | ⟨b, off, ha, hlt, hc⟩
  · exact .inl h2
  · exact .inr ⟨b, off, ha, Nat.lt_of_lt_of_le hlt hb.size, fun j u hu => (hb.cell (p := ⟨b, off + j, none⟩) hlt).trans (hc j u hu)⟩
theorem KR.of_held {w : World} {base n c : Nat} {a : Option Addr} {l : List K} (h : Held w base 23 3 (.slice a n c) n (kcs l)) : KR w a n l := by
  have hl : l.length = n := by have := h.1; rw [kcs_length] at this; omega
  refine ⟨hl, ?_⟩
  by_cases h0 : n = 0
  · exact .inl h0
  · obtain ⟨g, off, cap, e, _, hg, _, _, hc⟩ := h.form (by omega)
    simp at e
    exact .inr ⟨g, off, e.1, hg, hc⟩
theorem kcs_get (l : List K) (i k : Nat) (hi : i < l.length) (hk : k < 3) : (kcs l)[i * 3 + k]? = l[i].list[k]? := by
  induction l generalizing i with
  | nil => simp at hi
  | cons a l ih =>
    have e : kcs (a :: l) = a.list ++ kcs l := by simp [kcs]
    have hl : a.list.length = 3 := rfl
    cases i with
    | zero => rw [e, List.getElem?_append_left (by omega)]; simp
    | succ i =>
      rw [e, List.getElem?_append_right (by omega), hl, show (i + 1) * 3 + k - 3 = i * 3 + k by omega]
      exact ih i (by simpa using hi)
/-- A key among others, as it lies. -/
theorem KR.cells {w : World} {a : Option Addr} {n : Nat} {l : List K} (h : KR w a n l) {i : Nat} (hi : i < n) : ∃ b off, a = some ⟨b, off, none⟩ ∧ b < w.heap.size ∧ ∀ (A : K), l[i]? = some A →
    w.cell? ⟨b, off + i * 3, none⟩ = some (.int .i64 A.kind) ∧ w.cell? ⟨b, off + i * 3 + 1, none⟩ = some (.int .i64 A.n) ∧ w.cell? ⟨b, off + i * 3 + 2, none⟩ = some (.string (sb A.s)) := by
  obtain ⟨b, off, e, hlt, hc⟩ := h.2.resolve_left (by omega)
  have hl : i < l.length := by rw [h.1]; exact hi
  refine ⟨b, off, e, hlt, fun A hA => ?_⟩
  rw [List.getElem?_eq_getElem hl] at hA
  simp at hA
  have g : ∀ k u, k < 3 → A.list[k]? = some u → w.cell? ⟨b, off + (i * 3 + k), none⟩ = some u := fun k u hk hu => hc _ u (by rw [kcs_get l i k hl hk, hA]; exact hu)
  refine ⟨g 0 _ (by decide) rfl, ?_, ?_⟩
  · rw [Nat.add_assoc]; exact g 1 _ (by decide) rfl
  · rw [Nat.add_assoc]; exact g 2 _ (by decide) rfl

set_option maxHeartbeats 2000000 in
set_option maxRecDepth 100000 in
theorem awake_any (w : World) : Calls Tryd.prog 4 #[] w fun e w' => e = .returned (.bool true) ∧ Below w.heap.size w w' := by
  have hR : RAt (w.alloc (.cells #[.bool false, .bool false] 30)) w.heap.size false false := new_at rfl
  have hf := feed_any w.heap.size false false ⟨#[97, 2, 37, 98]⟩ _ hR (by decide)
  obtain ⟨F, hF⟩ : ∃ F, F = feed false false (⟨#[97, 2, 37, 98]⟩ : ByteArray).data.toList := ⟨_, rfl⟩
  have hF3 : F.ks = [⟨1, 0, [97]⟩, ⟨2, 0, []⟩, ⟨1, 0, [98]⟩] := by rw [hF]; decide
  rw [← hF] at hf
  have HFD := Lib.hid hf
  have HF3 := Lib.hid hF3
  clear hR hf hF hF3
  go_enter Tryd.func4, Tryd.ntmps4
  go_wp2_with fail
  refine HFD.out.mono ?_
  rintro e w1 ⟨a, c, rfl, hh, ho, -⟩
  have hbel : Below w.heap.size w w1 := ((Below.refl _ _).alloc (Nat.le_refl _) _).trans (ho.below (by simp) (by simp))
  have hK := KR.of_held hh
  rw [HF3.out] at hK
  simp only [List.length_cons, List.length_nil] at hK
  obtain ⟨b, off, ea, hb, hc⟩ := hK.cells (i := 0) (by decide)
  obtain ⟨b', off', ea', -, hc'⟩ := hK.cells (i := 1) (by decide)
  obtain ⟨b'', off'', ea'', -, hc''⟩ := hK.cells (i := 2) (by decide)
  subst ea
  simp at ea' ea''
  obtain ⟨rfl, rfl⟩ := ea'
  obtain ⟨rfl, rfl⟩ := ea''
  obtain ⟨x0, -, x2⟩ := hc _ rfl
  obtain ⟨y0, -, y2⟩ := hc' _ rfl
  obtain ⟨z0, -, z2⟩ := hc'' _ rfl
  simp only [Nat.zero_mul, Nat.add_zero, Nat.one_mul] at x0 x2 y0 y2 z0 z2
  have HB := Lib.hid hbel
  have hl : F.ks.length = 3 := by rw [HF3.out]; rfl
  rw [hl]
  clear hh ho hK hc hc' hc'' HFD hbel hl
  have t1 : (sb [97]).toList = [97] := by kernel_rfl
  have t2 : (sb [98]).toList = [98] := by kernel_rfl
  go_wp2_with fail
  go_returns
  exact ⟨rfl, HB.out⟩
def cut (s : ByteArray) (n : Nat) : ByteArray := if n < s.size then s.extract 0 n else s
theorem short_any (s : ByteArray) (n : Nat) (w : World) (hn : n ≤ 1000) :
    Calls Tryd.prog 5 #[.string s, .int .i64 (n : Int)] w fun e w' => e = .returned (.string (cut s n)) ∧ w = w' := by
  by_cases c : n < s.size
  · have hc : cut s n = s.extract 0 n := by simp [cut, c]
    have HC := Lib.hid hc
    have c1 : (n : Int) < (s.size : Int) := by omega
    have n0 : (0 : Int) ≤ (n : Int) := by omega
    have n1 : (n : Int) ≤ (s.size : Int) := by omega
    clear hc
    go_enter Tryd.func5, Tryd.ntmps5
    go_wp2
    go_returns
    exact ⟨by rw [HC.out]; rfl, rfl⟩
  · have hc : cut s n = s := by simp [cut, c]
    have HC := Lib.hid hc
    have c1 : ¬ (n : Int) < (s.size : Int) := by omega
    clear hc
    go_enter Tryd.func5, Tryd.ntmps5
    go_wp2
    go_returns
    exact ⟨by rw [HC.out]; rfl, rfl⟩
theorem cut_size (s : ByteArray) (n : Nat) : (cut s n).size ≤ n := by
  unfold cut; split
  · simp; omega
  · omega
end Keys
end Go.Proofs.YtfejfgajdjickaaDoor
