/- A key's bytes, plainly, by the tables and by trying: no program here. No condition beyond each theorem's own premises. -/
import Derived.Test.YtfejfgajdjickaaDoorPlain
import Derived.Lib.Replace
import Derived.Lib.IndexBytes
import Derived.Lib.IndexLaws
import Derived.Lib.CountLaws
namespace Go.Proofs.YtfejfgajdjickaaDoor
namespace Keys
def textBytes (l : List UInt8) : List UInt8 := l.flatMap fun b => if b = 2 then [2, 2] else [b]
theorem text_free (l : List UInt8) (h : ∀ k : Nat, l[k]? ≠ some (2 : UInt8)) : textBytes l = l := by
  induction l with
  | nil => rfl
  | cons b l ih =>
    have hb : b ≠ 2 := fun e => h 0 (by simp [e])
    have := ih (fun k hk => h (k + 1) (by simpa using hk))
    simp [textBytes, hb] at this ⊢
    exact this
theorem replace_text (n : Nat) : ∀ l : List UInt8, l.length ≤ n → Lib.replaceK [2] [2, 2] (Lib.count l [2]) l = textBytes l := by
  induction n with
  | zero =>
    intro l hl
    obtain rfl : l = [] := List.eq_nil_of_length_eq_zero (by omega)
    rfl
  | succ n ih =>
    intro l hl
    have hge := Lib.indexByte_ge l 2
    by_cases hm : Lib.indexByte l 2 = -1
    · rw [Lib.count_miss (by rw [Lib.index_one]; exact hm), Lib.replaceK, text_free l (Lib.indexByte_none hm)]
    · obtain ⟨i, hi⟩ : ∃ i : Nat, Lib.indexByte l 2 = i := ⟨(Lib.indexByte l 2).toNat, by omega⟩
      obtain ⟨h1, h2⟩ := Lib.indexByte_some hi
      have hx : Lib.index l [2] = i := by rw [Lib.index_one]; exact hi
      have hlt : i < l.length := by
        have := (List.getElem?_eq_some_iff.1 h1).1
        exact this
      rw [Lib.count_hit (by simp) hx, Nat.add_comm, Lib.replaceK_hit _ _ _ _ i hx]
      have e : ([2] : List UInt8).length = 1 := rfl
      rw [e, ih (l.drop (i + 1)) (by simp; omega)]
      have hsplit : l = l.take i ++ 2 :: l.drop (i + 1) := by
        conv => lhs; rw [← List.take_append_drop i l, List.drop_eq_getElem_cons hlt]
        have : l[i] = 2 := by
          have := List.getElem?_eq_getElem hlt
          rw [h1] at this
          simpa using this.symm
        rw [this]
      have hfree : textBytes (l.take i) = l.take i := text_free _ (fun k hk => by
        rw [List.getElem?_take] at hk
        split at hk
        · exact h2 k (by omega) hk
        · cases hk)
      conv => rhs; rw [hsplit]
      unfold textBytes at hfree ⊢
      rw [List.flatMap_append, hfree]
      simp
theorem replaceAll_text (l : List UInt8) : Lib.replaceAll l [2] [2, 2] = textBytes l := by
  unfold Lib.replaceAll Lib.replace
  rw [if_neg (by decide)]
  have : Lib.replaceNum l [2] (-1) = Lib.count l [2] := by unfold Lib.replaceNum; rw [if_pos (by omega)]
  rw [this, replace_text l.length l (Nat.le_refl _)]

/-- By the tables. -/
def keyBytes (m : Int × Int) : List UInt8 :=
  match behindM.idxOf? m with
  | some i => [2, behind.getD i 0]
  | none => match copiedM.idxOf? m with
    | some i => [copied.getD i 0]
    | none => []
/-- Maps. -/
def look (tab : List (Int × Int)) (b : Int) : Int := ((tab.find? (·.1 == b)).map (·.2)).getD 0
def kindsT : List (Int × Int) := [(37, 2), (34, 3), (111, 4), (120, 5), (99, 6), (110, 7), (112, 8), (100, 13), (91, 14)]
def movesT : List (Int × Int) := [(104, 1), (108, 2), (107, 3), (106, 4)]
def scrollsT : List (Int × Int) := [(107, 1), (106, -1), (117, 10), (100, -10), (103, 1000), (71, -1000)]
def cmd (b : Int) : K :=
  if 0 < look kindsT b then ⟨look kindsT b, 0, []⟩ else if 0 < look movesT b then ⟨10, look movesT b, []⟩
  else if 49 ≤ b ∧ b ≤ 57 then ⟨9, b - 48, []⟩ else if b = 2 then ⟨1, 0, [2]⟩ else ⟨0, 0, []⟩
def cop (b : Int) : K := if look scrollsT b ≠ 0 then ⟨11, look scrollsT b, []⟩ else if b = 113 then ⟨12, 0, []⟩ else ⟨0, 0, []⟩
/-- By trying. -/
def hit (m : Int × Int) (b : Nat) : Option (List UInt8) :=
  if (cmd b).kind ≠ 1 ∧ (cmd b).kind ≠ 0 ∧ (cmd b).kind = m.1 ∧ (cmd b).n = m.2 then some [2, UInt8.ofNat b]
  else if (cop b).kind ≠ 0 ∧ (cop b).kind = m.1 ∧ (cop b).n = m.2 then some [UInt8.ofNat b] else none
def refBytes (m : Int × Int) : List UInt8 := ((List.range 256).findSome? (hit m)).getD []
theorem ref_hit (m : Int × Int) (k : Nat) (r : List UInt8) (hk : k < 256) (h : hit m k = some r) (hn : ∀ j, j < k → hit m j = none) : refBytes m = r := by
  unfold refBytes
  rw [show List.range 256 = List.range k ++ (k :: (List.range 256).drop (k + 1)) by
    have h1 : (List.range 256).take k = List.range k := by rw [List.take_range]; congr 1; omega
    have h2 : k < (List.range 256).length := by simpa using hk
    conv => lhs; rw [← List.take_append_drop k (List.range 256), h1, List.drop_eq_getElem_cons h2]
    simp]
  rw [List.findSome?_append, List.findSome?_eq_none_iff.2 (by intro j hj; exact hn j (by simpa using hj))]
  simp [h]
theorem ref_none (m : Int × Int) (hn : ∀ j, j < 256 → hit m j = none) : refBytes m = [] := by
  unfold refBytes
  rw [List.findSome?_eq_none_iff.2 (by intro j hj; exact hn j (by simpa using hj))]
  rfl
theorem key_hit (m : Int × Int) (k : Nat) (h : behindM[k]? = some m) (hn : ∀ j, j < k → behindM[j]? ≠ some m) : keyBytes m = [2, behind.getD k 0] := by
  have e : behindM.idxOf? m = some k := by
    unfold List.idxOf?
    rw [List.findIdx?_eq_some_iff_getElem]
    obtain ⟨h1, h2⟩ := List.getElem?_eq_some_iff.1 h
    refine ⟨h1, by simp [h2], fun j hj => ?_⟩
    have hj' : j < behindM.length := by omega
    have := hn j hj
    rw [List.getElem?_eq_getElem hj'] at this
    simpa using this
  unfold keyBytes
  rw [e]
theorem key_hit2 (m : Int × Int) (k : Nat) (h : copiedM[k]? = some m) (hn : ∀ j, j < k → copiedM[j]? ≠ some m) (hb : ∀ j, j < 22 → behindM[j]? ≠ some m) : keyBytes m = [copied.getD k 0] := by
  have e0 : behindM.idxOf? m = none := by
    unfold List.idxOf?
    rw [List.findIdx?_eq_none_iff]
    intro x hx
    obtain ⟨j, hj⟩ := List.getElem?_of_mem hx
    have h1 := hb j (by have := (List.getElem?_eq_some_iff.1 hj).1; exact this)
    rw [hj] at h1
    simpa using h1
  have e : copiedM.idxOf? m = some k := by
    unfold List.idxOf?
    rw [List.findIdx?_eq_some_iff_getElem]
    obtain ⟨h1, h2⟩ := List.getElem?_eq_some_iff.1 h
    refine ⟨h1, by simp [h2], fun j hj => ?_⟩
    have hj' : j < copiedM.length := by omega
    have := hn j hj
    rw [List.getElem?_eq_getElem hj'] at this
    simpa using this
  unfold keyBytes
  rw [e0]
  simp only [e]
theorem key_none (m : Int × Int) (hb : ∀ j, j < 22 → behindM[j]? ≠ some m) (hc : ∀ j, j < 7 → copiedM[j]? ≠ some m) : keyBytes m = [] := by
  have e0 : behindM.idxOf? m = none := by
    unfold List.idxOf?
    rw [List.findIdx?_eq_none_iff]
    intro x hx
    obtain ⟨j, hj⟩ := List.getElem?_of_mem hx
    have h1 := hb j (by have := (List.getElem?_eq_some_iff.1 hj).1; exact this)
    rw [hj] at h1
    simpa using h1
  have e1 : copiedM.idxOf? m = none := by
    unfold List.idxOf?
    rw [List.findIdx?_eq_none_iff]
    intro x hx
    obtain ⟨j, hj⟩ := List.getElem?_of_mem hx
    have h1 := hc j (by have := (List.getElem?_eq_some_iff.1 hj).1; exact this)
    rw [hj] at h1
    simpa using h1
  unfold keyBytes
  rw [e0]
  simp only [e1]
theorem cmd_in : ∀ b : Fin 256, (cmd b.1).kind = 0 ∨ (cmd b.1).kind = 1 ∨ ((cmd b.1).kind, (cmd b.1).n) ∈ behindM := by decide +kernel
theorem cop_in : ∀ b : Fin 256, (cop b.1).kind = 0 ∨ ((cop b.1).kind, (cop b.1).n) ∈ copiedM := by decide +kernel
theorem both : ∀ m ∈ behindM ++ copiedM, refBytes m = keyBytes m := by decide +kernel
/-- P13.2. -/
theorem same_bytes (m : Int × Int) : refBytes m = keyBytes m := by
  by_cases hm : m ∈ behindM ++ copiedM
  · exact both m hm
  · rw [List.mem_append, not_or] at hm
    rw [ref_none m, key_none m]
    · intro j _ e; exact hm.1 (List.mem_of_getElem? e)
    · intro j _ e; exact hm.2 (List.mem_of_getElem? e)
    · intro j hj
      unfold hit
      rw [if_neg, if_neg]
      · rintro ⟨h1, h2, h3⟩
        rcases cop_in ⟨j, hj⟩ with h | h
        · exact h1 h
        · exact hm.2 (by rw [h2, h3] at h; exact h)
      · rintro ⟨h0, h1, h2, h3⟩
        rcases cmd_in ⟨j, hj⟩ with h | h | h
        · exact h1 h
        · exact h0 h
        · exact hm.1 (by rw [h2, h3] at h; exact h)
end Keys
end Go.Proofs.YtfejfgajdjickaaDoor
