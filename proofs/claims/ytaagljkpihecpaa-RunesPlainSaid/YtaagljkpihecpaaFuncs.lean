/- Same, short, few, Decode. No condition beyond each theorem's own premises. -/
import Derived.Test.YtaagljkpihecpaaDecode
import Derived.Test.YtaagljkpihecpaaPlain2
namespace Go.Proofs.Ytaagljkpihecpaa
open Go.RowKit
namespace Ru

/-- A slice that reads ys. -/
def Reads (w : World) (a : Option Addr) (n : Nat) (ys : List Value) : Prop :=
  ys.length = n ∧ (n = 0 ∨ ∃ b off, a = some ⟨b, off, none⟩ ∧ b < w.heap.size ∧ ∀ j u, ys[j]? = some u → w.cell? ⟨b, off + j, none⟩ = some u)

theorem Reads.of {w : World} {base n c : Nat} {e : TypeId} {a : Option Addr} {xs : List Value} (h : Held w base e 1 (.slice a n c) n xs) : Reads w a n xs := by
  refine ⟨by simpa using h.1, ?_⟩
  by_cases hn : n = 0
  · exact .inl hn
  · obtain ⟨g, off, cap, hv, -, hlt, -, -, hc⟩ := h.form (by omega)
    simp only [Value.slice.injEq] at hv
    exact .inr ⟨g, off, hv.1, hlt, hc⟩
theorem Reads.keep {w w' : World} {a : Option Addr} {n : Nat} {ys : List Value} (h : Reads w a n ys) (hb : Below w.heap.size w w') : Reads w' a n ys := by
  refine ⟨h.1, ?_⟩
  rcases h.2 with h2 | ⟨b, off, ha, hlt, hc⟩
  · exact .inl h2
  · exact .inr ⟨b, off, ha, Nat.lt_of_lt_of_le hlt hb.size, fun j u hu => (hb.cell (p := ⟨b, off + j, none⟩) hlt).trans (hc j u hu)⟩

set_option maxRecDepth 100000 in
theorem same_any (a1 a2 : Option Addr) (n c1 c2 : Nat) (xs : List Nat) (w : World) (h1 : Reads w a1 n (rs xs)) (h2 : Reads w a2 n (rs xs)) (hn : n ≤ 1000000) :
    Calls Try.prog 13 #[.slice a1 n c1, .slice a2 n c2] w fun e w' => e = .returned (.bool true) ∧ ∃ q, w' = w.drewN q := by
  have hl : xs.length = n := by simpa [rs] using h1.1
  have e0 : ((n : Int) != (n : Int)) = false := by simp
  by_cases h0 : n = 0
  · subst h0
    go_enter Try.func13, Try.ntmps13
    go_wp2_with fail
    go_loopw [5] (fun iv wr => iv = .int .i64 0 ∧ wr = w) (fun _ _ => 0)
    case atStart => exact ⟨rfl, rfl⟩
    case round =>
      obtain ⟨rfl, rfl⟩ := hrel
      go_wp2_with fail
      go_returns
      exact ⟨rfl, 0, rfl⟩
  · obtain ⟨b1, o1, rfl, -, k1⟩ := h1.2.resolve_left h0
    obtain ⟨b2, o2, rfl, -, k2⟩ := h2.2.resolve_left h0
    have K1 := Lib.hid k1
    have K2 := Lib.hid k2
    clear k1 k2 h1 h2
    go_enter Try.func13, Try.ntmps13
    go_wp2_with fail
    go_loopw [5] (fun iv wr => ∃ i : Nat, i ≤ n ∧ iv = .int .i64 i ∧ ∃ q, wr = w.drewN q) (fun iv _ => n - (intOf iv).toNat)
    case atStart => exact ⟨0, Nat.zero_le _, rfl, 0, rfl⟩
    case round =>
      obtain ⟨i, hi, rfl, q, rfl⟩ := hrel
      by_cases hlt : i < n
      · have hx : (rs xs)[i]? = some (.int .i32 (xs[i]'(by omega) : Nat)) := by simp [rs, show i < xs.length by omega]
        have c1 := K1.out i _ hx
        have c2 := K2.out i _ hx
        have i0 : (0 : Int) ≤ (i : Int) := by omega
        have i1 : (i : Int) < (n : Int) := by omega
        generalize xs[i]'(by omega) = x at c1 c2
        clear hx
        go_wp2_with fail
        go_quiet (fail)
        go_wp2_with fail
        go_roundw
        case rel => exact ⟨i + 1, by omega, by go_num, _, by first | rfl | (rw [World.drewN_drewN])⟩
        case measure => simp [intOf]; omega
      · go_wp2_with fail
        go_returns
        exact ⟨rfl, _, rfl⟩

def cut (s : ByteArray) (n : Nat) : ByteArray := if n < s.size then s.extract 0 n else s
theorem short_any (s : ByteArray) (n : Nat) (w : World) (hn : n ≤ 1000) :
    Calls Try.prog 10 #[.string s, .int .i64 (n : Int)] w fun e w' => e = .returned (.string (cut s n)) ∧ w = w' := by
  by_cases c : n < s.size
  · have hc : cut s n = s.extract 0 n := by simp [cut, c]
    have HC := Lib.hid hc
    have c1 : (n : Int) < (s.size : Int) := by omega
    have n0 : (0 : Int) ≤ (n : Int) := by omega
    have n1 : (n : Int) ≤ (s.size : Int) := by omega
    clear hc
    go_enter Try.func10, Try.ntmps10
    go_wp2
    go_returns
    exact ⟨by rw [HC.out]; rfl, rfl⟩
  · have hc : cut s n = s := by simp [cut, c]
    have HC := Lib.hid hc
    have c1 : ¬ (n : Int) < (s.size : Int) := by omega
    clear hc
    go_enter Try.func10, Try.ntmps10
    go_wp2
    go_returns
    exact ⟨by rw [HC.out]; rfl, rfl⟩
theorem cut_size (s : ByteArray) (n : Nat) : (cut s n).size ≤ n := by
  unfold cut; split
  · simp; omega
  · omega

theorem decodeAll_any (s : ByteArray) (w : World) (hm : s.size ≤ 10000) :
    Calls Try.prog 16 #[.string s] w fun e w' => ∃ (a : Option Addr) (c : Nat), e = .returned (.slice a (all (nb s)).length c) ∧
      Held w' w.heap.size 21 1 (.slice a (all (nb s)).length c) (all (nb s)).length (rs (all (nb s))) ∧ Below w.heap.size w w' := by
  obtain ⟨i0, hi0, hz0, hz1, hz2⟩ := info_parts info21
  have hlen := decode_len (nb s).length (nb s) (Nat.le_refl _)
  rw [nb_length] at hlen
  go_enter Try.func16, Try.ntmps16
  go_wp2_with fail
  refine (decode_any s w (by omega)).mono ?_
  obtain ⟨ds, hds⟩ : ∃ ds, ds = (decode (nb s)).1 := ⟨_, rfl⟩
  have hall : all (nb s) = ds ++ if (decode (nb s)).2 = [] then [] else [65533] := by rw [hds]; rfl
  rw [← hds] at hlen ⊢
  rintro e w1 ⟨a, c, k, rfl, hk, hheld, hb⟩
  by_cases hk0 : k.size = 0
  · have hkn : nb k = [] := nb_eq_nil.2 hk0
    rw [← hk, hkn] at hall
    simp only [if_true, List.append_nil] at hall
    have HA := Lib.hid hall
    have hke : (!k.toList.isEmpty) = false := by
      rw [ByteArray.toList_eq]
      have : k.data.toList = [] := List.eq_nil_of_length_eq_zero (by simpa using hk0)
      rw [this]; rfl
    have hke2 : k.toList.isEmpty = true := by simpa using hke
    clear hall hk hkn hk0 hds
    go_wp2_with fail
    go_returns
    rw [HA.out]
    exact ⟨a, c, rfl, hheld, hb⟩
  · have hkn : nb k ≠ [] := fun h => hk0 (nb_eq_nil.1 h)
    rw [← hk, if_neg hkn] at hall
    have HA := Lib.hid hall
    have hke2 : k.toList.isEmpty = false := by
      rw [ByteArray.toList_eq]
      cases hc : k.data.toList with
      | nil => exact absurd (by simpa using congrArg List.length hc) hk0
      | cons x r => rfl
    have hke : (!k.toList.isEmpty) = true := by simp [hke2]
    clear hall hk hkn hk0 hds
    go_wp2_with (at_builtin; refine wpList_append_held _ rfl _ _ 32 rfl w.heap.size 21 i0 _ 1 4 Try.underlying32 hi0 hz0 hz1 hz2 rfl (by decide) (.slice a ds.length c) ds.length (rs ds) rfl (hheld.alloc _) ⟨w1.heap.size, 0, none⟩ 1 1 [.int .i32 65533] rfl rfl (World.news_of_block (cs := #[.int .i32 65533]) (t := 21) (fr := (0, 0)) (new_at (by simp))) (by simp [Value.oneCell']) (by omega) (by unfold maxLen; omega) (by omega) (by have := hb.size; simp; omega) ?_)
    intro g off cap w2 hown hgrow hat hlt
    go_wp2_with fail
    go_returns
    rw [HA.out]
    exact ⟨some ⟨g, off, none⟩, cap, by simp, by simpa [rs_snoc] using hown, (hb.alloc hb.size _).grown hgrow (by have := hb.size; simp; omega) (fun k hk => (hheld.lt k hk).1)⟩
end Ru
end Go.Proofs.Ytaagljkpihecpaa
