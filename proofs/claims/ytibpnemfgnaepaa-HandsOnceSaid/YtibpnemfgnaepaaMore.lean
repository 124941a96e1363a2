/- More contracts of package hands: New, Len, List. No condition beyond each theorem's own premises. -/
import Derived.Test.YtibpnemfgnaepaaTab
namespace Go.Proofs.Ytibpnemfgnaepaa
open Go.RowKit

def clampR (room : Int) : Nat := (min (max room 1) 12).toNat
theorem clampR_le (room : Int) : 1 ≤ clampR room ∧ clampR room ≤ 12 := by unfold clampR; omega

theorem tab_fresh (base : Nat) (w : World) (hb : base ≤ w.heap.size) (r : Int) (n : Nat) (hr : r = (n : Int)) :
    Tab (w.alloc (.cells #[.int .i64 r, .int .i64 0, .int .i64 0, .int .i64 0, .int .i64 0, .int .i64 0, .int .i64 0, .int .i64 0, .int .i64 0, .int .i64 0, .int .i64 0, .int .i64 0, .int .i64 0, .int .i64 0, .int .i64 0, .int .i64 0, .int .i64 0, .slice none 0 0] 57)) base w.heap.size ⟨n, fun _ => 0, []⟩ (.slice none 0 0) := by
  subst hr
  refine ⟨hb, by simp [Value.ownBlock], Held.nil _ _ _ _, _, heap_alloc_new w _, rfl, rfl, ?_, rfl⟩
  intro i hi
  match i, hi with
  | 0, _ => rfl
  | 1, _ => rfl
  | 2, _ => rfl
  | 3, _ => rfl
  | 4, _ => rfl
  | 5, _ => rfl
  | 6, _ => rfl
  | 7, _ => rfl
  | 8, _ => rfl
  | 9, _ => rfl
  | 10, _ => rfl
  | 11, _ => rfl
  | 12, _ => rfl
  | 13, _ => rfl
  | 14, _ => rfl
  | 15, _ => rfl
  | k + 16, h => exact absurd h (by omega)

theorem tab_new (base : Nat) (room : Int) (w : World) (hb : base ≤ w.heap.size) :
    Calls Try.prog 8 #[.int .i64 room] w fun e w' => e = .returned (.pointer (some ⟨w.heap.size, 0, none⟩)) ∧ Below w.heap.size w w' ∧ Tab w' base w.heap.size ⟨clampR room, fun _ => 0, []⟩ (.slice none 0 0) := by
  by_cases c1 : room < 1
  · have hr : (1 : Int) = (clampR room : Int) := by unfold clampR; omega
    have HR := Lib.hid hr
    clear hr
    go_enter Try.func8, Try.ntmps8
    go_wp2
    go_returns
    exact ⟨rfl, by go_grown, tab_fresh base w hb _ _ HR.out⟩
  · by_cases c2 : 12 < room
    · have hr : (12 : Int) = (clampR room : Int) := by unfold clampR; omega
      have HR := Lib.hid hr
      clear hr
      go_enter Try.func8, Try.ntmps8
      go_wp2
      go_returns
      exact ⟨rfl, by go_grown, tab_fresh base w hb _ _ HR.out⟩
    · have hr : room = (clampR room : Int) := by unfold clampR; omega
      have HR := Lib.hid hr
      clear hr
      go_enter Try.func8, Try.ntmps8
      go_wp2
      go_returns
      exact ⟨rfl, by go_grown, tab_fresh base w hb _ _ HR.out⟩

theorem tab_len (t base : Nat) (s : TS) (v : Value) (w : World) (h : Tab w base t s v) :
    Calls Try.prog 11 #[.pointer (some ⟨t, 0, none⟩)] w fun e w' => e = .returned (.int .i64 (s.row.length : Int)) ∧ w = w' := by
  obtain ⟨cs, hcs, hc⟩ := h.blk
  obtain ⟨a, cap, hv, _⟩ := h.held.shape
  have kl := cell_of_heap hcs 17 _ hc.row
  rw [hv] at kl
  generalize s.row.length = n at kl ⊢
  go_enter Try.func11, Try.ntmps11
  go_wp2
  go_returns
  exact ⟨rfl, rfl⟩

theorem flat_one (l : List (Int × Int)) : ∀ u ∈ flat l, u.oneCell' = true := by
  intro u hu
  simp only [flat, List.mem_flatMap, List.mem_cons, List.not_mem_nil, or_false] at hu
  obtain ⟨h, _, rfl | rfl⟩ := hu <;> rfl

/-- 'append([]Hand(nil), r.l...)'. -/
theorem all_any (t o n base : Nat) (v : Value) (xs : List Value) (w : World) (hc : w.cell? ⟨t, o, none⟩ = some v) (hh : Held w base 27 2 v n xs) (hn : n ≤ 1000000) (h1 : ∀ u ∈ xs, u.oneCell' = true) :
    Calls Try.prog 20 #[.pointer (some ⟨t, o, none⟩)] w fun e w' => ∃ vr, e = .returned vr ∧ w'.ownsRow w.heap.size 27 2 vr n xs ∧ Below w.heap.size w w' := by
  obtain ⟨i0, hi0, hz0, hz1, hz2⟩ := info_parts Try.info27
  obtain ⟨a, cap, hv, s1, s2, s3, s4, s5⟩ := hh.shape
  have hl := hh.1
  subst hv
  cases a with
  | none =>
    obtain ⟨rfl, rfl⟩ := s1 rfl
    obtain rfl : xs = [] := List.eq_nil_of_length_eq_zero (by simpa using hl)
    clear s1 s4 s5 hh
    go_enter Try.func20, Try.ntmps20
    go_wp2_with (at_builtin; refine wpList_append_own_none rfl _ _ 35 rfl w.heap.size 27 i0 2 Try.underlying35 hi0 _ 0 [] rfl (World.ownsRow_nil _ _ _ _) rfl ?_)
    go_returns
    exact ⟨_, rfl, World.ownsRow_nil _ _ _ _, Below.refl _ _⟩
  | some ad =>
    have HC := Lib.hid (s5 ad rfl)
    have H1 := Lib.hid h1
    clear s1 s4 s5 h1 hh
    go_enter Try.func20, Try.ntmps20
    go_wp2_with (at_builtin; refine wpList_append_own _ rfl _ _ 35 rfl w.heap.size 27 i0 _ 2 16 Try.underlying35 hi0 hz0 hz1 hz2 rfl (by decide) (.slice none 0 0) 0 [] rfl (World.ownsRow_nil _ _ _ _) ad n cap xs rfl hl HC.out H1.out (by unfold maxLen; omega) (by omega) (Nat.le_refl _) ?_)
    intro v' w' hown hgrow _
    go_wp2
    go_returns
    exact ⟨_, rfl, by simpa using hown, (Below.refl _ _).grown hgrow (Nat.le_refl _) (by simp [Value.ownBlock])⟩

theorem tab_list (t base : Nat) (s : TS) (v : Value) (w : World) (h : Tab w base t s v) (hn : s.row.length ≤ 1000000) :
    Calls Try.prog 13 #[.pointer (some ⟨t, 0, none⟩)] w fun e w' => ∃ vr, e = .returned vr ∧ w'.ownsRow w.heap.size 27 2 vr s.row.length (flat s.row) ∧ Below w.heap.size w w' := by
  obtain ⟨cs, hcs, hc⟩ := h.blk
  have kl := cell_of_heap hcs 17 _ hc.row
  have hh := h.held
  have h1 := flat_one s.row
  generalize flat s.row = xs at *
  generalize s.row.length = n at *
  clear hcs hc h
  have H1 := Lib.hid h1
  clear h1
  go_enter Try.func13, Try.ntmps13
  go_wp2_with fail
  refine (all_any t 17 n base v xs _ ?_ hh hn H1.out).mono ?_
  · exact kl
  rintro e w1 ⟨vr, rfl, h2, h3⟩
  go_wp2
  go_returns
  exact ⟨vr, rfl, h2, h3⟩
end Go.Proofs.Ytibpnemfgnaepaa
