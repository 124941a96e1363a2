/- A parser is fed. No condition beyond each theorem's own premises. -/
import Derived.Test.YtgbpmefiafoliaaStepW
namespace Go.Proofs.Ytgbpmefiafoliaa
open Go.RowKit
namespace Esc
theorem info30 : (Try.prog.info? 30).map (fun i => (i.zero, i.size, i.bytes)) = some (some (.agg AC.zero.cells), 13, 88) := by kernel_rfl
theorem info21 : (Try.prog.info? 21).map (fun i => (i.zero, i.size, i.bytes)) = some (some (.int .i32 0), 1, 4) := by kernel_rfl
/-- The cells of characters. -/
def is (l : List Int) : List Value := l.map fun r : Int => .int .i32 r
theorem is_length (l : List Int) : (is l).length = l.length := by simp [is]
/-- The cells of acts. -/
def flat (l : List AC) : List Value := l.flatMap AC.list
theorem flat_append (a b : List AC) : flat (a ++ b) = flat a ++ flat b := by simp [flat]
theorem flat_one (a : AC) : flat [a] = a.list := by simp [flat]
theorem AC.lit (a : AC) : a.cells = #[.int .i64 a.kind, .int .i32 a.r, .int .u8 a.priv, .int .u8 a.mid, .int .i64 a.n, .int .i64 (a.x 0), .int .i64 (a.x 1), .int .i64 (a.x 2), .int .i64 (a.x 3), .int .i64 (a.x 4), .int .i64 (a.x 5), .int .i64 (a.x 6), .int .i64 (a.x 7)] := rfl
theorem AC.list_one (a : AC) : ∀ u ∈ a.list, u.oneCell' = true := by
  intro u hu
  simp [AC.list] at hu
  rcases hu with rfl | rfl | rfl | rfl | rfl | rfl | rfl | rfl | rfl | rfl | rfl | rfl | rfl <;> rfl
/-- A slice that reads ys, in another block than p. -/
def Rd (w : World) (p : Nat) (a : Option Addr) (n : Nat) (ys : List Value) : Prop :=
  ys.length = n ∧ (n = 0 ∨ ∃ b off, a = some ⟨b, off, none⟩ ∧ b < w.heap.size ∧ b ≠ p ∧ ∀ j u, ys[j]? = some u → w.cell? ⟨b, off + j, none⟩ = some u)
theorem Rd.only {w w' : World} {p : Nat} {a : Option Addr} {n : Nat} {ys : List Value} (h : Rd w p a n ys) (ho : Only [p] w w') : Rd w' p a n ys := by
  refine ⟨h.1, ?_⟩
  rcases h.2 with h2 | ⟨b, off, ha, hlt, hne, hc⟩
  · exact .inl h2
  · exact .inr ⟨b, off, ha, Nat.lt_of_lt_of_le hlt ho.size, hne, fun j u hu => (World.cell?_of_block (ho.block b hlt (by simpa using hne))).trans (hc j u hu)⟩
theorem Rd.cell {w : World} {p : Nat} {a : Option Addr} {n : Nat} {ys : List Value} (h : Rd w p a n ys) {i : Nat} (hi : i < n) : ∃ b off, a = some ⟨b, off, none⟩ ∧ ∀ u, ys[i]? = some u → w.cell? ⟨b, off + i, none⟩ = some u := by
  obtain ⟨b, off, e, -, -, hc⟩ := h.2.resolve_left (by omega)
  exact ⟨b, off, e, hc i⟩

/-- What feeding says. -/
def Fed (p : Nat) (x : PS × List AC) (w : World) (e : Ending) (w' : World) : Prop :=
  ∃ (a : Option Addr) (c : Nat), e = .returned (.slice a x.2.length c) ∧ Held w' w.heap.size 30 13 (.slice a x.2.length c) x.2.length (flat x.2) ∧ Only [p] w w' ∧ PAt w' p x.1

set_option maxRecDepth 100000 in
set_option maxHeartbeats 2000000 in
theorem feed_any (p : Nat) (s : PS) (a : Option Addr) (n c : Nat) (xs : List Int) (w : World) (hP : PAt w p s) (hok : s.Ok) (hr : Rd w p a n (is xs)) (hn : n ≤ 1000) :
    Calls Try.prog 11 #[.pointer (some ⟨p, 0, none⟩), .slice a n c] w (Fed p (feed s xs) w) := by
  obtain ⟨i0, hi0, hz0, hz1, hz2⟩ := info_parts info30
  have hl : xs.length = n := by simpa [is] using hr.1
  have hpw := hP.lt
  go_enter Try.func11, Try.ntmps11
  go_wp2_with fail
  go_loopw [5, 12] (fun lv iv wr => ∃ (i : Nat) (b : Option Addr) (cc : Nat) (t : PS) (l : List AC), i ≤ n ∧ iv = .int .i64 (i : Int) ∧ Hid (feed s (xs.take i) = (t, l)) ∧ lv = .slice b l.length cc ∧ l.length ≤ i ∧
      t.Ok ∧ PAt wr p t ∧ Held wr w.heap.size 30 13 (.slice b l.length cc) l.length (flat l) ∧ Only [p] w wr) (fun _ iv _ => n - (intOf iv).toNat)
  case atStart => exact ⟨0, none, 0, s, [], Nat.zero_le _, rfl, Lib.hid rfl, rfl, Nat.le_refl _, hok, hP, Held.nil _ _ _ _, Only.refl _ _⟩
  case round =>
    obtain ⟨i, b, cc, t, l, hi, rfl, HF, rfl, hli, htok, hPt, hheld, ho⟩ := hrel
    have z := ho.size
    by_cases hlt : i < n
    · obtain ⟨g, off, rfl, hcell⟩ := (hr.only ho).cell hlt
      obtain ⟨x, hx⟩ : ∃ x, x = xs[i]'(by omega) := ⟨_, rfl⟩
      have c1 := hcell (.int .i32 x) (by simp [is, show i < xs.length by omega, hx])
      obtain ⟨t', A, B, hst⟩ : ∃ t' A B, step t x = (t', A, B) := ⟨_, _, _, rfl⟩
      have hfs : feed s (xs.take (i + 1)) = (t', l ++ if B then [A] else []) := by
        rw [List.take_succ_eq_append_getElem (by omega), ← hx, feed_snoc, HF.out]
        simp only [hst]
      have htok' : t'.Ok := by have := (step_ok t x htok).1; rwa [hst] at this
      have HF2 := Lib.hid hfs
      have HL := Lib.hid hl
      have i0' : (0 : Int) ≤ (i : Int) := by omega
      have i1 : (i : Int) < (n : Int) := by omega
      have hstep := step_any p t x wr hPt htok
      rw [hst] at hstep
      have HS := Lib.hid hstep
      clear hstep hst hfs hx hl hcell HF
      go_wp2_with fail
      refine HS.out.mono ?_
      rintro e w1 ⟨rfl, ho1, hP1⟩
      dsimp only at hP1 ⊢
      have ho1' : Only [p] w w1 := ho.trans ho1
      have z1 := ho1'.size
      have hh1 := hheld.only ho1 (by intro k hk; have := (hheld.lt k hk).1; simp; omega)
      have HP1 := Lib.hid hP1
      have HO1 := Lib.hid ho1'
      clear HS hheld ho1 hPt hP1 ho1' ho
      cases B with
      | false =>
        go_wp2_with (refine wpList_store_abs (by rfl) 30 (.tmp 8) (.tmp 20) (by rfl) w1.heap.size A.cells (by rfl) (by rfl) 30 AC.zero.cells (heap_alloc_new _ _) size30 (by rfl) (AC.one _) ?_; intro w2 ho2 hsz2 hg2)
        have hP2 : PAt w2 p t' := (ho2.block p (by simp; omega) (by simp; omega)).trans (hk_alloc HP1.out.lt HP1.out)
        have ho3 : Only [p] w w2 := (HO1.out.alloc _).and ho2 (fun k hk => .inr (by simp at hk; omega))
        have hh2 : Held w2 w.heap.size 30 13 (.slice b l.length cc) l.length (flat l) := (hh1.alloc _).only ho2 (by intro k hk; have := (hh1.lt k hk).2; simp; omega)
        have z2 := ho3.size
        have HP2 := Lib.hid hP2
        have HO3 := Lib.hid ho3
        clear HP1 HO1 hh1 hP2 ho3 ho2
        rw [AC.lit] at hg2
        go_wp2_with fail
        go_roundw
        case rel => exact ⟨i + 1, b, cc, t', l, by omega, by go_num, (by have h := HF2.out; simp at h; exact Lib.hid h), rfl, by omega, htok', HP2.out, hh2, HO3.out⟩
        case measure => simp [intOf]; omega
      | true =>
        go_wp2_with (first
          | (refine wpList_store_abs (by rfl) 30 (.tmp 8) (.tmp 20) (by rfl) w1.heap.size A.cells (by rfl) (by rfl) 30 AC.zero.cells (heap_alloc_new _ _) size30 (by rfl) (AC.one _) ?_; intro w2 ho2 hsz2 hg2; rw [AC.lit] at hg2; have hP2 : PAt w2 p t' := (ho2.block p (by simp; omega) (by simp; omega)).trans (hk_alloc HP1.out.lt HP1.out); have ho3 : Only [p] w w2 := (HO1.out.alloc _).and ho2 (fun k hk => .inr (by simp at hk; omega)); have hh2 : Held w2 w.heap.size 30 13 (.slice b l.length cc) l.length (flat l) := (hh1.alloc _).only ho2 (by intro k hk; have := (hh1.lt k hk).2; simp; omega); have z2 := ho3.size; have HP2 := Lib.hid hP2; have HO3 := Lib.hid ho3; clear HP1 HO1 hh1 hP2 ho3 ho2)
          | (refine wpList_load_row (by rfl) 30 (.tmp 8) (by rfl) w1.heap.size (by rfl) 30 _ (0, 0) _ hg2 Try.underlying30 (by rfl) size30 ?_)
          | (at_builtin; refine wpList_append_held _ rfl _ _ 34 rfl w.heap.size 30 i0 _ 13 88 Try.underlying34 hi0 hz0 hz1 hz2 rfl (by decide) (.slice b l.length cc) l.length (flat l) rfl (hh2.alloc _) ⟨w1.heap.size + 1, 0, none⟩ 1 1 A.list rfl (by rfl) (World.news_of_block (cs := A.cells) (t := 30) (fr := (0, 0)) (new_at (by simpa using hsz2))) A.list_one (by omega) (by unfold maxLen; omega) (by omega) (by simp; omega) ?_))
        intro g3 off3 cap3 w3 hown hgrow hat hlt3
        go_wp2_with fail
        go_roundw
        case rel => exact ⟨i + 1, some ⟨g3, off3, none⟩, cap3, t', l ++ [A], by omega, by go_num, (by have h := HF2.out; simp at h; exact Lib.hid h), by simp, by simp; omega, htok', hk_grown hgrow (by have := HP2.out.lt; simp; omega) (by intro e; have := (hh2.lt p e).1; omega) (hk_alloc HP2.out.lt HP2.out), by rw [flat_append, flat_one]; simpa using hown, (HO3.out.alloc _).grown hgrow (fun k hk => .inr (hh2.lt k hk).1)⟩
        case measure => simp [intOf]; omega
    · obtain rfl : i = n := by omega
      have ht : xs.take i = xs := List.take_of_length_le (by omega)
      rw [ht] at HF
      have HL := Lib.hid hl
      clear ht hl hr
      go_wp2_with fail
      go_returns
      rw [HF.out]
      exact ⟨b, cc, rfl, hheld, ho, hPt⟩
end Esc
end Go.Proofs.Ytgbpmefiafoliaa
