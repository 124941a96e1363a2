/- EscapeNumbers returns true for every input, and leaves what was there as it was. No condition. -/
import Derived.Test.YtgbpmefiafoliaaText
import Derived.Test.YtgbpmefiafoliaaNum
import Derived.Test.YtgbpmefiafoliaaNumPlain
import Derived.Test.YtgbpmefiafoliaaMask
import Derived.Outline
namespace Go.Proofs.Ytgbpmefiafoliaa
open Go.ChangeShapes Go.WideShapes Go.ChangeAt Go.RowKit
namespace Esc
namespace Numbers
theorem i64_and17 (x : Int) : bits .and .i64 x 131071 = x % 131072 := mask_any .i64 63 (by decide) wraps_i64 17 (by decide) x
theorem i64_and1 (x : Int) : bits .and .i64 x 1 = x % 2 := mask_any .i64 63 (by decide) wraps_i64 1 (by decide) x
/-- A slice of ints that came in. -/
def In64 (w : World) (a : Option Addr) (n : Nat) (zs : List Int) : Prop :=
  zs.length = n ∧ (n = 0 ∨ ∃ b off, a = some ⟨b, off, none⟩ ∧ b < w.heap.size ∧ ∀ i, i < n → w.cell? ⟨b, off + i, none⟩ = some (.int .i64 (zs.getD i 0)))
theorem in64_of {w : World} {x : Addr} {len cap : Nat} {zs : List Int} (hl : len ≤ cap) (hz : zs.length = cap) (hc : ∀ i, i < zs.length → w.cell? (x.add i) = some (.int .i64 (zs.getD i 0))) : In64 w (some x) len (zs.take len) := by
  refine ⟨by simp; omega, ?_⟩
  by_cases h0 : len = 0
  · exact .inl h0
  · obtain ⟨b, off, spot⟩ := x
    have h1 := hc 0 (by omega)
    have hspot : spot = none := by simpa [Addr.add] using World.cell?_spot h1
    subst hspot
    refine .inr ⟨b, off, rfl, by rw [Addr.add_lit] at h1; exact World.block_lt_of_cell? (a := ⟨b, off + 0, none⟩) _ h1, fun i hi => ?_⟩
    have h2 := hc i (by omega)
    rw [Addr.add_lit] at h2
    rw [h2]
    simp [List.getD, hi]
def wcells (f : Nat → Int) (j : Nat) : Array Value := #[.int .i64 (want f j 0), .int .i64 (want f j 1), .int .i64 (want f j 2), .int .i64 (want f j 3), .int .i64 (want f j 4), .int .i64 (want f j 5), .int .i64 (want f j 6), .int .i64 (want f j 7)]
theorem wcells_zero (f : Nat → Int) : wcells f 0 = #[.int .i64 0, .int .i64 0, .int .i64 0, .int .i64 0, .int .i64 0, .int .i64 0, .int .i64 0, .int .i64 0] := by unfold wcells; rw [want_zero]
theorem wcells_get (f : Nat → Int) (j i : Nat) (hi : i < 8) : (wcells f j)[i]? = some (.int .i64 (want f j i)) := by
  obtain rfl | rfl | rfl | rfl | rfl | rfl | rfl | rfl : i = 0 ∨ i = 1 ∨ i = 2 ∨ i = 3 ∨ i = 4 ∨ i = 5 ∨ i = 6 ∨ i = 7 := by omega
  all_goals rfl
theorem wcells_set (f : Nat → Int) (j : Nat) (hj : j < 8) (v : Int) (hv : v = min (f j % 100000) 9999) : (wcells f j).setIfInBounds j (.int .i64 v) = wcells f (j + 1) := by
  subst hv
  unfold wcells
  rw [want_succ f j hj]
  obtain rfl | rfl | rfl | rfl | rfl | rfl | rfl | rfl : j = 0 ∨ j = 1 ∨ j = 2 ∨ j = 3 ∨ j = 4 ∨ j = 5 ∨ j = 6 ∨ j = 7 := by omega
  all_goals simp [upd]
theorem wcells_past (f : Nat → Int) (j : Nat) (hj : 8 ≤ j) : wcells f (j + 1) = wcells f j := by unfold wcells; rw [want_past f j hj]
theorem is_append (a b : List Int) : is (a ++ b) = is a ++ is b := by simp [is]
theorem is_one (l : List Int) : ∀ u ∈ is l, u.oneCell' = true := by
  intro u hu
  obtain ⟨_, _, rfl⟩ := List.mem_map.1 hu
  rfl
theorem row_none {w : World} {base n c : Nat} {a : Option Addr} {l : List Int} (h : Held w base 21 1 (.slice a n c) n (is l)) : a = Option.none → n = 0 ∧ c = 0 := by
  rintro rfl
  rcases h.2 with ⟨hv, h0⟩ | ⟨g, off, cap, cur, hv, -⟩
  · simp only [Value.slice.injEq] at hv
    exact ⟨h0, hv.2.2⟩
  · simp at hv
theorem row_cells {w : World} {base n c : Nat} {a : Option Addr} {l : List Int} (h : Held w base 21 1 (.slice a n c) n (is l)) : ∀ ad, a = some ad → ∀ j u, (is l)[j]? = some u → w.cell? (ad.add j) = some u := by
  rintro ad rfl j u hu
  obtain ⟨a', cap, hv, -, -, -, -, hc⟩ := h.shape
  simp only [Value.slice.injEq] at hv
  exact hc ad (by rw [← hv.1]) j u hu
theorem place63 (a : Int) : ∃ i : Nat, i ≤ 62 ∧ -62 ≤ a.tmod 63 ∧ a.tmod 63 ≤ 62 ∧ (a.tmod 63 + 63).tmod 63 = i := by
  have h1 : a.tmod 63 < 63 := Int.tmod_lt_of_pos _ (by omega)
  have h2 : -63 < a.tmod 63 := Int.lt_tmod_of_pos _ (by omega)
  have h3 : (a.tmod 63 + 63).tmod 63 < 63 := Int.tmod_lt_of_pos _ (by omega)
  have h4 : 0 ≤ (a.tmod 63 + 63).tmod 63 := Int.tmod_nonneg _ (by omega)
  exact ⟨((a.tmod 63 + 63).tmod 63).toNat, by omega, by omega, by omega, by omega⟩
/-- The places of a number's digits. -/
def dd : Nat → Int | 0 => 10000 | 1 => 1000 | 2 => 100 | 3 => 10 | 4 => 1 | _ => 0

set_option maxRecDepth 1000000 in
set_option maxHeartbeats 8000000 in
theorem walk (a : Option Addr) (n c : Nat) (zs : List Int) (fin : Int) (w : World) (h : In64 w a n zs) :
    Calls Try.prog 7 #[.slice a n c, .int .i64 fin] w fun e w' => e = .returned (.bool true) ∧ Below w.heap.size w w' := by
  obtain ⟨i0, hi0, hz0, hz1, hz2⟩ := info_parts info21
  obtain ⟨f, hfd⟩ : ∃ f : Nat → Int, f = fun i => zs.getD i 0 % 131072 := ⟨_, rfl⟩
  have hf : ∀ i, 0 ≤ f i ∧ f i < 131072 := fun i => by rw [hfd]; dsimp only; omega
  have HFD := Lib.hid hfd
  have HF := Lib.hid hf
  clear hfd hf
  go_enter Try.func7, Try.ntmps7
  go_wp2_with fail
  refine (awake_any w).mono ?_
  rintro e w1 ⟨rfl, hb1⟩
  have z1 := hb1.size
  have hW : (w1.alloc (.cells #[.int .i64 0, .int .i64 0, .int .i64 0, .int .i64 0, .int .i64 0, .int .i64 0, .int .i64 0, .int .i64 0] 25)).heap[w1.heap.size]? = some (.cells (wcells f 0) 25 (0, 0)) := by rw [wcells_zero]; exact new_at rfl
  have hb2 : Below w.heap.size w (w1.alloc (.cells #[.int .i64 0, .int .i64 0, .int .i64 0, .int .i64 0, .int .i64 0, .int .i64 0, .int .i64 0, .int .i64 0] 25)) := hb1.alloc z1 _
  have HW := Lib.hid hW
  have HB := Lib.hid hb2
  have HH := Lib.hid h
  clear hW hb2 hb1 h
  go_wp2_with fail
  go_loopw [6, 8, 9] (fun sv nv iv wr => ∃ (j : Nat) (b : Option Addr) (cc : Nat), j ≤ n ∧ j ≤ 10 ∧ iv = .int .i64 (j : Int) ∧ nv = .int .i64 (min (j : Int) 8) ∧ sv = .slice b (ins f j).length cc ∧
      Held wr (w1.heap.size + 1) 21 1 (.slice b (ins f j).length cc) (ins f j).length (is (ins f j)) ∧ wr.heap[w1.heap.size]? = some (.cells (wcells f j) 25 (0, 0)) ∧ Below w.heap.size w wr ∧ w1.heap.size + 1 ≤ wr.heap.size) (fun _ _ iv _ => 10 - (intOf iv).toNat)
  case atStart => exact ⟨0, none, 0, by omega, by omega, rfl, rfl, rfl, Held.nil _ _ _ _, HW.out, HB.out, by simp⟩
  case round =>
    obtain ⟨j, b, cc, hjn, hj10, rfl, rfl, rfl, hheld, hw, hb, hz⟩ := hrel
    have hlen := ins_len f j
    by_cases hlt : j < n ∧ j < 10
    · obtain ⟨hlt1, hlt2⟩ := hlt
      have hFj : f j = zs.getD j 0 % 131072 := by rw [HFD.out]
      obtain ⟨g, off, rfl, hg, hcell⟩ := HH.out.2.resolve_left (by omega)
      have cz0 := hcell j hlt1
      have cz : wr.cell? ⟨g, off + j, none⟩ = some (.int .i64 (zs.getD j 0)) := (hb.cell (p := ⟨g, off + j, none⟩) hg).trans cz0
      have hand := i64_and17 (zs.getD j 0)
      rw [← hFj] at hand
      have hF := HF.out j
      generalize zs.getD j 0 = zj at cz hand
      obtain ⟨F, hFF⟩ : ∃ F, F = f j := ⟨_, rfl⟩
      rw [← hFF] at hand hF
      obtain ⟨hF0, hF1⟩ := hF
      have hand1 := i64_and1 F
      have m0 : 0 ≤ F % 2 := by omega
      have m1 : F % 2 ≤ 1 := by omega
      have j0' : (0 : Int) ≤ (j : Int) := by omega
      have j1' : (j : Int) < (n : Int) := by omega
      have j2' : (j : Int) < 10 := by omega
      have HFF := Lib.hid hFF
      obtain ⟨P, hP⟩ : ∃ P, P = ins f j ++ (if j = 0 then [] else [58 + F % 2]) := ⟨_, rfl⟩
      have hPl : P.length ≤ 6 * j + 1 := by rw [hP]; split <;> simp <;> omega
      have HP := Lib.hid hP
      have HW := Lib.hid hw
      have HB := Lib.hid hb
      clear hFF hFj hcell cz0 hP hw hb
      go_upto_if 36 with (fail)
      go_cut [6] (fun sv wc => ∃ (b' : Option Addr) (c' : Nat), sv = .slice b' P.length c' ∧ Held wc (w1.heap.size + 1) 21 1 (.slice b' P.length c') P.length (is P) ∧ Hid (wc.heap[w1.heap.size]? = some (.cells (wcells f j) 25 (0, 0))) ∧ Hid (Below w.heap.size w wc) ∧ w1.heap.size + 1 ≤ wc.heap.size)
      case first =>
        by_cases j0 : j = 0
        · subst j0
          have hP0 : P = ins f 0 := by rw [HP.out]; simp
          have HP0 := Lib.hid hP0
          clear hP0 cz hand hand1
          go_wp2_with fail
          go_meet
          rw [HP0.out]
          exact ⟨b, cc, rfl, hheld, HW.out, HB.out, hz⟩
        · have j3' : (0 : Int) < (j : Int) := by omega
          have hP1 : P = ins f j ++ [58 + F % 2] := by rw [HP.out, if_neg j0]
          have HP1 := Lib.hid hP1
          clear hP1 cz hand j0
          go_wp2_with (at_builtin; refine wpList_append_held _ rfl _ _ 22 rfl (w1.heap.size + 1) 21 i0 _ 1 4 Try.underlying22 hi0 hz0 hz1 hz2 rfl (by decide) (.slice b (ins f j).length cc) (ins f j).length (is (ins f j)) rfl (hheld.alloc _) ⟨wr.heap.size, 0, none⟩ 1 1 [.int .i32 (58 + F % 2)] rfl rfl (World.news_of_block (cs := #[.int .i32 (58 + F % 2)]) (t := 21) (fr := (0, 0)) (new_at (by simp))) (by simp [Value.oneCell']) (by omega) (by unfold maxLen; omega) (by omega) (by simp; omega) ?_)
          intro g3 off3 cap3 w3 hown hgrow hat hlt3
          have hw3 : w3.heap[w1.heap.size]? = some (.cells (wcells f j) 25 (0, 0)) := hk_grown hgrow (by simp; omega) (fun e => by have := (hheld.lt _ e).1; omega) (hk_alloc (by omega) HW.out)
          have hb3 : Below w.heap.size w w3 := (HB.out.alloc (by omega) _).grown hgrow (by simp; omega) (fun k hk => by have := (hheld.lt k hk).1; omega)
          have hz3 : w1.heap.size + 1 ≤ w3.heap.size := by have := hgrow.size; simp at this; omega
          go_wp2_with fail
          go_meet
          have hl : P.length = (ins f j).length + 1 := by rw [HP1.out]; simp
          rw [hl]
          refine ⟨_, cap3, rfl, ?_, hw3, hb3, hz3⟩
          rw [HP1.out, is_append]
          exact hown
      case rest =>
        obtain ⟨b', c', rfl, hh2, HW2, HB2, hz2'⟩ := hcut
        clear hheld HW HB hz cz hand hand1 hg
        go_wp2_with fail
        go_loopw [6, 11] (fun sv dv wx => ∃ (t : Nat) (b2 : Option Addr) (c2 : Nat), t ≤ 5 ∧ dv = .int .i64 (dd t) ∧ sv = .slice b2 (P.length + t) c2 ∧ Held wx (w1.heap.size + 1) 21 1 (.slice b2 (P.length + t) c2) (P.length + t) (is (P ++ (digs F).take t)) ∧
          Hid (wx.heap[w1.heap.size]? = some (.cells (wcells f j) 25 (0, 0))) ∧ Hid (Below w.heap.size w wx) ∧ w1.heap.size + 1 ≤ wx.heap.size) (fun _ dv _ => (intOf dv).toNat)
        case atStart => exact ⟨0, b', c', by omega, rfl, rfl, by simpa using hh2, HW2, HB2, hz2'⟩
        case round =>
          obtain ⟨t, b2, c2, ht5, rfl, rfl, hh, HW3, HB3, hz3⟩ := hrel
          clear hh2 HW2 HB2 hz2'
          by_cases ht : t < 5
          · obtain ⟨D, hD, hD0, hD9, hq0, hq1, hds⟩ : ∃ D : Int, D = F / dd t % 10 ∧ 0 ≤ D ∧ D ≤ 9 ∧ 0 ≤ F / dd t ∧ F / dd t ≤ 131071 ∧ (digs F).take (t + 1) = (digs F).take t ++ [48 + D] := by
              obtain rfl | rfl | rfl | rfl | rfl : t = 0 ∨ t = 1 ∨ t = 2 ∨ t = 3 ∨ t = 4 := by omega
              all_goals exact ⟨_, rfl, by simp only [dd]; omega, by simp only [dd]; omega, by simp only [dd]; omega, by simp only [dd]; omega, rfl⟩
            have hdt : 1 ≤ dd t ∧ dd t ≤ 10000 ∧ dd t / 10 = dd (t + 1) ∧ dd (t + 1) < dd t ∧ 0 ≤ dd (t + 1) := by
              obtain rfl | rfl | rfl | rfl | rfl : t = 0 ∨ t = 1 ∨ t = 2 ∨ t = 3 ∨ t = 4 := by omega
              all_goals exact ⟨by decide, by decide, by decide, by decide, by decide⟩
            obtain ⟨hd1, hd2, hd3, hd4, hd5⟩ := hdt
            have HDS := Lib.hid hds
            generalize dd t = dt at hd1 hd2 hd3 hd4 hD hq0 hq1 ⊢
            generalize hdd : dd (t + 1) = dt' at hd3 hd4 hd5
            have HDD := Lib.hid hdd
            clear hdd
            have hD' : F / dt % 10 = D := hD.symm
            clear hds hD
            go_wp2_with (at_builtin; refine wpList_append_held _ rfl _ _ 22 rfl (w1.heap.size + 1) 21 i0 _ 1 4 Try.underlying22 hi0 hz0 hz1 hz2 rfl (by decide) (.slice b2 (P.length + t) c2) (P.length + t) (is (P ++ (digs F).take t)) rfl (hh.alloc _) ⟨wr.heap.size, 0, none⟩ 1 1 [.int .i32 (48 + D)] rfl rfl (World.news_of_block (cs := #[.int .i32 (48 + D)]) (t := 21) (fr := (0, 0)) (new_at (by simp))) (by simp [Value.oneCell']) (by omega) (by unfold maxLen; omega) (by omega) (by simp; omega) ?_)
            intro g3 off3 cap3 w3 hown hgrow hat hlt3
            have hw4 : Hid (w3.heap[w1.heap.size]? = some (.cells (wcells f j) 25 (0, 0))) := Lib.hid (hk_grown hgrow (by simp; omega) (fun e => by have := (hh.lt _ e).1; omega) (hk_alloc (by omega) HW3.out))
            have hb4 : Hid (Below w.heap.size w w3) := Lib.hid ((HB3.out.alloc (by omega) _).grown hgrow (by simp; omega) (fun k hk => by have := (hh.lt k hk).1; omega))
            have hz4 : w1.heap.size + 1 ≤ w3.heap.size := by have := hgrow.size; simp at this; omega
            go_wp2_with fail
            go_roundw
            case rel => exact ⟨t + 1, _, cap3, by omega, by rw [HDD.out, hd3], rfl, by rw [HDS.out, ← List.append_assoc, is_append]; exact hown, hw4, hb4, hz4⟩
            case measure => simp [intOf]; omega
          · obtain rfl : t = 5 := by omega
            have hd5 : dd 5 = 0 := rfl
            rw [hd5]
            have hins : ins f (j + 1) = P ++ digs F := by rw [HP.out, HFF.out]; rfl
            have hil : (ins f (j + 1)).length = P.length + 5 := by rw [hins]; simp [digs]
            have htk : (digs F).take 5 = digs F := rfl
            rw [htk, ← hins, ← hil] at hh
            rw [← hil]
            have hmin : min (F % 100000) 9999 = min (f j % 100000) 9999 := by rw [HFF.out]
            have HMIN := Lib.hid hmin
            clear hd5 htk hil hins hmin hPl
            have p0 : 0 ≤ F % 100000 := by omega
            by_cases j8 : j < 8
            · have j8' : (j : Int) < 8 := by omega
              have cw := cell_of_heap HW3.out j _ (wcells_get f j j j8)
              have fw := free_of_heap HW3.out j
              have hmn : (min (j : Int) 8) = (j : Int) := by omega
              go_wp2_with fail
              all_goals
                go_roundw
                case rel => exact ⟨j + 1, b2, c2, by omega, by omega, by go_num, by rw [show min (((j + 1 : Nat) : Int)) 8 = (j : Int) + 1 by omega], rfl, hh.setCell (p := ⟨w1.heap.size, j, none⟩) (fun e => absurd (hh.lt _ e).1 (by simp)) _, by rw [← wcells_set f j j8 (if 9999 < F % 100000 then 9999 else F % 100000) (by rw [← HMIN.out]; split <;> omega)]; exact hk_self HW3.out _ _, HB3.out.setCell (p := ⟨w1.heap.size, j, none⟩) z1 _, by simp; omega⟩
                case measure => simp [intOf]; omega
            · have j8' : ¬ (j : Int) < 8 := by omega
              have hmn : min (j : Int) 8 = 8 := by omega
              go_wp2_with fail
              go_roundw
              case rel => exact ⟨j + 1, b2, c2, by omega, by omega, by go_num, by rw [show min (((j + 1 : Nat) : Int)) 8 = 8 by omega, hmn], rfl, hh, by rw [wcells_past f j (by omega)]; exact HW3.out, HB3.out, hz3⟩
              case measure => simp [intOf]; omega
    · obtain ⟨pl, hpl, p1, p2, p3⟩ := place63 fin
      generalize hX : fin.tmod 63 = X at p1 p2 p3
      have hj0 : (0 : Int) ≤ (j : Int) := by omega
      obtain ⟨w3, hw3⟩ : ∃ w3, w3 = (wr.alloc (.cells PS.zero.cells 27)).alloc (.cells #[.int .i32 27, .int .i32 91] 21) := ⟨_, rfl⟩
      have hown0 : Held ((wr.alloc (.cells PS.zero.cells 27)).alloc (.cells #[.int .i32 27, .int .i32 91] 21)) (wr.heap.size + 1) 21 1 (.slice (some ⟨wr.heap.size + 1, 0, none⟩) 2 2) 2 (is [27, 91]) :=
        ⟨rfl, .inr ⟨wr.heap.size + 1, 0, 2, #[.int .i32 27, .int .i32 91], rfl, Nat.le_refl _, new_at (by simp), by decide, by decide, by decide, rfl⟩⟩
      have hP0 : PAt ((wr.alloc (.cells PS.zero.cells 27)).alloc (.cells #[.int .i32 27, .int .i32 91] 21)) wr.heap.size .zero := hk_alloc (by simp) (new_at rfl)
      have hsrc : Held ((wr.alloc (.cells PS.zero.cells 27)).alloc (.cells #[.int .i32 27, .int .i32 91] 21)) (w1.heap.size + 1) 21 1 (.slice b (ins f j).length cc) (ins f j).length (is (ins f j)) := (hheld.alloc _).alloc _
      have hww : ((wr.alloc (.cells PS.zero.cells 27)).alloc (.cells #[.int .i32 27, .int .i32 91] 21)).heap[w1.heap.size]? = some (.cells (wcells f j) 25 (0, 0)) := hk_alloc (by simp; omega) (hk_alloc (by omega) hw)
      have hbb : Below w.heap.size w ((wr.alloc (.cells PS.zero.cells 27)).alloc (.cells #[.int .i32 27, .int .i32 91] 21)) := (hb.alloc (by omega) _).alloc (by simp; omega) _
      have HP0 := Lib.hid hP0
      have HSRC := Lib.hid hsrc
      have HWW := Lib.hid hww
      have HBB := Lib.hid hbb
      have HOWN := Lib.hid hown0
      clear hP0 hsrc hww hbb hown0 hw hb hheld hw3
      have hcond : (¬ (j : Int) < (n : Int)) ∨ ((j : Int) < (n : Int) ∧ ¬ (j : Int) < 10) := by omega
      clear hlt
      rcases hcond with q1 | ⟨q1, q2⟩
      all_goals
        go_wp2_with (at_builtin; refine wpList_append_src _ rfl _ _ 22 rfl (wr.heap.size + 1) 21 i0 _ 1 4 Try.underlying22 hi0 hz0 hz1 hz2 rfl (by decide) (.slice (some ⟨wr.heap.size + 1, 0, none⟩) 2 2) 2 (is [27, 91]) rfl HOWN.out b (ins f j).length cc (is (ins f j)) rfl (by simp [is]) (row_none HSRC.out) (row_cells HSRC.out) (is_one _) (by unfold maxLen; omega) (by omega) (by simp) ?_)
        intro a4 c4 w4 hA4 hG4 hN4
        have hz4 : wr.heap.size + 1 + 1 ≤ w4.heap.size := by have := hG4.size; simpa using this
        have hP4 : PAt w4 wr.heap.size .zero := hk_grown hG4 (by simp; omega) (by simp [Value.ownBlock]) HP0.out
        have hW4 : w4.heap[w1.heap.size]? = some (.cells (wcells f j) 25 (0, 0)) := hk_grown hG4 (by simp; omega) (by simp [Value.ownBlock]; omega) HWW.out
        have hB4 : Below w.heap.size w w4 := HBB.out.grown hG4 (by simp; omega) (by intro k hk; simp [Value.ownBlock] at hk; omega)
        rw [← is_append] at hA4
        have hR4 : Rd w4 wr.heap.size a4 (2 + (ins f j).length) (is ([27, 91] ++ ins f j)) := by
          refine ⟨by simp [is]; omega, .inr ?_⟩
          obtain ⟨g4, o4, k4, hv4, hb4, hl4, -, -, hc4⟩ := hA4.form (by omega)
          simp only [Value.slice.injEq] at hv4
          exact ⟨g4, o4, hv4.1, hl4, by omega, hc4⟩
        have hfeed := feed_any wr.heap.size .zero a4 (2 + (ins f j).length) c4 ([27, 91] ++ ins f j) w4 hP4 PS.zero_ok hR4 (by omega)
        rw [told f (fun i => (HF.out i).1) j] at hfeed
        have HFE := Lib.hid hfeed
        have HW4 := Lib.hid hW4
        have HB4 := Lib.hid hB4
        clear hfeed hR4 hA4 hG4 hN4 hP4 hW4 hB4 HP0 HSRC HWW HBB HOWN
        go_wp2_with fail
        refine HFE.out.mono ?_
        rintro e w5 ⟨a5, c5, rfl, -, ho5, hP5⟩
        dsimp only at hP5 ⊢
        have hW5 : w5.heap[w1.heap.size]? = some (.cells (wcells f j) 25 (0, 0)) := (ho5.block _ (lt_of_heap HW4.out) (by simp; omega)).trans HW4.out
        have hB5 : Below w.heap.size w w5 := HB4.out.trans (only_below ho5 (by omega) (by omega))
        have hz5 : wr.heap.size + 1 + 1 ≤ w5.heap.size := Nat.le_trans hz4 ho5.size
        have hst := step_any wr.heap.size (C (min (j : Int) 9) (want f j)) (64 + (pl : Int)) w5 hP5 (by have h := feed_ok .zero ([27, 91] ++ ins f j) PS.zero_ok; rwa [told f (fun i => (HF.out i).1) j] at h)
        rw [step_last _ _ _ (by omega) (by omega), show min (min (j : Int) 9) 8 = min (j : Int) 8 by omega] at hst
        have HST := Lib.hid hst
        have HW5 := Lib.hid hW5
        have HB5 := Lib.hid hB5
        clear HFE HW4 HB4 ho5 hP5 hW5 hB5 hst
        go_wp2_with fail
        refine HST.out.mono ?_
        rintro e w6 ⟨rfl, ho6, hP6⟩
        dsimp only at hP6 ⊢
        have HW6 := Lib.hid ((ho6.block _ (lt_of_heap HW5.out) (by simp; omega)).trans HW5.out)
        have HB6 := Lib.hid (HB5.out.trans (only_below ho6 (by omega) (by omega)))
        have hz6 : wr.heap.size + 1 + 1 ≤ w6.heap.size := Nat.le_trans hz5 ho6.size
        have HP6 := Lib.hid hP6
        have he : ∀ W, (Op.equalIn 10000 25 (.agg #[.int .i64 (want f j 0), .int .i64 (want f j 1), .int .i64 (want f j 2), .int .i64 (want f j 3), .int .i64 (want f j 4), .int .i64 (want f j 5), .int .i64 (want f j 6), .int .i64 (want f j 7)]) (.agg #[.int .i64 (want f j 0), .int .i64 (want f j 1), .int .i64 (want f j 2), .int .i64 (want f j 3), .int .i64 (want f j 4), .int .i64 (want f j 5), .int .i64 (want f j 6), .int .i64 (want f j 7)])).run Try.prog W = .ok true W := fun W => eq25 9998 _ _ _ _ _ _ _ _ W
        have en : ((min (j : Int) 8) != (min (j : Int) 8)) = false := by simp
        clear HST HW5 HB5 ho6 hP6
        go_wp2_with (refine wpList_store_abs (by rfl) 30 (.tmp 15) (.tmp 83) (by rfl) w6.heap.size (AC.cells ⟨4, 64 + (pl : Int), 0, 0, min (j : Int) 8, want f j⟩) (by rfl) (by rfl) 30 AC.zero.cells (heap_alloc_new _ _) size30 (by rfl) (AC.one _) ?_; intro w7 ho7 hsz7 hg7; have hP7 : Hid (PAt w7 wr.heap.size .zero) := Lib.hid ((HP6.out.grow _).far ho7 (by have := HP6.out.lt; omega)); have hW7 : w7.heap[w1.heap.size]? = some (.cells (wcells f j) 25 (0, 0)) := (ho7.block _ (by simp; omega) (by simp; omega)).trans (hk_alloc (by omega) HW6.out); have hB7 : Hid (Below w.heap.size w w7) := Lib.hid ((HB6.out.alloc (by omega) _).trans (ho7.below (by simp; omega) (by simp; omega))); have hz7 : w6.heap.size < w7.heap.size := lt_of_heap hg7; have t0 := cell_of_heap hg7 0 (.int .i64 4) rfl; have t1 := cell_of_heap hg7 1 (.int .i32 (64 + (pl : Int))) rfl; have t2 := cell_of_heap hg7 2 (.int .u8 0) rfl; have t3 := cell_of_heap hg7 3 (.int .u8 0) rfl; have t4 := cell_of_heap hg7 4 (.int .i64 (min (j : Int) 8)) rfl; have t5 := cell_of_heap hg7 5 (.int .i64 (want f j 0)) rfl; have t6 := cell_of_heap hg7 6 (.int .i64 (want f j 1)) rfl; have t7 := cell_of_heap hg7 7 (.int .i64 (want f j 2)) rfl; have t8 := cell_of_heap hg7 8 (.int .i64 (want f j 3)) rfl; have t9 := cell_of_heap hg7 9 (.int .i64 (want f j 4)) rfl; have t10 := cell_of_heap hg7 10 (.int .i64 (want f j 5)) rfl; have t11 := cell_of_heap hg7 11 (.int .i64 (want f j 6)) rfl; have t12 := cell_of_heap hg7 12 (.int .i64 (want f j 7)) rfl; have y0 := cell_of_heap hW7 0 (.int .i64 (want f j 0)) rfl; have y1 := cell_of_heap hW7 1 (.int .i64 (want f j 1)) rfl; have y2 := cell_of_heap hW7 2 (.int .i64 (want f j 2)) rfl; have y3 := cell_of_heap hW7 3 (.int .i64 (want f j 3)) rfl; have y4 := cell_of_heap hW7 4 (.int .i64 (want f j 4)) rfl; have y5 := cell_of_heap hW7 5 (.int .i64 (want f j 5)) rfl; have y6 := cell_of_heap hW7 6 (.int .i64 (want f j 6)) rfl; have y7 := cell_of_heap hW7 7 (.int .i64 (want f j 7)) rfl; have HG7 := Lib.hid hg7; have HW7 := Lib.hid hW7; clear ho7 hg7 hW7 HP6 HW6 HB6)
        refine (idle_any wr.heap.size .zero w7 hP7.out).mono ?_
        rintro e w8 ⟨rfl, rfl⟩
        go_wp2_with fail
        clear t0 t1 t2 t3 t4 t5 t6 t7 t8 t9 t10 t11 t12 y0 y1 y2 y3 y4 y5 y6 y7 he en
        go_loopw [17] (fun iv wx => ∃ i : Int, -1 ≤ i ∧ i ≤ 9 ∧ iv = .int .i64 i ∧ Below w7.heap.size w7 wx) (fun iv _ => (9 - intOf iv).toNat)
        case atStart => exact ⟨-1, by decide, by decide, rfl, Below.refl _ _⟩
        case round =>
          obtain ⟨i, hi0, hi9, rfl, hbr⟩ := hrel
          by_cases hi : i < 9
          · have HGR : Hid (wr.heap[w6.heap.size]? = some (.cells (AC.cells (⟨4, 64 + (pl : Int), 0, 0, min (j : Int) 8, want f j⟩ : AC)) 30 (0, 0))) := Lib.hid ((hbr.block _ hz7).trans HG7.out)
            have HWR : Hid (wr.heap[w1.heap.size]? = some (.cells (wcells f j) 25 (0, 0))) := Lib.hid ((hbr.block _ (lt_of_heap HW7.out)).trans HW7.out)
            have HBR := Lib.hid hbr
            clear hbr
            by_cases hin : 0 ≤ i ∧ i < min (j : Int) 8
            · obtain ⟨n1, n2⟩ := hin
              have n8 : i < 8 := by omega
              have cw0 := cell_of_heap HWR.out i.toNat _ (wcells_get f j i.toNat (by omega))
              have v0 : 0 ≤ want f j i.toNat := by unfold want; split <;> (try have := HF.out i.toNat) <;> omega
              obtain ⟨q, rfl⟩ : ∃ q : Nat, i = (q : Int) := ⟨i.toNat, by omega⟩
              rw [Int.toNat_natCast] at cw0 v0
              by_cases h3 : want f j q ≤ 3
              · have h3' : 3 - want f j q ≥ 0 := by omega
                have N0 : numOf (⟨4, 64 + (pl : Int), 0, 0, min (j : Int) 8, want f j⟩ : AC) (q : Int) 0 = want f j q := by unfold numOf; first | rw [if_pos (by show (q : Int) < 0 ∨ 8 ≤ (q : Int) ∨ min (j : Int) 8 ≤ (q : Int); omega)] | (rw [if_neg (by show ¬ ((q : Int) < 0 ∨ 8 ≤ (q : Int) ∨ min (j : Int) 8 ≤ (q : Int)); omega)]; show max (want f j (q : Int).toNat) 0 = _; rw [Int.toNat_natCast]; omega)
                have N3 : numOf (⟨4, 64 + (pl : Int), 0, 0, min (j : Int) 8, want f j⟩ : AC) (q : Int) 3 = 3 := by unfold numOf; first | rw [if_pos (by show (q : Int) < 0 ∨ 8 ≤ (q : Int) ∨ min (j : Int) 8 ≤ (q : Int); omega)] | (rw [if_neg (by show ¬ ((q : Int) < 0 ∨ 8 ≤ (q : Int) ∨ min (j : Int) 8 ≤ (q : Int)); omega)]; show max (want f j (q : Int).toNat) 3 = _; rw [Int.toNat_natCast]; omega)
                have M0 := Lib.hid N0
                have M3 := Lib.hid N3
                clear N0 N3
                go_wp2_with (refine wpList_load_row (by rfl) 30 (.tmp 15) (by rfl) w6.heap.size (by rfl) 30 (AC.cells (⟨4, 64 + (pl : Int), 0, 0, min (j : Int) 8, want f j⟩ : AC)) (0, 0) _ HGR.out Try.underlying30 (by rfl) size30 ?_)
                refine (num_any (⟨4, 64 + (pl : Int), 0, 0, min (j : Int) 8, want f j⟩ : AC) (q : Int) 0 _).mono ?_
                rw [M0.out]
                rintro e w9 ⟨rfl, hb9⟩
                have hbr9 : Hid (Below w7.heap.size w7 w9) := Lib.hid (HBR.out.trans (hb9.mono HBR.out.size))
                have hgr9 : Hid (w9.heap[w6.heap.size]? = some (.cells (AC.cells (⟨4, 64 + (pl : Int), 0, 0, min (j : Int) 8, want f j⟩ : AC)) 30 (0, 0))) := Lib.hid ((hb9.block _ (lt_of_heap HGR.out)).trans HGR.out)
                clear hb9
                have u0 := cell_of_heap hgr9.out 0 (.int .i64 4) rfl
                have u1 := cell_of_heap hgr9.out 1 (.int .i32 (64 + (pl : Int))) rfl
                have u2 := cell_of_heap hgr9.out 2 (.int .u8 0) rfl
                have u3 := cell_of_heap hgr9.out 3 (.int .u8 0) rfl
                have u4 := cell_of_heap hgr9.out 4 (.int .i64 (min (j : Int) 8)) rfl
                have u5 := cell_of_heap hgr9.out 5 (.int .i64 (want f j 0)) rfl
                have u6 := cell_of_heap hgr9.out 6 (.int .i64 (want f j 1)) rfl
                have u7 := cell_of_heap hgr9.out 7 (.int .i64 (want f j 2)) rfl
                have u8 := cell_of_heap hgr9.out 8 (.int .i64 (want f j 3)) rfl
                have u9 := cell_of_heap hgr9.out 9 (.int .i64 (want f j 4)) rfl
                have u10 := cell_of_heap hgr9.out 10 (.int .i64 (want f j 5)) rfl
                have u11 := cell_of_heap hgr9.out 11 (.int .i64 (want f j 6)) rfl
                have u12 := cell_of_heap hgr9.out 12 (.int .i64 (want f j 7)) rfl
                have hlit : ∀ W, Calls Try.prog 15 #[.agg #[.int .i64 4, .int .i32 (64 + (pl : Int)), .int .u8 0, .int .u8 0, .int .i64 (min (j : Int) 8), .int .i64 (want f j 0), .int .i64 (want f j 1), .int .i64 (want f j 2), .int .i64 (want f j 3), .int .i64 (want f j 4), .int .i64 (want f j 5), .int .i64 (want f j 6), .int .i64 (want f j 7)], .int .i64 (q : Int), .int .i64 3] W fun e w' => e = .returned (.int .i64 (numOf (⟨4, 64 + (pl : Int), 0, 0, min (j : Int) 8, want f j⟩ : AC) (q : Int) 3)) ∧ Below W.heap.size W w' := fun W => num_any (⟨4, 64 + (pl : Int), 0, 0, min (j : Int) 8, want f j⟩ : AC) (q : Int) 3 W
                have HLIT := Lib.hid hlit
                clear hlit
                go_wp2_with fail
                refine (HLIT.out _).mono ?_
                rw [M3.out]
                rintro e w10 ⟨rfl, hb10⟩
                have hbr10 : Below w7.heap.size w7 w10 := hbr9.out.trans (hb10.mono hbr9.out.size)
                clear hb10
                go_wp2_with fail
                go_roundw
                case rel => exact ⟨(q : Int) + 1, by omega, by omega, rfl, hbr10⟩
                case measure => simp [intOf]; omega
              · have h3' : 3 < want f j q := by omega
                have N0 : numOf (⟨4, 64 + (pl : Int), 0, 0, min (j : Int) 8, want f j⟩ : AC) (q : Int) 0 = want f j q := by unfold numOf; first | rw [if_pos (by show (q : Int) < 0 ∨ 8 ≤ (q : Int) ∨ min (j : Int) 8 ≤ (q : Int); omega)] | (rw [if_neg (by show ¬ ((q : Int) < 0 ∨ 8 ≤ (q : Int) ∨ min (j : Int) 8 ≤ (q : Int)); omega)]; show max (want f j (q : Int).toNat) 0 = _; rw [Int.toNat_natCast]; omega)
                have N3 : numOf (⟨4, 64 + (pl : Int), 0, 0, min (j : Int) 8, want f j⟩ : AC) (q : Int) 3 = want f j q := by unfold numOf; first | rw [if_pos (by show (q : Int) < 0 ∨ 8 ≤ (q : Int) ∨ min (j : Int) 8 ≤ (q : Int); omega)] | (rw [if_neg (by show ¬ ((q : Int) < 0 ∨ 8 ≤ (q : Int) ∨ min (j : Int) 8 ≤ (q : Int)); omega)]; show max (want f j (q : Int).toNat) 3 = _; rw [Int.toNat_natCast]; omega)
                have M0 := Lib.hid N0
                have M3 := Lib.hid N3
                clear N0 N3
                go_wp2_with (refine wpList_load_row (by rfl) 30 (.tmp 15) (by rfl) w6.heap.size (by rfl) 30 (AC.cells (⟨4, 64 + (pl : Int), 0, 0, min (j : Int) 8, want f j⟩ : AC)) (0, 0) _ HGR.out Try.underlying30 (by rfl) size30 ?_)
                refine (num_any (⟨4, 64 + (pl : Int), 0, 0, min (j : Int) 8, want f j⟩ : AC) (q : Int) 0 _).mono ?_
                rw [M0.out]
                rintro e w9 ⟨rfl, hb9⟩
                have hbr9 : Hid (Below w7.heap.size w7 w9) := Lib.hid (HBR.out.trans (hb9.mono HBR.out.size))
                have hgr9 : Hid (w9.heap[w6.heap.size]? = some (.cells (AC.cells (⟨4, 64 + (pl : Int), 0, 0, min (j : Int) 8, want f j⟩ : AC)) 30 (0, 0))) := Lib.hid ((hb9.block _ (lt_of_heap HGR.out)).trans HGR.out)
                clear hb9
                have u0 := cell_of_heap hgr9.out 0 (.int .i64 4) rfl
                have u1 := cell_of_heap hgr9.out 1 (.int .i32 (64 + (pl : Int))) rfl
                have u2 := cell_of_heap hgr9.out 2 (.int .u8 0) rfl
                have u3 := cell_of_heap hgr9.out 3 (.int .u8 0) rfl
                have u4 := cell_of_heap hgr9.out 4 (.int .i64 (min (j : Int) 8)) rfl
                have u5 := cell_of_heap hgr9.out 5 (.int .i64 (want f j 0)) rfl
                have u6 := cell_of_heap hgr9.out 6 (.int .i64 (want f j 1)) rfl
                have u7 := cell_of_heap hgr9.out 7 (.int .i64 (want f j 2)) rfl
                have u8 := cell_of_heap hgr9.out 8 (.int .i64 (want f j 3)) rfl
                have u9 := cell_of_heap hgr9.out 9 (.int .i64 (want f j 4)) rfl
                have u10 := cell_of_heap hgr9.out 10 (.int .i64 (want f j 5)) rfl
                have u11 := cell_of_heap hgr9.out 11 (.int .i64 (want f j 6)) rfl
                have u12 := cell_of_heap hgr9.out 12 (.int .i64 (want f j 7)) rfl
                have hlit : ∀ W, Calls Try.prog 15 #[.agg #[.int .i64 4, .int .i32 (64 + (pl : Int)), .int .u8 0, .int .u8 0, .int .i64 (min (j : Int) 8), .int .i64 (want f j 0), .int .i64 (want f j 1), .int .i64 (want f j 2), .int .i64 (want f j 3), .int .i64 (want f j 4), .int .i64 (want f j 5), .int .i64 (want f j 6), .int .i64 (want f j 7)], .int .i64 (q : Int), .int .i64 3] W fun e w' => e = .returned (.int .i64 (numOf (⟨4, 64 + (pl : Int), 0, 0, min (j : Int) 8, want f j⟩ : AC) (q : Int) 3)) ∧ Below W.heap.size W w' := fun W => num_any (⟨4, 64 + (pl : Int), 0, 0, min (j : Int) 8, want f j⟩ : AC) (q : Int) 3 W
                have HLIT := Lib.hid hlit
                clear hlit
                go_wp2_with fail
                refine (HLIT.out _).mono ?_
                rw [M3.out]
                rintro e w10 ⟨rfl, hb10⟩
                have hbr10 : Below w7.heap.size w7 w10 := hbr9.out.trans (hb10.mono hbr9.out.size)
                clear hb10
                go_wp2_with fail
                go_roundw
                case rel => exact ⟨(q : Int) + 1, by omega, by omega, rfl, hbr10⟩
                case measure => simp [intOf]; omega
            · by_cases n1 : 0 ≤ i
              · have n2 : ¬ i < min (j : Int) 8 := by omega
                clear hin
                have N0 : numOf (⟨4, 64 + (pl : Int), 0, 0, min (j : Int) 8, want f j⟩ : AC) i 0 = 0 := by unfold numOf; first | rw [if_pos (by show i < 0 ∨ 8 ≤ i ∨ min (j : Int) 8 ≤ i; omega)] | (rw [if_neg (by show ¬ (i < 0 ∨ 8 ≤ i ∨ min (j : Int) 8 ≤ i); omega)]; show max (want f j i.toNat) 0 = _; omega)
                have N3 : numOf (⟨4, 64 + (pl : Int), 0, 0, min (j : Int) 8, want f j⟩ : AC) i 3 = 3 := by unfold numOf; first | rw [if_pos (by show i < 0 ∨ 8 ≤ i ∨ min (j : Int) 8 ≤ i; omega)] | (rw [if_neg (by show ¬ (i < 0 ∨ 8 ≤ i ∨ min (j : Int) 8 ≤ i); omega)]; show max (want f j i.toNat) 3 = _; omega)
                have M0 := Lib.hid N0
                have M3 := Lib.hid N3
                clear N0 N3
                go_wp2_with (refine wpList_load_row (by rfl) 30 (.tmp 15) (by rfl) w6.heap.size (by rfl) 30 (AC.cells (⟨4, 64 + (pl : Int), 0, 0, min (j : Int) 8, want f j⟩ : AC)) (0, 0) _ HGR.out Try.underlying30 (by rfl) size30 ?_)
                refine (num_any (⟨4, 64 + (pl : Int), 0, 0, min (j : Int) 8, want f j⟩ : AC) i 0 _).mono ?_
                rw [M0.out]
                rintro e w9 ⟨rfl, hb9⟩
                have hbr9 : Hid (Below w7.heap.size w7 w9) := Lib.hid (HBR.out.trans (hb9.mono HBR.out.size))
                have hgr9 : Hid (w9.heap[w6.heap.size]? = some (.cells (AC.cells (⟨4, 64 + (pl : Int), 0, 0, min (j : Int) 8, want f j⟩ : AC)) 30 (0, 0))) := Lib.hid ((hb9.block _ (lt_of_heap HGR.out)).trans HGR.out)
                clear hb9
                have u0 := cell_of_heap hgr9.out 0 (.int .i64 4) rfl
                have u1 := cell_of_heap hgr9.out 1 (.int .i32 (64 + (pl : Int))) rfl
                have u2 := cell_of_heap hgr9.out 2 (.int .u8 0) rfl
                have u3 := cell_of_heap hgr9.out 3 (.int .u8 0) rfl
                have u4 := cell_of_heap hgr9.out 4 (.int .i64 (min (j : Int) 8)) rfl
                have u5 := cell_of_heap hgr9.out 5 (.int .i64 (want f j 0)) rfl
                have u6 := cell_of_heap hgr9.out 6 (.int .i64 (want f j 1)) rfl
                have u7 := cell_of_heap hgr9.out 7 (.int .i64 (want f j 2)) rfl
                have u8 := cell_of_heap hgr9.out 8 (.int .i64 (want f j 3)) rfl
                have u9 := cell_of_heap hgr9.out 9 (.int .i64 (want f j 4)) rfl
                have u10 := cell_of_heap hgr9.out 10 (.int .i64 (want f j 5)) rfl
                have u11 := cell_of_heap hgr9.out 11 (.int .i64 (want f j 6)) rfl
                have u12 := cell_of_heap hgr9.out 12 (.int .i64 (want f j 7)) rfl
                have hlit : ∀ W, Calls Try.prog 15 #[.agg #[.int .i64 4, .int .i32 (64 + (pl : Int)), .int .u8 0, .int .u8 0, .int .i64 (min (j : Int) 8), .int .i64 (want f j 0), .int .i64 (want f j 1), .int .i64 (want f j 2), .int .i64 (want f j 3), .int .i64 (want f j 4), .int .i64 (want f j 5), .int .i64 (want f j 6), .int .i64 (want f j 7)], .int .i64 i, .int .i64 3] W fun e w' => e = .returned (.int .i64 (numOf (⟨4, 64 + (pl : Int), 0, 0, min (j : Int) 8, want f j⟩ : AC) i 3)) ∧ Below W.heap.size W w' := fun W => num_any (⟨4, 64 + (pl : Int), 0, 0, min (j : Int) 8, want f j⟩ : AC) i 3 W
                have HLIT := Lib.hid hlit
                clear hlit
                go_wp2_with fail
                refine (HLIT.out _).mono ?_
                rw [M3.out]
                rintro e w10 ⟨rfl, hb10⟩
                have hbr10 : Below w7.heap.size w7 w10 := hbr9.out.trans (hb10.mono hbr9.out.size)
                clear hb10
                go_wp2_with fail
                go_roundw
                case rel => exact ⟨i + 1, by omega, by omega, rfl, hbr10⟩
                case measure => simp [intOf]; omega
              · clear hin
                have N0 : numOf (⟨4, 64 + (pl : Int), 0, 0, min (j : Int) 8, want f j⟩ : AC) i 0 = 0 := by unfold numOf; first | rw [if_pos (by show i < 0 ∨ 8 ≤ i ∨ min (j : Int) 8 ≤ i; omega)] | (rw [if_neg (by show ¬ (i < 0 ∨ 8 ≤ i ∨ min (j : Int) 8 ≤ i); omega)]; show max (want f j i.toNat) 0 = _; omega)
                have N3 : numOf (⟨4, 64 + (pl : Int), 0, 0, min (j : Int) 8, want f j⟩ : AC) i 3 = 3 := by unfold numOf; first | rw [if_pos (by show i < 0 ∨ 8 ≤ i ∨ min (j : Int) 8 ≤ i; omega)] | (rw [if_neg (by show ¬ (i < 0 ∨ 8 ≤ i ∨ min (j : Int) 8 ≤ i); omega)]; show max (want f j i.toNat) 3 = _; omega)
                have M0 := Lib.hid N0
                have M3 := Lib.hid N3
                clear N0 N3
                go_wp2_with (refine wpList_load_row (by rfl) 30 (.tmp 15) (by rfl) w6.heap.size (by rfl) 30 (AC.cells (⟨4, 64 + (pl : Int), 0, 0, min (j : Int) 8, want f j⟩ : AC)) (0, 0) _ HGR.out Try.underlying30 (by rfl) size30 ?_)
                refine (num_any (⟨4, 64 + (pl : Int), 0, 0, min (j : Int) 8, want f j⟩ : AC) i 0 _).mono ?_
                rw [M0.out]
                rintro e w9 ⟨rfl, hb9⟩
                have hbr9 : Hid (Below w7.heap.size w7 w9) := Lib.hid (HBR.out.trans (hb9.mono HBR.out.size))
                have hgr9 : Hid (w9.heap[w6.heap.size]? = some (.cells (AC.cells (⟨4, 64 + (pl : Int), 0, 0, min (j : Int) 8, want f j⟩ : AC)) 30 (0, 0))) := Lib.hid ((hb9.block _ (lt_of_heap HGR.out)).trans HGR.out)
                clear hb9
                have u0 := cell_of_heap hgr9.out 0 (.int .i64 4) rfl
                have u1 := cell_of_heap hgr9.out 1 (.int .i32 (64 + (pl : Int))) rfl
                have u2 := cell_of_heap hgr9.out 2 (.int .u8 0) rfl
                have u3 := cell_of_heap hgr9.out 3 (.int .u8 0) rfl
                have u4 := cell_of_heap hgr9.out 4 (.int .i64 (min (j : Int) 8)) rfl
                have u5 := cell_of_heap hgr9.out 5 (.int .i64 (want f j 0)) rfl
                have u6 := cell_of_heap hgr9.out 6 (.int .i64 (want f j 1)) rfl
                have u7 := cell_of_heap hgr9.out 7 (.int .i64 (want f j 2)) rfl
                have u8 := cell_of_heap hgr9.out 8 (.int .i64 (want f j 3)) rfl
                have u9 := cell_of_heap hgr9.out 9 (.int .i64 (want f j 4)) rfl
                have u10 := cell_of_heap hgr9.out 10 (.int .i64 (want f j 5)) rfl
                have u11 := cell_of_heap hgr9.out 11 (.int .i64 (want f j 6)) rfl
                have u12 := cell_of_heap hgr9.out 12 (.int .i64 (want f j 7)) rfl
                have hlit : ∀ W, Calls Try.prog 15 #[.agg #[.int .i64 4, .int .i32 (64 + (pl : Int)), .int .u8 0, .int .u8 0, .int .i64 (min (j : Int) 8), .int .i64 (want f j 0), .int .i64 (want f j 1), .int .i64 (want f j 2), .int .i64 (want f j 3), .int .i64 (want f j 4), .int .i64 (want f j 5), .int .i64 (want f j 6), .int .i64 (want f j 7)], .int .i64 i, .int .i64 3] W fun e w' => e = .returned (.int .i64 (numOf (⟨4, 64 + (pl : Int), 0, 0, min (j : Int) 8, want f j⟩ : AC) i 3)) ∧ Below W.heap.size W w' := fun W => num_any (⟨4, 64 + (pl : Int), 0, 0, min (j : Int) 8, want f j⟩ : AC) i 3 W
                have HLIT := Lib.hid hlit
                clear hlit
                go_wp2_with fail
                refine (HLIT.out _).mono ?_
                rw [M3.out]
                rintro e w10 ⟨rfl, hb10⟩
                have hbr10 : Below w7.heap.size w7 w10 := hbr9.out.trans (hb10.mono hbr9.out.size)
                clear hb10
                go_wp2_with fail
                go_roundw
                case rel => exact ⟨i + 1, by omega, by omega, rfl, hbr10⟩
                case measure => simp [intOf]; omega
          · obtain rfl : i = 9 := by omega
            have hbF := hB7.out.trans (hbr.mono (by omega))
            go_wp2_with fail
            go_returns
            exact ⟨rfl, hbF⟩
end Numbers
end Esc
end Go.Proofs.Ytgbpmefiafoliaa
