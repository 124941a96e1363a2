/- HandsReach returns true for every input, and leaves what was there as it was. No condition. -/
import Derived.Test.YtibpnemfgnaepaaReachWorld
import Derived.Test.YtibpnemfgnaepaaMask
import Derived.ProofKit
import Derived.OpenShut
import Derived.ShutString
import Derived.ChangeOld
import Derived.Deep.LoopGhost
import Derived.Deep.DeepCutAuto
namespace Go.Proofs.Ytibpnemfgnaepaa
open Go.ChangeShapes Go.WideShapes Go.ChangeAt Go.RowKit
namespace Reach

/-- A slice of ints that came in. -/
def InRow (w : World) (a : Option Addr) (len cap : Nat) (zs : List Int) : Prop :=
  (zs = [] ∧ len = 0) ∨
  ∃ b off, a = some ⟨b, off, none⟩ ∧ len ≤ cap ∧ cap ≤ maxLen ∧ zs.length = cap ∧ ∀ i, i < zs.length → w.cell? ⟨b, off + i, none⟩ = some (.int .i64 (zs.getD i 0))

set_option maxRecDepth 1000000 in
set_option maxHeartbeats 2000000 in
theorem walk (a0 : Option Addr) (len0 cap0 : Nat) (z0 : List Int) (lost acks : Int) (w : World) (w0 : InRow w a0 len0 cap0 z0) :
    Calls Try.prog 5 #[.slice a0 len0 cap0, .int .u64 lost, .int .u64 acks] w fun e w' => e = .returned (.bool true) ∧ Below w.heap.size w w' := by
  go_enter Try.func5, Try.ntmps5
  go_wp2_with fail
  refine (awake_any w).mono ?_
  rintro e w1 ⟨rfl, hb1⟩
  go_wp2_with fail
  have z1 := hb1.size
  refine (tab_new w.heap.size 12 w1 z1).mono ?_
  rintro e w2 ⟨rfl, hb2, ht2⟩
  have hb3 : Below w.heap.size w w2 := hb1.trans (hb2.mono z1)
  have z2 := hb3.size
  generalize w1.heap.size = t at ht2 ⊢
  clear hb1 hb2 z1
  go_wp2_with fail
  obtain ⟨lim, hlim⟩ : ∃ lim : Nat, lim = min len0 12 := ⟨_, rfl⟩
  have l1 : lim ≤ len0 := by omega
  have l2 : lim ≤ 12 := by omega
  have l3 : len0 ≤ lim ∨ 12 ≤ lim := by omega
  clear hlim
  have hstart : RW (w2.alloc (.cells #[.int .i64 0, .slice none 0 0] 47)) w.heap.size t w2.heap.size (tabOf (RS.tk ⟨0, [], [], false⟩)) (raiOf ⟨0, [], [], false⟩) (RS.want ⟨0, [], [], false⟩) (.slice none 0 0) (.slice none 0 0) (.slice none 0 0) := by
    have e0 : (⟨clampR 12, fun _ => 0, []⟩ : TS) = tabOf (RS.tk ⟨0, [], [], false⟩) := by
      have : clampR 12 = 12 := by decide
      rw [this]
      simp [tabOf, RS.tk, last_nil]
    rw [e0] at ht2
    have hlt := (ht2.lt t (mem_fp.2 (.inl rfl))).2
    refine ⟨ht2.alloc _, ⟨z2, by simp [Value.ownBlock], Held.nil _ _ _ _, heap_alloc_new w2 _⟩, Held.nil _ _ _ _, ?_, by simp [Value.ownBlock], by simp [Value.ownBlock]⟩
    intro k hk hm
    simp [fp, Value.ownBlock] at hk hm
    omega
  generalize w2.heap.size = r at hstart ⊢
  have hb4 := hb3.alloc z2 (.cells #[.int .i64 0, .slice none 0 0] 47)
  have z4 := hb4.size
  have ok0 : RS.Ok ⟨0, [], [], false⟩ lim := ⟨⟨by simp [RS.want], by simp [RS.want]⟩, by simp [RS.want], by simp, l2, by simp, by simp⟩
  go_loopw [10, 11, 12] (fun wv av iv wr => ∃ (k : Nat) (s : RS) (vt vr : Value), av = .int .i64 s.tried ∧ iv = .int .i64 k ∧ k ≤ 200 ∧ s.Ok lim ∧ (64 ≤ k → s.phi lim ≤ 92 - k) ∧ RW wr w.heap.size t r (tabOf s.tk) (raiOf s) s.want vt vr wv ∧ Below w.heap.size w wr) (fun _ _ i _ => 200 - (intOf i).toNat)
  case atStart => exact ⟨0, ⟨0, [], [], false⟩, _, _, rfl, rfl, by omega, ok0, by omega, hstart, hb4⟩
  case round =>
    obtain ⟨k, s, vt, vr, rfl, rfl, hk, hok, hphi, hrw, hb⟩ := hrel
    obtain ⟨a, cap, hv, -⟩ := hrw.want.shape
    subst hv
    by_cases hlt : k < 200
    · obtain ⟨addB, hadd⟩ : ∃ b : Bool, b = decide (s.tried < lim ∧ s.rr.length < 4) := ⟨_, rfl⟩
      have HADD := Lib.hid hadd
      clear hadd
      go_upto_region 11 with (fail)
      go_cut [41] (fun v wc => v = .bool addB ∧ wr = wc)
      case first =>
        by_cases c1 : s.tried < len0
        · by_cases c2 : s.tried < 12
          · have hA := hrw.rai
            have hrow : (raiOf s).row = s.rr := rfl
            by_cases c3 : s.rr.length < 4
            all_goals
              go_wp2_with fail
              refine (rai_len _ _ _ _ _ hA).mono ?_
              rw [hrow]
              rintro e w' ⟨rfl, rfl⟩
              go_wp2_with fail
              go_meet
              refine ⟨?_, rfl⟩
              rw [HADD.out]
              first | (simp only [Value.bool.injEq, decide_eq_decide]; omega) | (simp; omega)
          · go_wp2_with fail
            go_meet
            refine ⟨?_, rfl⟩
            rw [HADD.out]
            simp
            omega
        · go_wp2_with fail
          go_meet
          refine ⟨?_, rfl⟩
          rw [HADD.out]
          simp
          omega
      case rest =>
        obtain ⟨rfl, rfl⟩ := hcut
        go_upto_if 41 with (fail)
        go_cut [10, 11] (fun wv av wc => ∃ (s1 : RS) (vt vr : Value), av = .int .i64 s1.tried ∧ s1.Ok lim ∧ (64 ≤ k → (s1.rr = [] → s1.phi lim ≤ 91 - k) ∧ s1.phi lim ≤ 92 - k) ∧ RW wc w.heap.size t r (tabOf s1.tk) (raiOf s1) s1.want vt vr wv ∧ Below w.heap.size w wc)
        case first =>
          cases addB with
          | false =>
            have hno := HADD.out
            simp only [Bool.false_eq, decide_eq_false_iff_not] at hno
            go_wp2_with fail
            go_meet
            refine ⟨s, vt, vr, rfl, hok, fun h64 => ⟨fun hr => ?_, hphi h64⟩, hrw, hb⟩
            have := hok.tried
            simp [hr] at hno
            simp [RS.phi, hr]
            omega
          | true =>
            have hyes := HADD.out
            simp only [Bool.true_eq, decide_eq_true_eq] at hyes
            obtain ⟨y1, y2⟩ := hyes
            obtain ⟨b, off, rfl, q1, q2, q3, q4⟩ : ∃ b off, a0 = some ⟨b, off, none⟩ ∧ len0 ≤ cap0 ∧ cap0 ≤ maxLen ∧ z0.length = cap0 ∧ ∀ i, i < z0.length → w.cell? ⟨b, off + i, none⟩ = some (.int .i64 (z0.getD i 0)) := by
              rcases w0 with ⟨_, h⟩ | h
              · omega
              · exact h
            have hcell : wr.cell? ⟨b, off + s.tried, none⟩ = some (.int .i64 (z0.getD s.tried 0)) := by
              have h := q4 s.tried (by omega)
              rw [hb.cell (World.block_lt_of_cell? w _ h)]
              exact h
            generalize z0.getD s.tried 0 = x at hcell
            have i1 : (s.tried : Int) < (len0 : Int) := by omega
            have z := hb.size
            have hwl : s.want.length ≤ 12 := by have := hok.len; have := hok.tried; omega
            have hraw := hrw.rai
            go_wp2_with fail
            rw [i64_and63]
            have n0 : 0 ≤ x % 64 := by omega
            have n1 : x % 64 ≤ 63 := by omega
            generalize x % 64 = n at n0 n1 ⊢
            clear hcell
            refine (rai_raise r w.heap.size _ vr n _ hraw z).mono ?_
            by_cases hn : 0 < n ∧ last s.want < n
            · rw [raise_yes hok y2 hn n1]
              rintro e w3 ⟨rfl, hd3⟩
              have hb3 := hb.trans (RDid.bel hraw hd3 z (Nat.le_refl _))
              have z3 := hb3.size
              obtain ⟨vr3, hrw3⟩ := hrw.raiStep hd3
              have hok3 := next_yes hok y1 y2 hn n1
              have hwant := want_yes s n
              have htk := tk_yes hok n
              obtain ⟨hn1, hn2⟩ := hn
              have hfin : ∀ (g off cap1 : Nat) (w4 : World), Held w4 w.heap.size 3 1 (.slice (some ⟨g, off, none⟩) (s.want.length + 1) cap1) (s.want.length + 1) (ints s.want ++ [.int .i64 n]) →
                  (w3.alloc (.cells #[.int .i64 n] 3)).grownBy w4 (Value.slice a s.want.length cap).ownBlock → ((Value.slice a s.want.length cap).ownBlock = some g ∨ (w3.alloc (.cells #[.int .i64 n] 3)).heap.size ≤ g) →
                  ∃ (s1 : RS) (vt vr : Value), Value.int .i64 ((s.tried : Int) + 1) = .int .i64 s1.tried ∧ s1.Ok lim ∧ (64 ≤ k → (s1.rr = [] → s1.phi lim ≤ 91 - k) ∧ s1.phi lim ≤ 92 - k) ∧ RW w4 w.heap.size t r (tabOf s1.tk) (raiOf s1) s1.want vt vr (.slice (some ⟨g, off, none⟩) (s.want.length + 1) cap1) ∧ Below w.heap.size w w4 := by
                intro g off cap1 w4 hown hgrow hat
                have hrw4 := (hrw3.only ((Only.refl [] w3).alloc _)).wantStep (wl' := s.want ++ [n]) (n := s.want.length + 1) (by simpa [ints_snoc] using hown) hgrow hat
                refine ⟨_, vt, vr3, by simp, hok3, fun h64 => ?_, by rw [htk, hwant]; exact hrw4, (hb3.alloc z3 _).grown hgrow (by simp; omega) (fun k hk => (hrw3.want.lt k hk).1)⟩
                have := hphi h64
                simp only [RS.phi, List.length_append, List.length_singleton] at this ⊢
                exact ⟨fun h => by simp at h, by omega⟩
              have HF := Lib.hid hfin
              have hheld := hrw3.want
              clear hfin htk hwant hok3 hphi
              obtain ⟨i0, hi0, hz0, hz1, hz2⟩ := info_parts Try.info3
              by_cases hw0 : s.want = []
              · have hl0 : s.want.length = 0 := by rw [hw0]; rfl
                have hl1 : ((s.want.length : Int) == 0) = true := by simp [hl0]
                clear hw0 hl0 hn2
                go_wp2_with (at_builtin; refine wpList_append_held _ rfl _ _ 41 rfl w.heap.size 3 i0 _ 1 8 Try.underlying41 hi0 hz0 hz1 hz2 rfl (by decide) (.slice a s.want.length cap) s.want.length (ints s.want) rfl (hheld.alloc _) ⟨w3.heap.size, 0, none⟩ 1 1 [.int .i64 n] rfl rfl (World.news_of_block (cs := #[.int .i64 n]) (t := 3) (fr := (0, 0)) (new_at (by simp))) (by simp [Value.oneCell']) (by omega) (by unfold maxLen; omega) (by omega) (by simp; omega) ?_)
                intro g off cap1 w4 hown hgrow hat hlt4
                go_wp2_with fail
                go_meet
                exact HF.out g off cap1 w4 hown hgrow (by simpa using hat)
              · have hlp : 0 < s.want.length := List.length_pos_iff.2 hw0
                obtain ⟨g0, off0, cap1, hv0, -, -, -, -, hcl⟩ := hheld.form hlp
                simp only [Value.slice.injEq, true_and] at hv0
                obtain ⟨rfl, rfl⟩ := hv0
                have hcl0 : w3.cell? ⟨g0, off0 + (s.want.length - 1), none⟩ = some (.int .i64 (last s.want)) := by
                  exact hcl _ _ (ints_last hw0)
                have hl1 : ((s.want.length : Int) == 0) = false := by simp; exact hw0
                clear hw0 hcl
                generalize last s.want = y at hcl0 hn2
                go_wp2_with (at_builtin; refine wpList_append_held _ rfl _ _ 41 rfl w.heap.size 3 i0 _ 1 8 Try.underlying41 hi0 hz0 hz1 hz2 rfl (by decide) (.slice (some ⟨g0, off0, none⟩) s.want.length cap) s.want.length (ints s.want) rfl (hheld.alloc _) ⟨w3.heap.size, 0, none⟩ 1 1 [.int .i64 n] rfl rfl (World.news_of_block (cs := #[.int .i64 n]) (t := 3) (fr := (0, 0)) (new_at (by simp))) (by simp [Value.oneCell']) (by omega) (by unfold maxLen; omega) (by omega) (by simp; omega) ?_)
                intro g off cap1 w4 hown hgrow hat hlt4
                go_wp2_with fail
                go_meet
                exact HF.out g off cap1 w4 hown hgrow (by simpa using hat)
            · rw [raise_no hok hn]
              rintro e w3 ⟨rfl, hd3⟩
              have hb3 := hb.trans (RDid.bel hraw hd3 z (Nat.le_refl _))
              obtain ⟨vr3, hrw3⟩ := hrw.raiStep hd3
              have hok3 := next_no hok y1
              have hfin : ∃ (s1 : RS) (vt vr : Value), Value.int .i64 ((s.tried : Int) + 1) = .int .i64 s1.tried ∧ s1.Ok lim ∧ (64 ≤ k → (s1.rr = [] → s1.phi lim ≤ 91 - k) ∧ s1.phi lim ≤ 92 - k) ∧ RW w3 w.heap.size t r (tabOf s1.tk) (raiOf s1) s1.want vt vr (.slice a s.want.length cap) ∧ Below w.heap.size w w3 := by
                refine ⟨_, vt, vr3, by simp, hok3, fun h64 => ?_, hrw3, hb3⟩
                have := hphi h64
                simp only [RS.phi] at this ⊢
                exact ⟨fun h => by simp [h] at this ⊢; omega, by omega⟩
              have HF := Lib.hid hfin
              have hheld := hrw3.want
              clear hfin hok3 hphi
              by_cases hn1 : 0 < n
              · have hn2 : n ≤ last s.want := by omega
                have hw0 : s.want ≠ [] := by intro h; rw [h, last_nil] at hn2; omega
                have hlp : 0 < s.want.length := List.length_pos_iff.2 hw0
                obtain ⟨g0, off0, cap1, hv0, -, -, -, -, hcl⟩ := hheld.form hlp
                simp only [Value.slice.injEq, true_and] at hv0
                obtain ⟨rfl, rfl⟩ := hv0
                have hcl0 : w3.cell? ⟨g0, off0 + (s.want.length - 1), none⟩ = some (.int .i64 (last s.want)) := by
                  exact hcl _ _ (ints_last hw0)
                have hl1 : ((s.want.length : Int) == 0) = false := by simp; exact hw0
                clear hw0 hcl hn
                generalize last s.want = y at hcl0 hn2
                go_wp2_with fail
                go_meet
                exact HF.out
              · clear hn
                go_wp2_with fail
                go_meet
                exact HF.out
        case rest =>
          clear hphi hok hrw hb HADD
          obtain ⟨s1, vt1, vr1, rfl, hok, hphi, hrw, hb⟩ := hcut
          have z := hb.size
          have hraw := hrw.rai
          have htab := hrw.tab
          have hphi28 := hok.phi_le
          cases hr : s1.rr with
          | nil =>
            have hh : (raiOf s1).head = (0, false) := by simp [RA.head, raiOf, hr]
            go_wp2_with fail
            refine (rai_head _ _ _ _ _ hraw).mono ?_
            rw [hh]
            rintro e w3 ⟨rfl, rfl⟩
            go_wp2_with fail
            go_roundw
            case rel => exact ⟨k + 1, s1, vt1, vr1, rfl, by go_num, by omega, hok, fun h => by
              by_cases h64 : 64 ≤ k
              · have := (hphi h64).1 hr; omega
              · omega, hrw, hb⟩
            case measure => simp [intOf]; omega
          | cons x rr =>
            have hh : (raiOf s1).head = (x, true) := by simp [RA.head, raiOf, hr]
            have htake := take_head hok hr
            have hdup := dup_state hok hr
            obtain ⟨hok3, hwant3, htk3, hphi3⟩ := ack_state hok hr
            have hrow : (raiOf { s1 with dup := true }).row = x :: rr := hr
            go_wp2_with fail
            refine (rai_head _ _ _ _ _ hraw).mono ?_
            rw [hh]
            rintro e w3 ⟨rfl, rfl⟩
            have hphi4 : 64 ≤ k + 1 → RS.phi ⟨s1.tried, s1.acked ++ [x], rr, false⟩ lim ≤ 92 - (k + 1) := fun h => by
              by_cases h64 : 64 ≤ k
              · have := (hphi h64).2; omega
              · omega
            have hraw3 : raiOf ⟨s1.tried, s1.acked ++ [x], rr, false⟩ = { raiOf s1 with row := rr } := by
              simp only [raiOf, hwant3]
            have HPHI := Lib.hid hphi4
            have HOK := Lib.hid (And.intro hok3 (And.intro htk3 (And.intro hraw3 hwant3)))
            have HD := Lib.hid hdup
            have HR := Lib.hid hr
            clear hphi4 hraw3
            by_cases hk64 : k < 64
            · have hp1 : 64 ≤ k + 1 → s1.phi lim ≤ 92 - (k + 1) := fun h => by omega
              have HP1 := Lib.hid hp1
              clear hp1 hphi
              go_wp2_with fail
              · go_roundw
                case rel => exact ⟨k + 1, s1, vt1, vr1, rfl, by go_num, by omega, hok, HP1.out, hrw, hb⟩
                case measure => simp [intOf]; omega
              · refine (tab_raise t w.heap.size _ vt1 2 x _ htab z (by show 1 ≤ 12; omega) (by show 12 ≤ 12; omega)).mono ?_
                rw [htake]
                rintro e w4 ⟨rfl, hd4⟩
                have hb4 := hb.trans (Did.bel htab hd4 z (Nat.le_refl _))
                have z4 := hb4.size
                obtain ⟨vt4, hrw4⟩ := hrw.tabStep hd4
                have hraw4 := hrw4.rai
                clear hphi28 hdup hok3 hwant3 htk3 hphi3 htake
                go_wp2_with fail
                · refine (rai_ack r w.heap.size _ vr1 x rr _ hraw4 hrow).mono ?_
                  rintro e w5 ⟨rfl, hd5⟩
                  have hb5 := hb4.trans (RDid.bel hraw4 hd5 z4 (Nat.le_refl _))
                  obtain ⟨vr5, hrw5⟩ := hrw4.raiStep hd5
                  go_wp2_with fail
                  go_roundw
                  case rel => exact ⟨k + 1, ⟨s1.tried, s1.acked ++ [x], rr, false⟩, vt4, vr5, rfl, by go_num, by omega, HOK.out.1, HPHI.out, by rw [HOK.out.2.1, HOK.out.2.2.1, HOK.out.2.2.2]; exact hrw5, hb5⟩
                  case measure => simp [intOf]; omega
                · go_roundw
                  case rel => exact ⟨k + 1, { s1 with dup := true }, vt4, vr1, rfl, by go_num, by omega, HD.out, HP1.out, hrw4, hb4⟩
                  case measure => simp [intOf]; omega
            · clear hphi
              go_wp2_with fail
              refine (tab_raise t w.heap.size _ vt1 2 x _ htab z (by show 1 ≤ 12; omega) (by show 12 ≤ 12; omega)).mono ?_
              rw [htake]
              rintro e w4 ⟨rfl, hd4⟩
              have hb4 := hb.trans (Did.bel htab hd4 z (Nat.le_refl _))
              have z4 := hb4.size
              obtain ⟨vt4, hrw4⟩ := hrw.tabStep hd4
              have hraw4 := hrw4.rai
              clear hphi28 hdup hok3 hwant3 htk3 hphi3 htake
              go_wp2_with fail
              refine (rai_ack r w.heap.size _ vr1 x rr _ hraw4 hrow).mono ?_
              rintro e w5 ⟨rfl, hd5⟩
              have hb5 := hb4.trans (RDid.bel hraw4 hd5 z4 (Nat.le_refl _))
              obtain ⟨vr5, hrw5⟩ := hrw4.raiStep hd5
              go_wp2_with fail
              go_roundw
              case rel => exact ⟨k + 1, ⟨s1.tried, s1.acked ++ [x], rr, false⟩, vt4, vr5, rfl, by go_num, by omega, HOK.out.1, HPHI.out, by rw [HOK.out.2.1, HOK.out.2.2.1, HOK.out.2.2.2]; exact hrw5, hb5⟩
              case measure => simp [intOf]; omega
    · obtain rfl : k = 200 := by omega
      have hp0 := hphi (by omega)
      have hr0 : s.rr = [] := by
        cases h : s.rr with
        | nil => rfl
        | cons x l => simp [RS.phi, h] at hp0
      have hd0 : s.dup = false := by
        cases h : s.dup with
        | false => rfl
        | true => exact absurd hr0 (hok.dup h)
      have htk : s.tk = s.want := by simp [RS.tk, RS.want, hd0, hr0]
      have hlen : s.want.length ≤ 12 := by have := hok.len; have := hok.tried; omega
      have hraw := hrw.rai
      have hwh := hrw.want
      have htab := hrw.tab
      rw [htk] at htab
      have hrl : (raiOf s).row.length = 0 := by simp [raiOf, hr0]
      have htl : (tabOf s.want).row.length = s.want.length := by simp [tabOf]
      have htf : flat (tabOf s.want).row = s.want.flatMap fun x => [.int .i64 2, .int .i64 x] := by simp [tabOf, flat, List.flatMap_map]
      clear hp0 hr0 hd0 htk hphi hok hrw
      generalize s.want = wl at *
      go_wp2_with fail
      refine (tab_list t w.heap.size _ vt _ htab (by rw [htl]; omega)).mono ?_
      rw [htl, htf]
      rintro e w3 ⟨vg, rfl, hown, hbl⟩
      have hg := Held.own hown
      obtain ⟨ag, cg, rfl, -⟩ := hg.shape
      have hraw3 := hraw.only (Only.of_below hbl []) (by simp)
      have hw3 := hwh.only (Only.of_below hbl []) (by simp)
      have hbf := hb.trans (hbl.mono hb.size)
      clear hraw hwh hbl hown htab htl htf hb w0 ok0 hstart hb3 hb4
      go_wp2_with fail
      refine (rai_len r w.heap.size _ vr _ hraw3).mono ?_
      rw [hrl]
      rintro e w4 ⟨rfl, rfl⟩
      go_wp2_with fail
      go_loopw [18] (fun i wx => ∃ j : Nat, j ≤ wl.length ∧ i = .int .i64 j ∧ ∃ n, wx = w3.drewN n) (fun i _ => wl.length - (intOf i).toNat)
      case atStart => exact ⟨0, Nat.zero_le _, rfl, 0, rfl⟩
      case round =>
        obtain ⟨j, hj, rfl, n, rfl⟩ := hrel
        by_cases hlt : j < wl.length
        · obtain ⟨g1, o1, c1, hv1, -, -, -, -, cl1⟩ := hg.form (by omega)
          obtain ⟨g2, o2, c2, hv2, -, -, -, -, cl2⟩ := hw3.form (by omega)
          simp only [Value.slice.injEq, true_and] at hv1 hv2
          obtain ⟨rfl, rfl⟩ := hv1
          obtain ⟨rfl, rfl⟩ := hv2
          have k1 : w3.cell? ⟨g1, o1 + j * 2, none⟩ = some (.int .i64 2) := cl1 _ _ (flat2_get wl j hlt).1
          have k2 : w3.cell? ⟨g1, o1 + j * 2 + 1, none⟩ = some (.int .i64 (wl.getD j 0)) := cl1 _ _ (flat2_get wl j hlt).2
          have k3 : w3.cell? ⟨g2, o2 + j, none⟩ = some (.int .i64 (wl.getD j 0)) := cl2 _ _ (ints_get wl j hlt)
          have j1 : (j : Int) < (wl.length : Int) := by omega
          have j2 : (0 : Int) ≤ (j : Int) := by omega
          clear cl1 cl2 hg hw3 hraw3 hrl
          generalize wl.getD j 0 = x at k2 k3
          go_wp2_with fail
          go_quiet (fail)
          go_wp2_with fail
          go_roundw
          case rel => exact ⟨j + 1, by omega, by go_num, _, by first | rfl | (rw [World.drewN_drewN])⟩
          case measure => simp [intOf]; omega
        · go_wp2_with fail
          go_returns
          exact ⟨rfl, below_drewN hbf _⟩
end Reach
end Go.Proofs.Ytibpnemfgnaepaa
