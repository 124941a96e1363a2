/- HandsOrder returns true for every input, and leaves what was there as it was. No condition. -/
import Derived.Test.YtibpnemfgnaepaaOrderPlain
import Derived.ProofKit
import Derived.OpenShut
import Derived.ShutString
import Derived.ChangeOld
import Derived.Deep.LoopGhost
namespace Go.Proofs.Ytibpnemfgnaepaa
open Go.ChangeShapes Go.WideShapes Go.ChangeAt Go.RowKit
namespace Order

theorem step1 (n k : Nat) (h : k < 16) (hn : 1 ≤ n) : (hs n 0 (min k n)).raise (k : Int) 5 = (decide (k < n), hs n 0 (min (k + 1) n)) := by
  by_cases c : k < n
  · rw [show min k n = k by omega, show min (k + 1) n = k + 1 by omega, hs_raise n 0 k (by omega) h (by omega)]
    simp [c]
  · rw [show min k n = n by omega, show min (k + 1) n = n by omega, hs_full n 0 n k (by omega) h (by omega)]
    simp [c]
theorem step2 (n m i : Nat) (h : i < m) (hn : 1 ≤ n) : (hs n i (min (n + i) m)).dismiss = (((i : Int), 5), true, hs n (i + 1) (min (n + i) m)) := hs_dismiss n i _ (by omega)
theorem step3 (n m i : Nat) (h : n + i < m) (hm : m ≤ 15) (hn : 1 ≤ n) : (hs n (i + 1) (min (n + i) m)).raise ((n : Int) + (i : Int)) 5 = (true, hs n (i + 1) (min (n + (i + 1)) m)) := by
  rw [show min (n + i) m = n + i by omega, show min (n + (i + 1)) m = n + i + 1 by omega, show (n : Int) + (i : Int) = ((n + i : Nat) : Int) by omega]
  exact hs_raise n (i + 1) (n + i) (by omega) (by omega) (by omega)

set_option maxHeartbeats 1000000 in
theorem walk (room many : Int) (w : World) :
    Calls Try.prog 3 #[.int .i64 room, .int .i64 many] w fun e w' => e = .returned (.bool true) ∧ Below w.heap.size w w' := by
  have r1 := (rem12 room).1
  have r2 := (rem12 room).2
  have r3 := (rem15 many).1
  have r4 := (rem15 many).2
  obtain ⟨n, hn⟩ : ∃ n : Nat, 1 + room.tmod 12 % 12 = (n : Int) := ⟨(1 + room.tmod 12 % 12).toNat, by omega⟩
  obtain ⟨m, hm⟩ : ∃ m : Nat, 1 + many.tmod 15 % 15 = (m : Int) := ⟨(1 + many.tmod 15 % 15).toNat, by omega⟩
  have n1 : 1 ≤ n := by omega
  have n2 : n ≤ 12 := by omega
  have m1 : 1 ≤ m := by omega
  have m2 : m ≤ 15 := by omega
  have HN := Lib.hid hn
  have HM := Lib.hid hm
  clear hn hm
  have hcl : (⟨clampR n, fun _ => 0, []⟩ : TS) = hs n 0 (min 0 n) := by
    rw [show min 0 n = 0 by omega, hs_start]
    congr 1
    unfold clampR; omega
  have HC := Lib.hid hcl
  clear hcl
  go_enter Try.func3, Try.ntmps3
  go_wp2_with fail
  refine (awake_any w).mono ?_
  rintro e w1 ⟨rfl, hb1⟩
  go_wp2_with fail
  rw [HN.out, HM.out]
  clear r1 r2 r3 r4
  have z1 := hb1.size
  refine (tab_new w.heap.size n w1 z1).mono ?_
  rintro e w2 ⟨rfl, hb2, ht2⟩
  rw [HC.out] at ht2
  have hb3 : Below w.heap.size w w2 := hb1.trans (hb2.mono z1)
  generalize w1.heap.size = t at ht2 ⊢
  clear hb1 hb2 z1
  go_wp2_with fail
  go_loopw [9] (fun i wr => ∃ (k : Nat) (v : Value), k ≤ m ∧ i = .int .i64 k ∧ Tab wr w.heap.size t (hs n 0 (min k n)) v ∧ Below w.heap.size w wr) (fun i _ => m - (intOf i).toNat)
  case atStart => exact ⟨0, _, Nat.zero_le _, rfl, ht2, hb3⟩
  case round =>
    obtain ⟨k, v, hk, rfl, ht, hb⟩ := hrel
    have z := hb.size
    by_cases hlt : k < m
    · go_wp2_with fail
      refine (tab_raise t w.heap.size _ v k 5 _ ht z (by rw [hs_room]; exact n1) (by rw [hs_room]; exact n2)).mono ?_
      rw [step1 n k (by omega) n1]
      rintro e w3 ⟨rfl, v3, ht3, ho3, hf3⟩
      have hb3 := hb.trans (ho3.below z (fun k hk => (ht.lt k hk).1))
      go_wp2
      go_roundw
      case rel => exact ⟨k + 1, v3, by omega, by go_num, ht3, hb3⟩
      case measure => simp [intOf]; omega
    · obtain rfl : k = m := by omega
      have ht0 : Tab wr w.heap.size t (hs n 0 (min (n + 0) k)) v := by
        rw [show min (n + 0) k = min k n by omega]; exact ht
      clear ht
      obtain ⟨wa, rfl⟩ : ∃ wa : World, wa = wr := ⟨_, rfl⟩
      go_wp2_with fail
      go_loopw [10] (fun i wr => ∃ (j : Nat) (v : Value), j ≤ k ∧ i = .int .i64 j ∧ Tab wr w.heap.size t (hs n j (min (n + j) k)) v ∧ Below w.heap.size w wr) (fun i _ => k - (intOf i).toNat)
      case atStart => exact ⟨0, v, Nat.zero_le _, rfl, ht0, hb⟩
      case round =>
        clear ht0 hb z
        obtain ⟨j, v, hj, rfl, ht, hb⟩ := hrel
        have z := hb.size
        by_cases hlt : j < k
        · go_wp2_with fail
          refine (tab_dismiss t w.heap.size _ v _ ht).mono ?_
          rw [step2 n k j hlt n1]
          rintro e w3 ⟨rfl, v3, ht3, ho3, hf3⟩
          have hb3 := hb.trans (ho3.below z (fun k hk => (ht.lt k hk).1))
          have z3 := hb3.size
          by_cases hk : n + j < k
          · have hk' : (n : Int) + (j : Int) < (k : Int) := by omega
            by_cases hjn : j < n
            all_goals
              go_wp2_with fail
              refine (tab_raise t w.heap.size _ v3 (n + j) 5 _ (ht3.alloc _) (by simp; omega) (by rw [hs_room]; exact n1) (by rw [hs_room]; exact n2)).mono ?_
              rw [step3 n k j hk m2 n1]
              rintro e w4 ⟨rfl, v4, ht4, ho4, hf4⟩
              have hb4 := (hb3.alloc z3 (.cells #[.int .i64 j, .int .i64 5] 27)).trans (ho4.below (by simp; omega) (fun k hk => (ht3.lt k hk).1))
              go_wp2
              go_roundw
              case rel => exact ⟨j + 1, v4, by omega, by go_num, ht4, hb4⟩
              case measure => simp [intOf]; omega
          · have ht4 : Tab w3 w.heap.size t (hs n (j + 1) (min (n + (j + 1)) k)) v3 := by
              rw [show min (n + (j + 1)) k = min (n + j) k by omega]; exact ht3
            have hk' : ¬ (n : Int) + (j : Int) < (k : Int) := by omega
            by_cases hjn : j < n
            all_goals
              go_wp2
              go_roundw
              case rel => exact ⟨j + 1, v3, by omega, by go_num, ht4.alloc _, hb3.alloc z3 _⟩
              case measure => simp [intOf]; omega
        · obtain rfl : j = k := by omega
          have ht0 : Tab wr w.heap.size t (hs n j j) v := by
            rw [show min (n + j) j = j by omega] at ht; exact ht
          clear ht
          go_wp2_with fail
          refine (tab_dismiss t w.heap.size _ v _ ht0).mono ?_
          rw [hs_empty]
          rintro e w3 ⟨rfl, v3, ht3, ho3, hf3⟩
          have hb3 := hb.trans (ho3.below z (fun k hk => (ht0.lt k hk).1))
          have z3 := hb3.size
          go_wp2_with fail
          refine (tab_len t w.heap.size _ v3 _ (ht3.alloc _)).mono ?_
          rw [hs_len, Nat.sub_self]
          rintro e w4 ⟨rfl, rfl⟩
          go_wp2
          go_returns
          exact ⟨rfl, hb3.alloc z3 _⟩

theorem own : ownKnob Try.prog.godebug = none := by kernel_rfl

set_option maxRecDepth 100000 in
theorem lifted (os : Os) (started : os.Started) (H : Type) (enc : TypeId × Value → H) :
    ReturnsInHanded {} Try.checked os 3 .any (Rows.handsOrderSpec.pre6 enc Try.prog Try.f3 Rows.handsOrderRow.domain false) (Rows.handsOrderSpec.post enc Try.prog Try.f3 false true false false) := by
  refine returnsInHanded_of_change (C := Try.checked) own started (by kernel_rfl) Try.func3
    (ChangeSpec.witness6 (enc := enc) (C := Try.checked) false ⟨#[], #[.int .i64 0, .int .i64 0], []⟩ 8 (by kernel_rfl) (by kernel_rfl) (by kernel_rfl) (by kernel_rfl)) ?_
  intro W base args ds gs before hval0 hW hcnd _
  have hval : ∀ (j : Nat) t v, Try.f3.params[j]? = some t → args[j]? = some v → Value.okWide Try.prog W .any base t v := hval0
  have hW' := hW
  obtain ⟨p, q, hA0, hV, rfl, hfz, hnd⟩ := hW
  have hA : DataW.TrodAll enc Try.prog W 0 (fun _ => true) true Try.f3.params.toList args.toList ds p := hA0
  rw [Try.params3] at hA hval
  obtain ⟨v0, vs0, d0, ds0, p0, q0, hargs, rfl, rfl, h0, r0⟩ := trodAll_cons hA
  obtain ⟨v1, vs1, d1, ds1, p1, q1, rfl, rfl, rfl, h1, r1⟩ := trodAll_cons r0
  obtain ⟨rfl, rfl, rfl⟩ := trodAll_nil r1
  obtain rfl : args = #[v0, v1] := by cases args; simp_all
  obtain ⟨rfl, rfl⟩ := trodVars_none hV
  obtain ⟨a0, rfl, rfl, rfl, w0⟩ := open_int Try.underlying3 (hval 0 3 v0 rfl rfl) h0
  obtain ⟨a1, rfl, rfl, rfl, w1⟩ := open_int Try.underlying3 (hval 1 3 v1 rfl rfl) h1
  clear hA0 hval0
  simp only [List.append_nil] at hW'
  refine (walk a0 a1 W).mono fun e W' ⟨he, bel⟩ => ?_
  subst he
  exact ⟨_, rfl, _, _, _, [], [], [], hW', trodAll_mk1 (shut_bool Try.underlying4 _), (trodAll_cons_mk (shut_int Try.underlying3 w0) (trodAll_cons_mk (shut_int Try.underlying3 w1) trodAll_mk0)), rfl, bel.frame _, fun h => by cases h⟩

theorem over : Rows.handsOrderRow.holds Try.pinned (OpenSpec.ofChange Rows.handsOrderSpec) :=
  OpenClaim.holds_of_wide 3 Try.f3 rfl rfl rfl rfl rfl rfl rfl ⟨rfl, rfl, rfl, rfl, rfl⟩ rfl rfl rfl rfl rfl (by kernel_rfl) Try.func3 (by kernel_rfl)
    (of_decide_eq_true (by kernel_rfl)) (by unfold Func.isWrapper; first | (rw [if_pos (by decide +kernel)]; kernel_rfl) | (rw [if_neg (by decide +kernel)]; exact ⟨rfl, rfl⟩))
    (fun os started H enc _ => lifted os started H enc)
end Order

theorem handsOrder_holds : Rows.HandsOrderSaid := Order.over
#print axioms handsOrder_holds
end Go.Proofs.Ytibpnemfgnaepaa
