/- 'first' of the reference for runes, some kinds of a first byte. No condition beyond the theorem's own premises. -/
import Derived.Test.YtaagljkpihecpaaRefBase
namespace Go.Proofs.Ytaagljkpihecpaa
open Go.RowKit
namespace Ru

set_option maxRecDepth 100000 in
set_option maxHeartbeats 1600000 in
theorem refFirst_4 (s : ByteArray) (w : World) (hs : 0 < s.size) (hm : s.size ≤ 1000000) (c1 : 237 ≤ s[0].toNat) (c2 : s[0].toNat ≤ 237) : Calls Try.prog 25 #[.string s] w (SaysP s w) := by
  have hf : first (nb s) = run 2 128 159 (s[0].toNat - 224) 1 ((nb s).drop 1) := by
    have hk : kind s[0].toNat = 2 := by unfold kind; repeat (first | rw [if_pos (by omega)] | rw [if_neg (by omega)])
    have h1 : least s[0].toNat = 128 := by unfold least; repeat (first | rw [if_pos (by omega)] | rw [if_neg (by omega)])
    have h2 : most s[0].toNat = 159 := by unfold most; repeat (first | rw [if_pos (by omega)] | rw [if_neg (by omega)])
    have h3 : init s[0].toNat = s[0].toNat - 224 := by unfold init; (repeat (first | rw [if_pos (by omega)] | rw [if_neg (by omega)])); omega
    rw [nb_cons s hs, first_kind hk (by decide) (by decide), h1, h2, h3]
    rfl
  have hacc0 : s[0].toNat - 224 < lim 2 := by simp [lim]; omega
  have HF := Lib.hid hf
  have HA := Lib.hid hacc0
  clear hf hacc0
  go_enter Try.func25, Try.ntmps25
  go_wp2_with fail
  refine (follows_4 s[0].toNat _ c1 c2).mono ?_
  rintro e w1 ⟨rfl, hb1⟩
  have z1 : w.heap.size < w1.heap.size := by have := hb1.size; simp at this; omega
  have hp1 : w1.heap[w.heap.size]? = some (.cells #[.int .i64 0, .int .i32 0, .bool false] 53 (0, 0)) := by rw [hb1.block _ (by simp)]; exact heap_alloc_new w _
  have p0 := cell_of_heap hp1 0 _ rfl
  have p1 := cell_of_heap hp1 1 _ rfl
  have p2 := cell_of_heap hp1 2 _ rfl
  have f0 := free_of_heap hp1 0
  have f1 := free_of_heap hp1 1
  have f2 := free_of_heap hp1 2
  have hbw : Below w.heap.size w w1 := ((Below.refl _ _).alloc (Nat.le_refl _) _).trans (hb1.mono (by simp))
  go_wp2_with fail
  go_loop [4, 5] (fun rv sv => ∃ m lo hi acc sz : Nat, rv = .int .i64 acc ∧ sv = .int .i64 sz ∧ sz + m = 2 + 1 ∧ 1 ≤ sz ∧ sz ≤ s.size ∧ acc < lim m ∧ (sz = 1 ∧ lo = 128 ∧ hi = 159 ∨ 1 < sz ∧ lo = 128 ∧ hi = 191) ∧ first (nb s) = run m lo hi acc sz ((nb s).drop sz)) (fun _ sv => 10 - (intOf sv).toNat)
  case atStart => exact ⟨2, 128, 159, s[0].toNat - 224, 1, by first | rfl | (simp; omega), rfl, by omega, by omega, by omega, HA.out, .inl ⟨rfl, rfl, rfl⟩, HF.out⟩
  case round =>
    clear HF HA
    obtain ⟨m, lo, hi, acc, sz, rfl, rfl, hsm, h1, hsz, hacc, hlh, hrun⟩ := hrel
    cases m with
    | zero =>
      rw [run_zero] at hrun
      have hsz' : sz = 2 + 1 := by omega
      subst hsz'
      have hacc2 : acc < 2097152 := Nat.lt_of_lt_of_le hacc (lim_le _)
      have HF := Lib.hid hrun
      clear hrun hacc hlh
      go_wp2
      refine bodyPost_ret (v := .agg #[.int .i64 3, .int .i32 (acc : Int), .bool false]) (by simp [results, Try.results25, go_sem, z1, p0, p1, p2]) rfl ⟨?_, ?_⟩
      · rw [part_of HF.out]; first | done | rfl
      · go_grown
    | succ m =>
      by_cases he : sz = s.size
      · rw [he, nb_end, run_open] at hrun
        have he1 : (s.size : Int) ≤ (sz : Int) := by omega
        have HE := Lib.hid he
        have HF := Lib.hid hrun
        clear hrun hacc he hlh
        go_wp2
        refine bodyPost_ret (v := .agg #[.int .i64 (sz : Int), .int .i32 65533, .bool true]) (by simp [results, Try.results25, go_sem, z1, p0, p1, p2]) rfl ⟨?_, ?_⟩
        · rw [part_of HF.out]; rw [HE.out]; first | done | rfl
        · go_grown
      · have hlt : sz < s.size := by omega
        have h256 : s[sz].toNat < 256 := s[sz].toNat_lt
        rw [nb_drop s sz hlt] at hrun
        have hacc2 : acc < 2097152 := Nat.lt_of_lt_of_le hacc (lim_le _)
        have he1 : ¬ (s.size : Int) ≤ (sz : Int) := by omega
        clear he
        by_cases hb : s[sz].toNat < lo
        · rw [run_low hb] at hrun
          have HF := Lib.hid hrun
          clear hrun hacc
          rcases hlh with ⟨rfl, rfl, rfl⟩ | ⟨hl1, rfl, rfl⟩
          · go_wp2
            refine bodyPost_ret (v := .agg #[.int .i64 1, .int .i32 65533, .bool false]) (by simp [results, Try.results25, go_sem, z1, p0, p1, p2]) rfl ⟨?_, ?_⟩
            · rw [part_of HF.out]; first | done | rfl
            · go_grown
          · have e1 : ((sz : Int) == 1) = false := by simp; omega
            go_wp2
            refine bodyPost_ret (v := .agg #[.int .i64 (sz : Int), .int .i32 65533, .bool false]) (by simp [results, Try.results25, go_sem, z1, p0, p1, p2]) rfl ⟨?_, ?_⟩
            · rw [part_of HF.out]; first | done | rfl
            · go_grown
        · by_cases hb2 : hi < s[sz].toNat
          · rw [run_high hb2] at hrun
            have HF := Lib.hid hrun
            clear hrun hacc
            rcases hlh with ⟨rfl, rfl, rfl⟩ | ⟨hl1, rfl, rfl⟩
            · go_wp2
              refine bodyPost_ret (v := .agg #[.int .i64 1, .int .i32 65533, .bool false]) (by simp [results, Try.results25, go_sem, z1, p0, p1, p2]) rfl ⟨?_, ?_⟩
              · rw [part_of HF.out]; first | done | rfl
              · go_grown
            · have e1 : ((sz : Int) == 1) = false := by simp; omega
              go_wp2
              refine bodyPost_ret (v := .agg #[.int .i64 (sz : Int), .int .i32 65533, .bool false]) (by simp [results, Try.results25, go_sem, z1, p0, p1, p2]) rfl ⟨?_, ?_⟩
              · rw [part_of HF.out]; first | done | rfl
              · go_grown
          · rw [run_in hb hb2] at hrun
            have HR := Lib.hid hrun
            have HA := Lib.hid (lim_step (b := s[sz].toNat) (by omega) hacc)
            have hb64 : s[sz].toNat % 64 = s[sz].toNat - 128 := by omega
            have H64 := Lib.hid hb64
            clear hrun hacc hb64
            rcases hlh with ⟨rfl, rfl, rfl⟩ | ⟨hl1, rfl, rfl⟩
            · go_wp2
              go_round
              case rel => exact ⟨m, 128, 191, acc * 64 + s[1].toNat % 64, 2, by rw [H64.out]; simp; omega, by simp, by omega, by omega, by omega, HA.out, .inr ⟨by omega, rfl, rfl⟩, HR.out⟩
              case measure => simp [intOf]
            · have e1 : ((sz : Int) == 1) = false := by simp; omega
              go_wp2
              go_round
              case rel => exact ⟨m, 128, 191, acc * 64 + s[sz].toNat % 64, sz + 1, by rw [H64.out]; simp; omega, by simp, by omega, by omega, by omega, HA.out, .inr ⟨by omega, rfl, rfl⟩, HR.out⟩
              case measure => simp [intOf]; omega

set_option maxRecDepth 100000 in
set_option maxHeartbeats 1600000 in
theorem refFirst_5 (s : ByteArray) (w : World) (hs : 0 < s.size) (hm : s.size ≤ 1000000) (c1 : 238 ≤ s[0].toNat) (c2 : s[0].toNat ≤ 239) : Calls Try.prog 25 #[.string s] w (SaysP s w) := by
  have hf : first (nb s) = run 2 128 191 (s[0].toNat - 224) 1 ((nb s).drop 1) := by
    have hk : kind s[0].toNat = 2 := by unfold kind; repeat (first | rw [if_pos (by omega)] | rw [if_neg (by omega)])
    have h1 : least s[0].toNat = 128 := by unfold least; repeat (first | rw [if_pos (by omega)] | rw [if_neg (by omega)])
    have h2 : most s[0].toNat = 191 := by unfold most; repeat (first | rw [if_pos (by omega)] | rw [if_neg (by omega)])
    have h3 : init s[0].toNat = s[0].toNat - 224 := by unfold init; (repeat (first | rw [if_pos (by omega)] | rw [if_neg (by omega)])); omega
    rw [nb_cons s hs, first_kind hk (by decide) (by decide), h1, h2, h3]
    rfl
  have hacc0 : s[0].toNat - 224 < lim 2 := by simp [lim]; omega
  have HF := Lib.hid hf
  have HA := Lib.hid hacc0
  clear hf hacc0
  go_enter Try.func25, Try.ntmps25
  go_wp2_with fail
  refine (follows_5 s[0].toNat _ c1 c2).mono ?_
  rintro e w1 ⟨rfl, hb1⟩
  have z1 : w.heap.size < w1.heap.size := by have := hb1.size; simp at this; omega
  have hp1 : w1.heap[w.heap.size]? = some (.cells #[.int .i64 0, .int .i32 0, .bool false] 53 (0, 0)) := by rw [hb1.block _ (by simp)]; exact heap_alloc_new w _
  have p0 := cell_of_heap hp1 0 _ rfl
  have p1 := cell_of_heap hp1 1 _ rfl
  have p2 := cell_of_heap hp1 2 _ rfl
  have f0 := free_of_heap hp1 0
  have f1 := free_of_heap hp1 1
  have f2 := free_of_heap hp1 2
  have hbw : Below w.heap.size w w1 := ((Below.refl _ _).alloc (Nat.le_refl _) _).trans (hb1.mono (by simp))
  go_wp2_with fail
  go_loop [4, 5] (fun rv sv => ∃ m lo hi acc sz : Nat, rv = .int .i64 acc ∧ sv = .int .i64 sz ∧ sz + m = 2 + 1 ∧ 1 ≤ sz ∧ sz ≤ s.size ∧ acc < lim m ∧ (sz = 1 ∧ lo = 128 ∧ hi = 191 ∨ 1 < sz ∧ lo = 128 ∧ hi = 191) ∧ first (nb s) = run m lo hi acc sz ((nb s).drop sz)) (fun _ sv => 10 - (intOf sv).toNat)
  case atStart => exact ⟨2, 128, 191, s[0].toNat - 224, 1, by first | rfl | (simp; omega), rfl, by omega, by omega, by omega, HA.out, .inl ⟨rfl, rfl, rfl⟩, HF.out⟩
  case round =>
    clear HF HA
    obtain ⟨m, lo, hi, acc, sz, rfl, rfl, hsm, h1, hsz, hacc, hlh, hrun⟩ := hrel
    cases m with
    | zero =>
      rw [run_zero] at hrun
      have hsz' : sz = 2 + 1 := by omega
      subst hsz'
      have hacc2 : acc < 2097152 := Nat.lt_of_lt_of_le hacc (lim_le _)
      have HF := Lib.hid hrun
      clear hrun hacc hlh
      go_wp2
      refine bodyPost_ret (v := .agg #[.int .i64 3, .int .i32 (acc : Int), .bool false]) (by simp [results, Try.results25, go_sem, z1, p0, p1, p2]) rfl ⟨?_, ?_⟩
      · rw [part_of HF.out]; first | done | rfl
      · go_grown
    | succ m =>
      by_cases he : sz = s.size
      · rw [he, nb_end, run_open] at hrun
        have he1 : (s.size : Int) ≤ (sz : Int) := by omega
        have HE := Lib.hid he
        have HF := Lib.hid hrun
        clear hrun hacc he hlh
        go_wp2
        refine bodyPost_ret (v := .agg #[.int .i64 (sz : Int), .int .i32 65533, .bool true]) (by simp [results, Try.results25, go_sem, z1, p0, p1, p2]) rfl ⟨?_, ?_⟩
        · rw [part_of HF.out]; rw [HE.out]; first | done | rfl
        · go_grown
      · have hlt : sz < s.size := by omega
        have h256 : s[sz].toNat < 256 := s[sz].toNat_lt
        rw [nb_drop s sz hlt] at hrun
        have hacc2 : acc < 2097152 := Nat.lt_of_lt_of_le hacc (lim_le _)
        have he1 : ¬ (s.size : Int) ≤ (sz : Int) := by omega
        clear he
        by_cases hb : s[sz].toNat < lo
        · rw [run_low hb] at hrun
          have HF := Lib.hid hrun
          clear hrun hacc
          rcases hlh with ⟨rfl, rfl, rfl⟩ | ⟨hl1, rfl, rfl⟩
          · go_wp2
            refine bodyPost_ret (v := .agg #[.int .i64 1, .int .i32 65533, .bool false]) (by simp [results, Try.results25, go_sem, z1, p0, p1, p2]) rfl ⟨?_, ?_⟩
            · rw [part_of HF.out]; first | done | rfl
            · go_grown
          · have e1 : ((sz : Int) == 1) = false := by simp; omega
            go_wp2
            refine bodyPost_ret (v := .agg #[.int .i64 (sz : Int), .int .i32 65533, .bool false]) (by simp [results, Try.results25, go_sem, z1, p0, p1, p2]) rfl ⟨?_, ?_⟩
            · rw [part_of HF.out]; first | done | rfl
            · go_grown
        · by_cases hb2 : hi < s[sz].toNat
          · rw [run_high hb2] at hrun
            have HF := Lib.hid hrun
            clear hrun hacc
            rcases hlh with ⟨rfl, rfl, rfl⟩ | ⟨hl1, rfl, rfl⟩
            · go_wp2
              refine bodyPost_ret (v := .agg #[.int .i64 1, .int .i32 65533, .bool false]) (by simp [results, Try.results25, go_sem, z1, p0, p1, p2]) rfl ⟨?_, ?_⟩
              · rw [part_of HF.out]; first | done | rfl
              · go_grown
            · have e1 : ((sz : Int) == 1) = false := by simp; omega
              go_wp2
              refine bodyPost_ret (v := .agg #[.int .i64 (sz : Int), .int .i32 65533, .bool false]) (by simp [results, Try.results25, go_sem, z1, p0, p1, p2]) rfl ⟨?_, ?_⟩
              · rw [part_of HF.out]; first | done | rfl
              · go_grown
          · rw [run_in hb hb2] at hrun
            have HR := Lib.hid hrun
            have HA := Lib.hid (lim_step (b := s[sz].toNat) (by omega) hacc)
            have hb64 : s[sz].toNat % 64 = s[sz].toNat - 128 := by omega
            have H64 := Lib.hid hb64
            clear hrun hacc hb64
            rcases hlh with ⟨rfl, rfl, rfl⟩ | ⟨hl1, rfl, rfl⟩
            · go_wp2
              go_round
              case rel => exact ⟨m, 128, 191, acc * 64 + s[1].toNat % 64, 2, by rw [H64.out]; simp; omega, by simp, by omega, by omega, by omega, HA.out, .inr ⟨by omega, rfl, rfl⟩, HR.out⟩
              case measure => simp [intOf]
            · have e1 : ((sz : Int) == 1) = false := by simp; omega
              go_wp2
              go_round
              case rel => exact ⟨m, 128, 191, acc * 64 + s[sz].toNat % 64, sz + 1, by rw [H64.out]; simp; omega, by simp, by omega, by omega, by omega, HA.out, .inr ⟨by omega, rfl, rfl⟩, HR.out⟩
              case measure => simp [intOf]; omega
end Ru
end Go.Proofs.Ytaagljkpihecpaa
