/- HandsOnce returns true for every input, and leaves what was there as it was. No condition. -/
import Derived.Test.YtibpnemfgnaepaaOncePlain
import Derived.ProofKit
import Derived.OpenShut
import Derived.ShutString
import Derived.ChangeOld
import Derived.Deep.LoopGhost
import Derived.Deep.DeepCutAuto
namespace Go.Proofs.Ytibpnemfgnaepaa
open Go.ChangeShapes Go.WideShapes Go.ChangeAt Go.RowKit
namespace Once

/-- A slice of steps that came in. -/
def InOps (w : World) (a : Option Addr) (len cap : Nat) : Prop :=
  len = 0 ∨ ∃ b off, a = some ⟨b, off, none⟩ ∧ len ≤ cap ∧ cap ≤ maxLen ∧ ∀ i, i < len → ∃ (kd v n : Int) (fr : Bool),
    w.cell? ⟨b, off + i * 4, none⟩ = some (.int .i64 kd) ∧ w.cell? ⟨b, off + i * 4 + 1, none⟩ = some (.int .i64 v) ∧ w.cell? ⟨b, off + i * 4 + 2, none⟩ = some (.int .i64 n) ∧ w.cell? ⟨b, off + i * 4 + 3, none⟩ = some (.bool fr)

theorem hand_any (kd v n : Int) (w : World) :
    Calls Try.prog 12 #[.agg #[.int .i64 kd, .int .i64 v, .int .i64 n, .bool false]] w fun e w' => e = .returned (.agg #[.int .i64 (v % 4), .int .i64 (n % 16)]) ∧ Below w.heap.size w w' := by
  go_enter Try.func12, Try.ntmps12
  go_wp2
  rw [i64_and3, i64_and15]
  go_returns
  exact ⟨rfl, by go_grown⟩

set_option maxRecDepth 100000 in
theorem lit_eq : (#[.bool false, .bool false, .bool false, .bool false, .bool false, .bool false, .bool false, .bool false, .bool false, .bool false, .bool false, .bool false, .bool false, .bool false, .bool false, .bool false, .bool false, .bool false, .bool false, .bool false, .bool false, .bool false, .bool false, .bool false, .bool false, .bool false, .bool false, .bool false, .bool false, .bool false, .bool false, .bool false, .bool false, .bool false, .bool false, .bool false, .bool false, .bool false, .bool false, .bool false, .bool false, .bool false, .bool false, .bool false, .bool false, .bool false, .bool false, .bool false, .bool false, .bool false, .bool false, .bool false, .bool false, .bool false, .bool false, .bool false, .bool false, .bool false, .bool false, .bool false, .bool false, .bool false, .bool false, .bool false] : Array Value) = Array.replicate 64 (.bool false) := by rfl
theorem raised_new (w : World) : RaisedAt (w.alloc (.cells #[.bool false, .bool false, .bool false, .bool false, .bool false, .bool false, .bool false, .bool false, .bool false, .bool false, .bool false, .bool false, .bool false, .bool false, .bool false, .bool false, .bool false, .bool false, .bool false, .bool false, .bool false, .bool false, .bool false, .bool false, .bool false, .bool false, .bool false, .bool false, .bool false, .bool false, .bool false, .bool false, .bool false, .bool false, .bool false, .bool false, .bool false, .bool false, .bool false, .bool false, .bool false, .bool false, .bool false, .bool false, .bool false, .bool false, .bool false, .bool false, .bool false, .bool false, .bool false, .bool false, .bool false, .bool false, .bool false, .bool false, .bool false, .bool false, .bool false, .bool false, .bool false, .bool false, .bool false, .bool false] 34)) w.heap.size (fun _ => false) :=
  ⟨_, heap_alloc_new w _, rfl, fun i hi => by rw [lit_eq]; simp [hi]⟩

set_option maxRecDepth 1000000 in
set_option maxHeartbeats 4000000 in
theorem walk (room : Int) (a0 : Option Addr) (len0 cap0 : Nat) (w : World) (w0 : InOps w a0 len0 cap0) :
    Calls Try.prog 4 #[.int .i64 room, .slice a0 len0 cap0] w fun e w' => e = .returned (.bool true) ∧ Below w.heap.size w w' := by
  go_enter Try.func4, Try.ntmps4
  go_wp2_with fail
  refine (awake_any w).mono ?_
  rintro e w1 ⟨rfl, hb1⟩
  go_wp2_with fail
  have z1 := hb1.size
  refine (tab_new w.heap.size room w1 z1).mono ?_
  rintro e w2 ⟨rfl, hb2, ht2⟩
  have hb3 : Below w.heap.size w w2 := hb1.trans (hb2.mono z1)
  have z2 := hb3.size
  generalize w1.heap.size = t at ht2 ⊢
  clear hb1 hb2 z1
  go_wp2_with fail
  have hstart : ∀ o : Obj, o = .cells #[.bool false, .bool false, .bool false, .bool false, .bool false, .bool false, .bool false, .bool false, .bool false, .bool false, .bool false, .bool false, .bool false, .bool false, .bool false, .bool false, .bool false, .bool false, .bool false, .bool false, .bool false, .bool false, .bool false, .bool false, .bool false, .bool false, .bool false, .bool false, .bool false, .bool false, .bool false, .bool false, .bool false, .bool false, .bool false, .bool false, .bool false, .bool false, .bool false, .bool false, .bool false, .bool false, .bool false, .bool false, .bool false, .bool false, .bool false, .bool false, .bool false, .bool false, .bool false, .bool false, .bool false, .bool false, .bool false, .bool false, .bool false, .bool false, .bool false, .bool false, .bool false, .bool false, .bool false, .bool false] 34 → OW (w2.alloc o) w.heap.size t w2.heap.size ⟨clampR room, fun _ => 0, []⟩ [] (fun _ => false) (.slice none 0 0) (.slice none 0 0) := by
    rintro o rfl
    exact ⟨ht2.alloc _, Held.nil _ _ _ _, raised_new w2, z2, ht2.notin (Nat.le_refl _), by simp [Value.ownBlock], by simp [Value.ownBlock]⟩
  have hst2 := hstart _ rfl
  have hb4 := hb3.alloc z2 (.cells #[.bool false, .bool false, .bool false, .bool false, .bool false, .bool false, .bool false, .bool false, .bool false, .bool false, .bool false, .bool false, .bool false, .bool false, .bool false, .bool false, .bool false, .bool false, .bool false, .bool false, .bool false, .bool false, .bool false, .bool false, .bool false, .bool false, .bool false, .bool false, .bool false, .bool false, .bool false, .bool false, .bool false, .bool false, .bool false, .bool false, .bool false, .bool false, .bool false, .bool false, .bool false, .bool false, .bool false, .bool false, .bool false, .bool false, .bool false, .bool false, .bool false, .bool false, .bool false, .bool false, .bool false, .bool false, .bool false, .bool false, .bool false, .bool false, .bool false, .bool false, .bool false, .bool false, .bool false, .bool false] 34)
  generalize w2.alloc (.cells #[.bool false, .bool false, .bool false, .bool false, .bool false, .bool false, .bool false, .bool false, .bool false, .bool false, .bool false, .bool false, .bool false, .bool false, .bool false, .bool false, .bool false, .bool false, .bool false, .bool false, .bool false, .bool false, .bool false, .bool false, .bool false, .bool false, .bool false, .bool false, .bool false, .bool false, .bool false, .bool false, .bool false, .bool false, .bool false, .bool false, .bool false, .bool false, .bool false, .bool false, .bool false, .bool false, .bool false, .bool false, .bool false, .bool false, .bool false, .bool false, .bool false, .bool false, .bool false, .bool false, .bool false, .bool false, .bool false, .bool false, .bool false, .bool false, .bool false, .bool false, .bool false, .bool false, .bool false, .bool false] 34) = w3 at hst2 hb4 ⊢
  generalize w2.heap.size = rb at hst2 ⊢
  clear hstart ht2 hb3 z2
  obtain ⟨lim, hlim⟩ : ∃ lim : Nat, lim = min len0 60 := ⟨_, rfl⟩
  have l1 : lim ≤ len0 := by omega
  have l2 : lim ≤ 60 := by omega
  have l3 : len0 ≤ lim ∨ 60 ≤ lim := by omega
  clear hlim
  go_loopw [8, 9] (fun gv iv wr => ∃ (k : Nat) (s : TS) (gone : List (Int × Int)) (rz : Nat → Bool) (vt : Value), iv = .int .i64 k ∧ k ≤ lim ∧ s.room = clampR room ∧ s.row.length ≤ s.room ∧ gone.length + s.row.length ≤ k ∧
      Good (gone ++ s.row) rz s.taken ∧ OW wr w.heap.size t rb s gone rz vt gv ∧ Below w.heap.size w wr) (fun _ i _ => lim - (intOf i).toNat)
  case atStart => exact ⟨0, ⟨clampR room, fun _ => 0, []⟩, [], fun _ => false, .slice none 0 0, rfl, by omega, rfl, by simp, by simp, Good.nil _ _, hst2, hb4⟩
  case round =>
    clear hst2 hb4
    obtain ⟨k, s, gone, rz, vt, rfl, hk, hroom, hrow, hlen, hgood, how, hb⟩ := hrel
    obtain ⟨ga, gc, hv, -⟩ := how.gone.shape
    subst hv
    have z := hb.size
    by_cases hlt : k < lim
    · obtain ⟨b, off, rfl, q1, q2, q3⟩ : ∃ b off, a0 = some ⟨b, off, none⟩ ∧ len0 ≤ cap0 ∧ cap0 ≤ maxLen ∧ ∀ i, i < len0 → ∃ (kd v n : Int) (fr : Bool),
          w.cell? ⟨b, off + i * 4, none⟩ = some (.int .i64 kd) ∧ w.cell? ⟨b, off + i * 4 + 1, none⟩ = some (.int .i64 v) ∧ w.cell? ⟨b, off + i * 4 + 2, none⟩ = some (.int .i64 n) ∧ w.cell? ⟨b, off + i * 4 + 3, none⟩ = some (.bool fr) := by
        rcases w0 with h | h
        · omega
        · exact h
      obtain ⟨kd, v, n, fr, c0, c1, c2, c3⟩ := q3 k (by omega)
      have hbl := World.block_lt_of_cell? w _ c0
      rw [← hb.cell (p := ⟨b, off + k * 4, none⟩) hbl] at c0
      rw [← hb.cell (p := ⟨b, off + k * 4 + 1, none⟩) hbl] at c1
      rw [← hb.cell (p := ⟨b, off + k * 4 + 2, none⟩) hbl] at c2
      rw [← hb.cell (p := ⟨b, off + k * 4 + 3, none⟩) hbl] at c3
      have hblr : b < wr.heap.size := World.block_lt_of_cell? wr _ c0
      have i1 : (k : Int) < (len0 : Int) := by omega
      have i2 : (k : Int) < 60 := by omega
      clear q3
      go_wp2_with fail
      refine (hand_any kd v n _).mono ?_
      rintro e w4 ⟨rfl, hb4⟩
      have hO4 : w4.heap[wr.heap.size]? = some (.cells #[.int .i64 kd, .int .i64 v, .int .i64 n, .bool false] 37 (0, 0)) := by rw [hb4.block _ (by simp)]; exact heap_alloc_new wr _
      have how4 := (how.only ((Only.refl [] wr).alloc (.cells #[.int .i64 kd, .int .i64 v, .int .i64 n, .bool false] 37))).only (Only.of_below hb4 [])
      have hbw4 : Below w.heap.size w w4 := (hb.alloc z (.cells #[.int .i64 kd, .int .i64 v, .int .i64 n, .bool false] 37)).trans (hb4.mono (by simp; omega))
      have obs : wr.heap.size < w4.heap.size := lt_of_heap hO4
      have hob : wr.heap.size ∉ fp t vt := how.tab.notin (Nat.le_refl _)
      generalize wr.heap.size = ob at hO4 obs hob ⊢
      clear how hb hb4 z c0 c1 c2 c3 hblr hbl i1 i2
      have z4 := hbw4.size
      obtain ⟨V, hV⟩ : ∃ V : Nat, v % 4 = (V : Int) := ⟨(v % 4).toNat, by omega⟩
      obtain ⟨N, hN⟩ : ∃ N : Nat, n % 16 = (N : Int) := ⟨(n % 16).toNat, by omega⟩
      have hV4 : V < 4 := by omega
      have hN16 : N < 16 := by omega
      rw [hV, hN]
      clear hV hN
      have k4 : w4.cell? ⟨ob, 0, none⟩ = some (.int .i64 kd) := cell_of_heap hO4 0 _ rfl
      go_upto_if 43 with (fail)
      go_cut [8] (fun gv wc => ∃ (s : TS) (gone : List (Int × Int)) (rz : Nat → Bool) (vt : Value), s.room = clampR room ∧ s.row.length ≤ s.room ∧ gone.length + s.row.length ≤ k + 1 ∧
        Good (gone ++ s.row) rz s.taken ∧ OW wc w.heap.size t rb s gone rz vt gv ∧ Below w.heap.size w wc)
      case first =>
        have hroom1 := (clampR_le room).1
        have hroom2 := (clampR_le room).2
        by_cases c : bits BinOp.and IntKind.i64 kd 7 < 5
        · obtain ⟨g1, g2, g3, g4⟩ := raise_good hgood V N hV4 hN16 hrow
          go_wp2_with fail
          refine (tab_raise t w.heap.size s vt V N _ (how4.tab.alloc _) (by simp; omega) (by omega) (by omega)).mono ?_
          rintro e w5 ⟨rfl, hd⟩
          have how5 := how4.only ((Only.refl [] w4).alloc (.cells #[.int .i64 V, .int .i64 N] 27))
          have hbw5 := hbw4.alloc z4 (.cells #[.int .i64 V, .int .i64 N] 27)
          have hh5 : w5.heap[w4.heap.size]? = some (.cells #[.int .i64 V, .int .i64 N] 27 (0, 0)) := Did.other hd (heap_alloc_new w4 _) (how4.tab.notin (Nat.le_refl _))
          have ho5 : w5.heap[ob]? = some (.cells #[.int .i64 kd, .int .i64 v, .int .i64 n, .bool false] 37 (0, 0)) := Did.other hd (by (repeat' (first | (with_reducible assumption) | (with_reducible exact rfl) | (with_reducible refine hk_drew ?_) | (with_reducible refine hk_drewN ?_) | (with_reducible refine hk_alloc ?_ ?_) | (with_reducible refine hk_self ?_ _ _) | (with_reducible refine hk_set ?_ ?_) | omega | (simp; omega)))) hob
          have hbw6 := hbw5.trans (Did.bel how5.tab hd (by simp; omega) (Nat.le_refl _))
          obtain ⟨vt5, how6⟩ := how5.tabStep hd
          have a5 := cell_of_heap hh5 0 _ rfl
          have b5 := cell_of_heap hh5 1 _ rfl
          have rc := how6.raised.cell (V * 16 + N) (by omega)
          have rf := how6.raised.free (V * 16 + N)
          have v1 : (0 : Int) ≤ (V : Int) := by omega
          have v2 : (V : Int) < 4 := by omega
          have n1 : (0 : Int) ≤ (N : Int) := by omega
          have n2 : (N : Int) < 16 := by omega
          clear hd hh5 ho5 hob k4
          have how7 := how6.raisedStep (V * 16 + N)
          have hbw7 := hbw6.setCell (p := ⟨rb, V * 16 + N, none⟩) how6.lo (.bool true)
          go_wp2_with fail
          refine still_tail 6 (by kernel_rfl) (by kernel_rfl) ?_
          simp only [List.take_succ_cons, List.take_zero, List.drop_succ_cons, List.drop_zero]
          repeat still_step
          refine wpStill_nil ?_
          go_wp2_with fail
          go_meet
          exact ⟨_, gone, _, vt5, g4.trans hroom, by omega, by omega, g1, how7.only ((Only.refl [] _).drew), hbw7.drew⟩
        · have cf : ¬ bits BinOp.and IntKind.i64 kd 7 < 5 := c
          clear c
          obtain ⟨g1, g2, g3, g4⟩ := dismiss_good hgood hrow
          by_cases c2 : bits BinOp.and IntKind.i64 kd 7 < 7
          · have how5 := how4.only ((Only.refl [] w4).alloc (.cells #[.int .i64 V, .int .i64 N] 27))
            have hbw5 := hbw4.alloc z4 (.cells #[.int .i64 V, .int .i64 N] 27)
            go_wp2_with fail
            refine (tab_dismiss t w.heap.size s vt _ how5.tab).mono ?_
            rintro e w5 ⟨rfl, hd⟩
            obtain ⟨x, hx⟩ : ∃ x : Int × Int, x = s.dismiss.1 := ⟨_, rfl⟩
            obtain ⟨is, his⟩ : ∃ b : Bool, b = s.dismiss.2.1 := ⟨_, rfl⟩
            rw [← hx, ← his]
            rw [← hx, ← his] at g1
            rw [← his] at g2
            clear hx his
            have hbw6 := hbw5.trans (Did.bel how5.tab hd (by simp; omega) (Nat.le_refl _))
            obtain ⟨vt5, how6⟩ := how5.tabStep hd
            have z6 := hbw6.size
            cases is with
            | false =>
              obtain ⟨g5, g6⟩ := g2 rfl
              clear g1 g2
              go_wp2_with fail
              go_meet
              exact ⟨_, gone, rz, vt5, g4.trans hroom, by omega, by omega, g5, how6.only ((Only.refl [] _).alloc _), hbw6.alloc z6 _⟩
            | true =>
              obtain ⟨g5, g6⟩ := g1 rfl
              clear g1 g2
              obtain ⟨i0, hi0, hz0, hz1, hz2⟩ := info_parts Try.info27
              have how7 := (how6.only ((Only.refl [] w5).alloc (.cells #[.int .i64 x.1, .int .i64 x.2] 27))).only ((Only.refl [] _).alloc (.cells #[.int .i64 x.1, .int .i64 x.2] 27))
              have hbw7 := (hbw6.alloc z6 (.cells #[.int .i64 x.1, .int .i64 x.2] 27)).alloc (by simp; omega) (.cells #[.int .i64 x.1, .int .i64 x.2] 27)
              go_wp2_with (at_builtin; refine wpList_append_held _ rfl _ _ 35 rfl w.heap.size 27 i0 _ 2 16 Try.underlying35 hi0 hz0 hz1 hz2 rfl (by decide) (.slice ga gone.length gc) gone.length (flat gone) rfl how7.gone ⟨w5.heap.size + 1, 0, none⟩ 1 1 [.int .i64 x.1, .int .i64 x.2] rfl rfl (World.news_of_block (cs := #[.int .i64 x.1, .int .i64 x.2]) (t := 27) (fr := (0, 0)) (new_at (by simp))) (by simp [Value.oneCell']) (by omega) (by unfold maxLen; omega) (by omega) (by simp; omega) ?_)
              intro g off1 cap1 w8 hown hgrow hat hlt8
              go_wp2_with fail
              go_meet
              refine ⟨_, gone ++ [x], rz, vt5, g4.trans hroom, by omega, by simp; omega, g5, how7.goneStep (gone' := gone ++ [x]) (n := gone.length + 1) (by simpa [flat_append, flat] using hown) hgrow (by simpa using hat), hbw7.grown hgrow (by simp; omega) (fun k hk => (how7.gone.lt k hk).1)⟩
          · go_wp2_with fail
            go_meet
            exact ⟨s, gone, rz, vt, hroom, hrow, by omega, hgood, how4.only ((Only.refl [] w4).alloc _), hbw4.alloc z4 _⟩
      case rest =>
        clear hgood how4 hbw4 hrow hroom hlen hO4 k4 hob obs z4
        obtain ⟨s, gone, rz, vt, hroom, hrow, hlen, hgood, how, hb⟩ := hcut
        obtain ⟨ga2, gc2, hv2, hn2, -, -, -, hc2⟩ := how.gone.shape
        subst hv2
        have z := hb.size
        have hlen' : gone.length + s.row.length ≤ 60 := by omega
        obtain ⟨i0, hi0, hz0, hz1, hz2⟩ := info_parts Try.info27
        have hlist : ∀ wx, Tab wx w.heap.size t s vt → Calls Try.prog 13 #[.pointer (some ⟨t, 0, none⟩)] wx fun e w' => ∃ a c, e = .returned (.slice a s.row.length c) ∧ (a = none → s.row.length = 0 ∧ c = 0) ∧ (∀ ad, a = some ad → ∀ j u, (flat s.row)[j]? = some u → w'.cell? (ad.add j) = some u) ∧ Below wx.heap.size wx w' := by
          intro wx ht
          refine (tab_list t w.heap.size s vt wx ht (by omega)).mono ?_
          rintro e w' ⟨vr, rfl, h1, h2⟩
          obtain ⟨a, c, rfl, h3, -, -, -, h4⟩ := (Held.own h1).shape
          exact ⟨a, c, rfl, h3, h4, h2⟩
        have HL := Lib.hid hlist
        clear hlist
        have HN2 := Lib.hid hn2
        have hc2' : ∀ ad, ga2 = some ad → ∀ j u, (flat gone)[j]? = some u → (wc.alloc (.cells #[] 27)).cell? (ad.add j) = some u := by
          intro ad had j u hu
          have h := hc2 ad had j u hu
          rw [World.cell?_alloc_lt _ _ _ (World.block_lt_of_cell? _ _ h)]
          exact h
        have HC2 := Lib.hid hc2'
        have H1 := Lib.hid (flat_one gone)
        clear hn2 hc2 hc2'
        go_wp2_with (at_builtin; refine wpList_append_src _ rfl _ _ 35 rfl w.heap.size 27 i0 _ 2 16 Try.underlying35 hi0 hz0 hz1 hz2 rfl (by decide) (.slice (some ⟨wc.heap.size, 0, none⟩) 0 0) 0 [] rfl (Held.own (World.ownsRow_made wc #[] 0 z (by unfold maxLen; omega) rfl)) ga2 gone.length gc2 (flat gone) rfl (flat_length gone) HN2.out HC2.out H1.out (by unfold maxLen; omega) (by omega) (by simp; omega) ?_)
        intro a5 cap5 w5 hown5 hgrow5 hat5
        have ho5 : Only [] wc w5 := ((Only.refl [] wc).alloc (.cells #[] 27)).grown hgrow5 (fun k hk => by simp only [Value.ownBlock, Option.some.injEq] at hk; subst hk; exact .inr (Nat.le_refl _))
        have hat5' : ∀ k, (Value.slice a5 gone.length cap5).ownBlock = some k → wc.heap.size ≤ k := by
          intro k hk
          rcases hat5 k hk with h | h
          · simp [Value.ownBlock] at h; omega
          · omega
        have hb5 := hb.trans (ho5.below z (by simp))
        have how5 := how.only ho5
        have z5 := hb5.size
        clear hat5 hgrow5
        go_wp2_with fail
        refine (HL.out _ how5.tab).mono ?_
        rintro e w6 ⟨al, cl, rfl, l1', l2', hb6⟩
        have hown6 := hown5.only (Only.of_below hb6 []) (by simp)
        have ho6 : Only [] wc w6 := ho5.trans (Only.of_below hb6 [])
        have hb6' := hb5.trans (hb6.mono z5)
        have z6 := hb6'.size
        have HL1 := Lib.hid l1'
        have HL2 := Lib.hid l2'
        have H2 := Lib.hid (flat_one s.row)
        clear l1' l2' HL HN2 HC2 H1 how5 hb5 z5 hown5 ho5 hb6
        go_wp2_with (at_builtin; refine wpList_append_src _ rfl _ _ 35 rfl w.heap.size 27 i0 _ 2 16 Try.underlying35 hi0 hz0 hz1 hz2 rfl (by decide) (.slice a5 gone.length cap5) gone.length (flat gone) rfl hown6 al s.row.length cl (flat s.row) rfl (flat_length s.row) HL1.out HL2.out H2.out (by unfold maxLen; omega) (by omega) (by omega) ?_)
        intro a7 cap7 w7 hown7 hgrow7 hat7
        have ho7 : Only [] wc w7 := ho6.grown hgrow7 (fun k hk => .inr (hat5' k hk))
        have hb7 := hb.trans (ho7.below z (by simp))
        have how7 := how.only ho7
        have hall : Held w7 w.heap.size 27 2 (.slice a7 (gone.length + s.row.length) cap7) (gone ++ s.row).length (flat (gone ++ s.row)) := by
          rw [flat_append, List.length_append]; exact hown7
        have hL : gone.length + s.row.length = (gone ++ s.row).length := by simp
        have hL60 : (gone ++ s.row).length ≤ 60 := by simp; omega
        rw [hL] at hall
        rw [hL]
        have HG := Lib.hid hgood
        obtain ⟨L, hLL⟩ : ∃ L : List (Int × Int), L = gone ++ s.row := ⟨_, rfl⟩
        rw [← hLL] at hall hgood hL60
        rw [← hLL]
        clear hown7 hgrow7 hat7 hat5' hown6 ho6 hb6' z6 HL1 HL2 H2 ho7 how hb z hL hLL
        have z7 := hb7.size
        go_wp2_with fail
        go_loopw [15] (fun jv wx => ∃ j : Nat, j ≤ L.length ∧ jv = .int .i64 j ∧ Only [] w7 wx) (fun jv _ => L.length - (intOf jv).toNat)
        case atStart => exact ⟨0, Nat.zero_le _, rfl, Only.refl _ _⟩
        case round =>
          obtain ⟨wo, rfl⟩ : ∃ wo : World, wo = wr := ⟨_, rfl⟩
          obtain ⟨j, hj, rfl, ho⟩ := hrel
          by_cases hjl : j < L.length
          · obtain ⟨V', N', hxe, hv1, hn1, hn2, hrz, -⟩ := hgood.each (L.getD j (0, 0)) (by simp [List.getD, hjl])
            have hallx := hall.only ho (by simp)
            have howx := how7.only ho
            obtain ⟨ga, oa, ca, hva, -, hgl, -, -, hca⟩ := hallx.form (by omega)
            simp only [Value.slice.injEq, true_and] at hva
            obtain ⟨rfl, rfl⟩ := hva
            have k1 : wo.cell? ⟨ga, oa + j * 2, none⟩ = some (.int .i64 (V' : Int)) := by rw [hca _ _ (flat_get L j hjl).1, hxe]
            have k2 : wo.cell? ⟨ga, oa + j * 2 + 1, none⟩ = some (.int .i64 (N' : Int)) := by
              have h := hca _ _ (flat_get L j hjl).2
              rw [hxe] at h
              exact h
            have rc := howx.raised.cell (V' * 16 + N') (by omega)
            rw [hrz] at rc
            have rl := howx.raised.lt
            have j1 : (j : Int) < (L.length : Int) := by omega
            have v0 : (0 : Int) ≤ (V' : Int) := by omega
            have v2 : (V' : Int) < 4 := by omega
            have n0 : (1 : Int) ≤ (N' : Int) := by omega
            have n2 : (N' : Int) < 16 := by omega
            have d1 : decide ((V' : Int) < 0) = false := by simp
            have d2 : decide (3 < (V' : Int)) = false := by simp; omega
            have d3 : decide ((N' : Int) < 1) = false := by simp; omega
            have d4 : decide (15 < (N' : Int)) = false := by simp; omega
            have HX := Lib.hid hxe
            have HCA := Lib.hid hca
            clear hxe hrz hca howx hallx
            go_wp2_with fail
            go_quiet (fail)
            go_wp2_with fail
            have hox : Only [] w7 ((wo.alloc (.cells #[.int .i64 V', .int .i64 N'] 27)).drewN nq) := (ho.alloc _).drewN _
            have x0 : ((wo.alloc (.cells #[.int .i64 V', .int .i64 N'] 27)).drewN nq).cell? ⟨wo.heap.size, 0, none⟩ = some (.int .i64 V') := cell_of_heap (hk_drewN (new_at rfl)) 0 _ rfl
            have x1 : ((wo.alloc (.cells #[.int .i64 V', .int .i64 N'] 27)).drewN nq).cell? ⟨wo.heap.size, 1, none⟩ = some (.int .i64 N') := cell_of_heap (hk_drewN (new_at rfl)) 1 _ rfl
            have hcy : Before ((wo.alloc (.cells #[.int .i64 V', .int .i64 N'] 27)).drewN nq) ga oa j (V' : Int) (N' : Int) := Before.later (Before.of HCA.out hgood.rise hjl HX.out) hgl _ nq
            have HCY := Lib.hid hcy
            clear hcy k1 k2 rc rl d1 d2 d3 d4 v0 v2 n0 n2
            generalize (wo.alloc (.cells #[.int .i64 V', .int .i64 N'] 27)).drewN nq = wk at hox x0 x1 HCY ⊢
            generalize wo.heap.size = xb at x0 x1 ⊢
            go_loopw [17] (fun iv wx => ∃ i : Nat, i ≤ j ∧ iv = .int .i64 i ∧ ∃ q, wx = wk.drewN q) (fun iv _ => j - (intOf iv).toNat)
            case atStart => exact ⟨0, Nat.zero_le _, rfl, 0, rfl⟩
            case round =>
              obtain ⟨i, hi, rfl, q, rfl⟩ := hrel
              by_cases hij : i < j
              · obtain ⟨a, b, y0, y1, hab⟩ := HCY.out i hij
                have i1 : (i : Int) < (j : Int) := by omega
                have i2 : (i : Int) < (L.length : Int) := by omega
                have i3 : (0 : Int) ≤ (i : Int) := by omega
                by_cases ca : a = V'
                · have hb := hab ca
                  subst ca
                  have e1 : (b == (N' : Int)) = false := by simp; omega
                  have e2 : decide ((N' : Int) < b) = false := by simp; omega
                  clear hab
                  go_wp2_with fail
                  go_quiet (fail)
                  go_wp2_with fail
                  go_roundw
                  case rel => exact ⟨i + 1, by omega, by go_num, _, by first | rfl | (rw [World.drewN_drewN])⟩
                  case measure => simp [intOf]; omega
                · have e1 : (a == (V' : Int)) = false := by simpa using ca
                  clear hab ca
                  go_wp2_with fail
                  go_quiet (fail)
                  go_wp2_with fail
                  go_roundw
                  case rel => exact ⟨i + 1, by omega, by go_num, _, by first | rfl | (rw [World.drewN_drewN])⟩
                  case measure => simp [intOf]; omega
              · have hox' := hox.drewN q
                clear HCY HCA HX x0 x1
                go_wp2_with fail
                go_roundw
                case rel => exact ⟨j + 1, by omega, by go_num, hox'⟩
                case measure => simp [intOf]; omega
          · have how8 := how7.only ho
            have hb8 := hb7.trans (ho.below z7 (by simp))
            have hle : (s.row.length : Int) ≤ (clampR room : Int) := by rw [← hroom]; omega
            have hgd := HG.out
            have hfin : ∃ (k' : Nat) (s' : TS) (gone' : List (Int × Int)) (rz' : Nat → Bool) (vt' : Value), Value.int .i64 ((k : Int) + 1) = .int .i64 k' ∧ k' ≤ lim ∧ s'.room = clampR room ∧ s'.row.length ≤ s'.room ∧ gone'.length + s'.row.length ≤ k' ∧
                Good (gone' ++ s'.row) rz' s'.taken ∧ OW wo w.heap.size t rb s' gone' rz' vt' (.slice ga2 gone.length gc2) ∧ Below w.heap.size w wo :=
              ⟨k + 1, s, gone, rz, vt, by simp, by omega, hroom, hrow, hlen, hgd, how8, hb8⟩
            have HF := Lib.hid hfin
            have ht8 := how8.tab
            clear hfin hgd how8 hb8 hgood HG hlen hrow hroom how7 hall ho hb7 z7 hlen' hL60
            by_cases c1 : room < 1
            · have hc : (s.row.length : Int) ≤ 1 := by have : clampR room = 1 := by { unfold clampR; omega }; omega
              go_wp2_with fail
              refine (tab_len t w.heap.size s vt _ ht8).mono ?_
              rintro e w9 ⟨rfl, rfl⟩
              go_wp2_with fail
              go_roundw
              case rel => exact HF.out
              case measure => simp [intOf]; omega
            · by_cases c2 : 12 < room
              · have hc : (s.row.length : Int) ≤ 12 := by have : clampR room = 12 := by { unfold clampR; omega }; omega
                go_wp2_with fail
                refine (tab_len t w.heap.size s vt _ ht8).mono ?_
                rintro e w9 ⟨rfl, rfl⟩
                go_wp2_with fail
                go_roundw
                case rel => exact HF.out
                case measure => simp [intOf]; omega
              · have hc : (s.row.length : Int) ≤ room := by have : (clampR room : Int) = room := by { unfold clampR; omega }; omega
                go_wp2_with fail
                refine (tab_len t w.heap.size s vt _ ht8).mono ?_
                rintro e w9 ⟨rfl, rfl⟩
                go_wp2_with fail
                go_roundw
                case rel => exact HF.out
                case measure => simp [intOf]; omega
    · by_cases c1 : k < len0
      · have c2 : ¬ k < 60 := by omega
        go_wp2_with fail
        go_returns
        exact ⟨rfl, hb⟩
      · go_wp2_with fail
        go_returns
        exact ⟨rfl, hb⟩
end Once
end Go.Proofs.Ytibpnemfgnaepaa
