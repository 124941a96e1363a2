/- A reader is fed. No condition beyond each theorem's own premises. -/
import Derived.Test.YtfejfgajdjickaaDoorMeans
import Derived.Laws.EntriesVeiled
namespace Go.Proofs.YtfejfgajdjickaaDoor
open Go.RowKit
namespace Keys
theorem endK_ends (s : St) : endK s.tx s.ks = s.ends.ks := by unfold endK St.ends; split <;> rfl
/-- A byte more of a text: the append, and what lies behind the store. -/
theorem add_text {w : World} {p B T Q : Nat} {tx : List UInt8} {l : List K} (h : Inv w B T Q tx l) (b : UInt8) (hB : B ≤ w.heap.size) (hT0 : B ≤ T) (hTQ : T ≠ Q) (hn : tx.length ≤ 10000) :
    ∃ ta tc a' cap' w3, w.cell? ⟨T, 0, none⟩ = some (.slice ta tx.length tc) ∧
      (Builtin.append_ #[41, 41] 41 #[.slice ta tx.length tc, .slice (some ⟨w.heap.size, 0, none⟩) 1 1]).run Tryd.prog (w.alloc (.cells #[.int .u8 (b.toNat : Int)] 5)) = .ok (.slice a' (tx.length + 1) cap') w3 ∧
      w3.cell? ⟨T, 0, none⟩ = some (.slice ta tx.length tc) ∧ w3.frozen? ⟨T, 0, none⟩ = false ∧
      Inv (w3.setCell ⟨T, 0, none⟩ (.slice a' (tx.length + 1) cap')) B T Q (tx ++ [b]) l ∧
      Turn p B T Q w (w3.setCell ⟨T, 0, none⟩ (.slice a' (tx.length + 1) cap')) := by
  obtain ⟨ta, tc, ka, kc, hT, hQ, ht, hk⟩ := h
  have hTl := lt_of_heap hT
  have hQl := lt_of_heap hQ
  obtain ⟨i0, hi, hz0, hz1, hz2⟩ := info_parts info5
  obtain ⟨a', cap', w3, h1, h2, h3, _⟩ := run_append_src (P := Tryd.prog) (w.alloc (.cells #[.int .u8 (b.toNat : Int)] 5)) 41 41 B 5 i0 _ 1 1 Tryd.underlying41 hi hz0 hz1 hz2 rfl (by decide) (.slice ta tx.length tc) tx.length (bs tx) (ht.alloc _) (some ⟨w.heap.size, 0, none⟩) 1 1 (bs [b]) rfl (by simp)
    (by intro ad e; cases e; exact one_at (t := 5) (fr := (0, 0)) (cs := #[.int .u8 (b.toNat : Int)]) (new_at rfl)) (bs_one _) (by unfold maxLen; omega) (by omega) (by simp; omega)
  have keep : ∀ (g t : Nat) (cs : Array Value), t ≠ 5 → w.heap[g]? = some (.cells cs t (0, 0)) → w3.heap[g]? = some (.cells cs t (0, 0)) := fun g t cs hg hb =>
    hk_grown h3 (by have := lt_of_heap hb; simp; omega) (Held_ne ht hb hg) (hk_alloc (lt_of_heap hb) hb)
  have hT3 := keep _ _ _ (by decide) hT
  have hQ3 := keep _ _ _ (by decide) hQ
  have hk3 : Held w3 B 23 3 (.slice ka l.length kc) l.length (kcs l) := hk.keep fun g hg => by
    rcases hk.2 with ⟨e, _⟩ | ⟨g', off, cap, cur, e, _, hg', _⟩
    · rw [e] at hg; simp [Value.ownBlock] at hg
    · rw [e] at hg; simp [Value.ownBlock] at hg; subst hg
      rw [keep _ _ _ (by decide) hg', hg']
  refine ⟨ta, tc, a', cap', w3, cell_of_heap hT 0 _ rfl, h1, cell_of_heap hT3 0 _ rfl, free_of_heap hT3 0, ⟨a', cap', ka, kc, ?_, hk_set (Ne.symm hTQ) hQ3, ?_, ?_⟩, ?_⟩
  · rw [List.length_append]; exact hk_self hT3 0 _
  · rw [List.length_append, bs_append]
    exact h2.setCell (Held_ne h2 hT3 (by decide)) _
  · exact hk3.setCell (Held_ne hk3 hT3 (by decide)) _
  · refine ⟨T :: (Value.slice ta tx.length tc).ownBlock.toList, ?_, ?_⟩
    · refine Only.setCell (Only.grown ((Only.refl _ _).alloc _) h3 ?_) (by simp) _
      intro k e; left; simp [e]
    · intro k hkm
      simp only [List.mem_cons, Option.mem_toList] at hkm
      rcases hkm with rfl | hkm
      · exact .inr ⟨hT0, .inl rfl⟩
      · refine .inr ⟨(ht.lt k hkm).1, .inr (.inr (.inr ?_))⟩
        rcases ht.2 with ⟨e, _⟩ | ⟨g, off, cap, cur, e, _, hg, _⟩
        · rw [e] at hkm; simp [Value.ownBlock] at hkm
        · rw [e] at hkm; simp [Value.ownBlock] at hkm; subst hkm; exact ⟨_, _, _, hg, .inr rfl⟩

/-- What feeding says. -/
def Fed (p : Nat) (s : St) (w : World) (e : Ending) (w' : World) : Prop :=
  ∃ (a : Option Addr) (c : Nat), e = .returned (.slice a s.ks.length c) ∧ Held w' w.heap.size 23 3 (.slice a s.ks.length c) s.ks.length (kcs s.ks) ∧ Only [p] w w' ∧ RAt w' p s.c s.p

theorem Turn.of_T {p B T Q : Nat} {a b : World} (h : Turn T B T Q a b) (hT : B ≤ T) : Turn p B T Q a b := by
  obtain ⟨S, ho, hS⟩ := h
  refine ⟨S, ho, fun k hk => ?_⟩
  rcases hS k hk with rfl | h
  · exact .inr ⟨hT, .inl rfl⟩
  · exact .inr h
theorem Turn.of_below {p B T Q : Nat} {a b : World} (h : Below a.heap.size a b) : Turn p B T Q a b := ⟨[], Only.of_below h _, by simp⟩
theorem Inv.below {B T Q : Nat} {a b : World} {tx : List UInt8} {l : List K} (h : Inv a B T Q tx l) (hb : Below a.heap.size a b) : Inv b B T Q tx l := by
  obtain ⟨ta, tc, ka, kc, h1, h2, h3, h4⟩ := h
  exact ⟨ta, tc, ka, kc, (hb.block _ (lt_of_heap h1)).trans h1, (hb.block _ (lt_of_heap h2)).trans h2, h3.keep fun g hg => hb.block g (h3.lt g hg).2, h4.keep fun g hg => hb.block g (h4.lt g hg).2⟩
theorem Inv.setP {B T Q p o : Nat} {a : World} {c q : Bool} {tx : List UInt8} {l : List K} (h : Inv a B T Q tx l) (hp : RAt a p c q) (u : Value) : Inv (a.setCell ⟨p, o, none⟩ u) B T Q tx l := by
  obtain ⟨ta, tc, ka, kc, h1, h2, h3, h4⟩ := h
  have hp' : a.heap[p]? = some (.cells #[.bool c, .bool q] 30 (0, 0)) := hp
  exact ⟨ta, tc, ka, kc, hk_set (Ne.symm (ne_type hp' h1 (by decide))) h1, hk_set (Ne.symm (ne_type hp' h2 (by decide))) h2, h3.setCell (p := ⟨p, o, none⟩) (Held_ne h3 hp' (by decide)) _, h4.setCell (p := ⟨p, o, none⟩) (Held_ne h4 hp' (by decide)) _⟩
/-- All that stands at a round's head. -/
structure At (w : World) (p H : Nat) (s : St) (wr : World) : Prop where
  inv : Inv wr H (H + 1 + 1) (H + 1) s.tx s.ks
  rat : RAt wr p s.c s.p
  ev : wr.heap[H + 1 + 1 + 1]? = some (.cells #[.func (.func 14) #[] #[.pointer (some ⟨H + 1 + 1, 0, none⟩), .pointer (some ⟨H + 1, 0, none⟩)]] 1 (0, 0))
  rv : wr.heap[H]? = some (.cells #[.pointer (some ⟨p, 0, none⟩)] 28 (0, 0))
  only : Only [p] w wr
  size : H + 1 + 1 + 1 < wr.heap.size

theorem At.turn {w wr w' : World} {p H : Nat} {s s' : St} (h : At w p H s wr) (hH : w.heap.size = H) (hp : p < H) (ht : Turn p H (H + 1 + 1) (H + 1) wr w') (hi : Inv w' H (H + 1 + 1) (H + 1) s'.tx s'.ks) (hr : RAt w' p s'.c s'.p) : At w p H s' w' where
  inv := hi
  rat := hr
  ev := ht.keep h.ev ⟨by decide, by decide⟩ (by omega) (by omega) (by omega)
  rv := ht.keep h.rv ⟨by decide, by decide⟩ (by omega) (by omega) (by omega)
  only := ht.only h.only (by omega)
  size := Nat.lt_of_lt_of_le h.size ht.size
theorem At.setP {w wr : World} {p H o : Nat} {s s' : St} (h : At w p H s wr) (hH : w.heap.size = H) (hp : p < H) (u : Value) (hr : RAt (wr.setCell ⟨p, o, none⟩ u) p s'.c s'.p) (ht : s'.tx = s.tx) (hk : s'.ks = s.ks) : At w p H s' (wr.setCell ⟨p, o, none⟩ u) :=
  h.turn hH hp ((Turn.refl _ _ _ _ _).setP u) (by rw [ht, hk]; exact h.inv.setP h.rat u) hr
theorem At.below {w wr w' : World} {p H : Nat} {s : St} (h : At w p H s wr) (hH : w.heap.size = H) (hp : p < H) (hb : Below wr.heap.size wr w') : At w p H s w' :=
  h.turn hH hp (Turn.of_below hb) (h.inv.below hb) ((hb.block p h.rat.lt).trans h.rat)
theorem At.text {w wr w' : World} {p H : Nat} {s : St} {b : UInt8} (h : At w p H s wr) (hH : w.heap.size = H) (hp : p < H) (ht : Turn (H + 1 + 1) H (H + 1 + 1) (H + 1) wr w') (hi : Inv w' H (H + 1 + 1) (H + 1) (s.tx ++ [b]) s.ks) : At w p H (s.add b) w' :=
  h.turn hH hp (ht.of_T (by omega)) hi (ht.keep h.rat ⟨by decide, by decide⟩ (by omega) (by omega) (by omega))
theorem At.ended {w wr w' : World} {p H : Nat} {s : St} {e : Ending} (h : At w p H s wr) (hH : w.heap.size = H) (hp : p < H) (he : Ended (H + 1 + 1) H (H + 1 + 1) (H + 1) (endK s.tx s.ks) wr e w') : At w p H s.ends w' := by
  obtain ⟨-, hi, ht⟩ := he
  refine h.turn hH hp (ht.of_T (by omega)) (by rw [ends_tx, ← endK_ends]; exact hi) ?_
  rw [ends_c, ends_p]
  exact ht.keep h.rat ⟨by decide, by decide⟩ (by omega) (by omega) (by omega)
theorem At.told {w wr w' : World} {p H : Nat} {s : St} {e : Ending} {m : Int × Int} (h : At w p H s wr) (hH : w.heap.size = H) (hp : p < H) (he : Told p H (H + 1 + 1) (H + 1) (endK s.tx s.ks ++ [⟨m.1, m.2, []⟩]) (after m.1 s.c) s.p wr e w') : At w p H (s.tell m) w' := by
  obtain ⟨-, hi, hr, ht⟩ := he
  refine h.turn hH hp ht ?_ ?_
  · rw [endK_ends] at hi
    simpa [St.tell] using hi
  · simpa [St.tell] using hr
theorem At.endCall {w wr : World} {p H : Nat} {s : St} (h : At w p H s wr) (hH : w.heap.size = H) (hp : p < H) (hl : s.ks.length ≤ 9000) :
    Calls Tryd.prog 14 #[.pointer (some ⟨H + 1 + 1, 0, none⟩), .pointer (some ⟨H + 1, 0, none⟩)] wr fun e w' => e = .returned (.tuple #[]) ∧ At w p H s.ends w' :=
  (ends_any (H + 1 + 1) H (H + 1 + 1) (H + 1) s.tx s.ks wr (by omega) (by omega) (by omega) (by have := h.size; omega) (by omega) h.inv).mono fun _ _ he => ⟨he.1, h.ended hH hp he⟩
theorem At.tellCall {w wr : World} {p H : Nat} {s : St} (h : At w p H s wr) (hH : w.heap.size = H) (hp : p < H) (hl : s.ks.length ≤ 9000) (m : Int × Int) :
    Calls Tryd.prog 15 #[.agg #[.int .i64 m.1, .int .i64 m.2], .pointer (some ⟨H + 1 + 1 + 1, 0, none⟩), .pointer (some ⟨H + 1, 0, none⟩), .pointer (some ⟨H, 0, none⟩)] wr fun e w' => e = .returned (.tuple #[]) ∧ At w p H (s.tell m) w' :=
  (tell_any p H (H + 1 + 1) (H + 1) (H + 1 + 1 + 1) H m.1 m.2 s.tx s.ks s.c s.p wr (by omega) (by omega) (by omega) hp (by have := h.size; omega) hl h.inv h.ev h.rv h.rat).mono fun _ _ he => ⟨he.1, h.told hH hp he⟩

/-- Where a byte stands among others. -/
theorem index_lt (l : List UInt8) (c : UInt8) : Lib.indexByte l c < l.length := by
  induction l with
  | nil => simp [Lib.indexByte]
  | cons a r ih =>
    unfold Lib.indexByte
    split
    · simp
    · split <;> simp <;> omega
theorem behind_pos (b : UInt8) (h : 0 ≤ Lib.indexByte behind b) : ∃ i : Nat, i < 22 ∧ Lib.indexByte behind b = (i : Int) :=
  ⟨(Lib.indexByte behind b).toNat, by have := index_lt behind b; simp [behind] at this ⊢; omega, by omega⟩
theorem copied_pos (b : UInt8) (h : 0 ≤ Lib.indexByte copied b) : ∃ i : Nat, i < 7 ∧ Lib.indexByte copied b = (i : Int) :=
  ⟨(Lib.indexByte copied b).toNat, by have := index_lt copied b; simp [copied] at this ⊢; omega, by omega⟩
theorem index_neg (l : List UInt8) (b : UInt8) (h : ¬ 0 ≤ Lib.indexByte l b) : Lib.indexByte l b = -1 := by have := Lib.indexByte_ge l b; omega

set_option maxRecDepth 100000 in
set_option maxHeartbeats 8000000 in
theorem feed_any (p : Nat) (c q : Bool) (s : ByteArray) (w : World) (hP : RAt w p c q) (hs : s.size ≤ 1000) :
    Calls Tryd.prog 8 #[.pointer (some ⟨p, 0, none⟩), .string s] w (Fed p (feed c q s.data.toList) w) := by
  obtain ⟨H, hH⟩ : ∃ H, w.heap.size = H := ⟨_, rfl⟩
  have hp : p < H := by have := hP.lt; omega
  obtain ⟨W1, h1⟩ : ∃ W1, W1 = w.alloc (.cells #[.pointer (some ⟨p, 0, none⟩)] 28) := ⟨_, rfl⟩
  obtain ⟨W2, h2⟩ : ∃ W2, W2 = W1.alloc (.cells #[.slice none 0 0] 31) := ⟨_, rfl⟩
  obtain ⟨W3, h3⟩ : ∃ W3, W3 = W2.alloc (.cells #[.slice none 0 0] 41) := ⟨_, rfl⟩
  obtain ⟨W4, h4⟩ : ∃ W4, W4 = W3.alloc (.cells #[.nilFunc] 1) := ⟨_, rfl⟩
  have s1 : W1.heap.size = H + 1 := by rw [h1]; simp [hH]
  have s2 : W2.heap.size = H + 1 + 1 := by rw [h2]; simp [s1]
  have s3 : W3.heap.size = H + 1 + 1 + 1 := by rw [h3]; simp [s2]
  have b1 : W1.heap[H]? = some (.cells #[.pointer (some ⟨p, 0, none⟩)] 28 (0, 0)) := by rw [h1]; exact new_at hH
  have b2 : W2.heap[H + 1]? = some (.cells #[.slice none 0 0] 31 (0, 0)) := by rw [h2]; exact new_at s1
  have b3 : W3.heap[H + 1 + 1]? = some (.cells #[.slice none 0 0] 41 (0, 0)) := by rw [h3]; exact new_at s2
  have b4 : W4.heap[H + 1 + 1 + 1]? = some (.cells #[.nilFunc] 1 (0, 0)) := by rw [h4]; exact new_at s3
  have e1 := cell_of_heap b4 0 _ rfl
  have e2 := free_of_heap b4 0
  rw [h4, h3, h2, h1] at e1 e2
  have hstart : At w p H (.new c q) ((((w.alloc (.cells #[.pointer (some ⟨p, 0, none⟩)] 28)).alloc (.cells #[.slice none 0 0] 31)).alloc (.cells #[.slice none 0 0] 41)).alloc (.cells #[.func (.func 14) #[] #[.pointer (some ⟨H + 1 + 1, 0, none⟩), .pointer (some ⟨H + 1, 0, none⟩)]] 1)) := by
    rw [← h1, ← h2, ← h3]
    have l1 := hk_alloc (o := .cells #[.slice none 0 0] 31) (lt_of_heap b1) b1
    rw [← h2] at l1
    have l2 := hk_alloc (o := .cells #[.slice none 0 0] 41) (lt_of_heap l1) l1
    rw [← h3] at l2
    have l3 := hk_alloc (o := .cells #[.slice none 0 0] 41) (lt_of_heap b2) b2
    rw [← h3] at l3
    have p1 := hk_alloc (o := .cells #[.pointer (some ⟨p, 0, none⟩)] 28) (lt_of_heap hP) hP
    rw [← h1] at p1
    have p2 := hk_alloc (o := .cells #[.slice none 0 0] 31) (lt_of_heap p1) p1
    rw [← h2] at p2
    have p3 := hk_alloc (o := .cells #[.slice none 0 0] 41) (lt_of_heap p2) p2
    rw [← h3] at p3
    refine ⟨⟨none, 0, none, 0, hk_alloc (lt_of_heap b3) b3, hk_alloc (lt_of_heap l3) l3, Held.nil _ _ _ _, Held.nil _ _ _ _⟩, hk_alloc (lt_of_heap p3) p3, new_at s3, hk_alloc (lt_of_heap l2) l2, ?_, by simp [s3]⟩
    rw [h3, h2, h1]
    exact ((((Only.refl _ _).alloc _).alloc _).alloc _).alloc _
  have HS := Lib.hid hstart
  have HP0 := Lib.hid hP
  have HH := Lib.hid hH
  clear h1 h2 h3 h4 s1 s2 s3 b1 b2 b3 b4 hstart hP
  go_enter Tryd.func8, Tryd.ntmps8
  go_wp2_with fail
  clear e1 e2 hH
  go_loopw [19] (fun kv wr => ∃ (k : Nat) (st : St), k ≤ s.size ∧ kv = .int .i64 (k : Int) ∧ Hid (run (.new c q) (s.data.toList.take k) = st) ∧ At w p H st wr) (fun kv _ => s.size - (intOf kv).toNat)
  case atStart => exact ⟨0, .new c q, Nat.zero_le _, rfl, Lib.hid rfl, HS.out⟩
  case round =>
    obtain ⟨k, st, hk, rfl, HF, hA⟩ := hrel
    have hb := run_len (.new c q) (s.data.toList.take k)
    rw [HF.out] at hb
    simp only [St.new, List.length_nil, List.length_take, Nat.zero_add] at hb
    have hb1 : st.ks.length ≤ 2000 := by omega
    have hb2 : st.tx.length ≤ 1000 := by omega
    clear hb
    have cR := cell_of_heap hA.rv 0 _ rfl
    have cE := cell_of_heap hA.ev 0 _ rfl
    have c0 := cell_of_heap (show wr.heap[p]? = some (.cells #[.bool st.c, .bool st.p] 30 (0, 0)) from hA.rat) 0 _ rfl
    have c1 := cell_of_heap (show wr.heap[p]? = some (.cells #[.bool st.c, .bool st.p] 30 (0, 0)) from hA.rat) 1 _ rfl
    have c2 := free_of_heap (show wr.heap[p]? = some (.cells #[.bool st.c, .bool st.p] 30 (0, 0)) from hA.rat) 1
    by_cases hlt : k < s.size
    · have hnext : run (.new c q) (s.data.toList.take (k + 1)) = step st s[k] := by
        rw [← HF.out, ← run_snoc]
        congr 1
        rw [List.take_succ_eq_append_getElem (by simpa using hlt)]; rfl
      have HN := Lib.hid hnext
      clear hnext HF
      have k0 : (0 : Int) ≤ (k : Int) := by omega
      cases hp1 : st.p with
      | true =>
        rw [hp1] at c1
        have hA1 : At w p H st.off (wr.setCell ⟨p, 1, none⟩ (.bool false)) := hA.setP HH.out hp _ (hk_self hA.rat 1 (.bool false)) rfl rfl
        by_cases hb : s[k] = 2
        · have t1 : ((s[k].toNat : Int) == 2) = true := by rw [hb]; rfl
          obtain ⟨ta, tc, a', cap', w3, j1, j2, j3, j4, j5, j6⟩ := add_text (p := H + 1 + 1) hA1.inv s[k] (by have := hA1.size; omega) (by omega) (by omega) (by simp only [St.off]; omega)
          have hA2 := hA1.text HH.out hp j6 j5
          have hs1 : step st s[k] = st.off.add s[k] := by simp [step, hp1, hb]
          rw [hs1] at HN
          simp only [St.off] at j1 j2 j3
          rw [show (wr.setCell ⟨p, 1, none⟩ (.bool false)).heap.size = wr.heap.size by simp] at j2
          have J2 := Lib.hid j2
          have HA2 := Lib.hid hA2
          clear hs1 hA1 hA j2 j5 j6 hA2 hp1 hb
          go_wp2_with (at_builtin; refine wpList_append_eq rfl _ _ 41 rfl _ _ _ w3 rfl rfl J2.out ?_)
          go_roundw
          case rel => exact ⟨k + 1, _, by omega, by go_num, HN, HA2.out⟩
          case measure => simp [intOf]; omega
        · have t1 : ((s[k].toNat : Int) == 2) = false := by
            rw [beq_eq_false_iff_ne]
            intro e
            apply hb
            apply UInt8.toNat_inj.1
            simpa using Int.ofNat_inj.1 e
          by_cases hi : 0 ≤ Lib.indexByte behind s[k]
          · obtain ⟨i, hin, hie⟩ := behind_pos _ hi
            obtain ⟨m, hm⟩ : ∃ m, m = behindM.getD i (0, 0) := ⟨_, rfl⟩
            have hs1 : step st s[k] = st.off.tell m := by rw [hm]; exact step_behind st s[k] i hp1 hb hie
            rw [hs1] at HN
            have hx : ∀ W : World, Calls Tryd.prog 16 #[.string ⟨#[37, 34, 111, 120, 99, 110, 112, 100, 91, 49, 50, 51, 52, 53, 54, 55, 56, 57, 104, 108, 107, 106]⟩, .int .u8 (s[k].toNat : Int)] W fun e w' => e = .returned (.int .i64 (i : Int)) ∧ W = w' := by
              intro W
              have := index_byte ⟨#[37, 34, 111, 120, 99, 110, 112, 100, 91, 49, 50, 51, 52, 53, 54, 55, 56, 57, 104, 108, 107, 106]⟩ s[k] W
              rw [show (⟨#[37, 34, 111, 120, 99, 110, 112, 100, 91, 49, 50, 51, 52, 53, 54, 55, 56, 57, 104, 108, 107, 106]⟩ : ByteArray).data.toList = behind from rfl, hie] at this
              exact this
            have HX := Lib.hid hx
            have HM := Lib.hid hm
            have i0 : (0 : Int) ≤ (i : Int) := by omega
            clear hs1 hx hi hie hp1 hb hm
            go_wp2_with fail
            refine (HX.out _).mono ?_
            rintro e w1 ⟨rfl, rfl⟩
            go_wp2_with fail
            refine (behind_any _).mono ?_
            rintro e w2 ⟨rfl, hbel⟩
            have hA2 := hA1.below HH.out hp hbel
            have hat := behind_at i hin w2
            rw [← HM.out] at hat
            clear hbel
            go_wp2_with fail
            refine (hA2.tellCall HH.out hp (by first | (simp only [St.off]; omega) | omega) m).mono ?_
            rintro e w3 ⟨rfl, hA3⟩
            clear hat
            have HA3 := Lib.hid hA3
            clear hA3 hA2
            go_wp2_with fail
            go_roundw
            case rel => exact ⟨k + 1, _, by omega, by go_num, HN, HA3.out⟩
            case measure => simp [intOf]; omega
          · have hie := index_neg _ _ hi
            have hs1 : step st s[k] = st.off := step_behind_no st s[k] hp1 hb hi
            rw [hs1] at HN
            have hx : ∀ W : World, Calls Tryd.prog 16 #[.string ⟨#[37, 34, 111, 120, 99, 110, 112, 100, 91, 49, 50, 51, 52, 53, 54, 55, 56, 57, 104, 108, 107, 106]⟩, .int .u8 (s[k].toNat : Int)] W fun e w' => e = .returned (.int .i64 (-1)) ∧ W = w' := by
              intro W
              have := index_byte ⟨#[37, 34, 111, 120, 99, 110, 112, 100, 91, 49, 50, 51, 52, 53, 54, 55, 56, 57, 104, 108, 107, 106]⟩ s[k] W
              rw [show (⟨#[37, 34, 111, 120, 99, 110, 112, 100, 91, 49, 50, 51, 52, 53, 54, 55, 56, 57, 104, 108, 107, 106]⟩ : ByteArray).data.toList = behind from rfl, hie] at this
              exact this
            have HX := Lib.hid hx
            have HA1 := Lib.hid hA1
            clear hs1 hx hi hie hp1 hb hA1 hA
            go_wp2_with fail
            refine (HX.out _).mono ?_
            rintro e w1 ⟨rfl, rfl⟩
            go_wp2_with fail
            go_roundw
            case rel => exact ⟨k + 1, _, by omega, by go_num, HN, HA1.out⟩
            case measure => simp [intOf]; omega
      | false =>
        rw [hp1] at c1
        by_cases hb : s[k] = 2
        · have t1 : ((s[k].toNat : Int) == 2) = true := by rw [hb]; rfl
          have hs1 : step st s[k] = ⟨st.ends.c, true, st.ends.ks, st.ends.tx⟩ := by simp [step, hp1, hb]
          rw [hs1] at HN
          clear hs1 hb hp1
          go_wp2_with fail
          refine (hA.endCall HH.out hp (by omega)).mono ?_
          rintro e w1 ⟨rfl, hA1⟩
          have d0 := cell_of_heap hA1.rv 0 _ rfl
          have d1 := cell_of_heap (show w1.heap[p]? = some (.cells #[.bool st.ends.c, .bool st.ends.p] 30 (0, 0)) from hA1.rat) 1 _ rfl
          have d2 := free_of_heap (show w1.heap[p]? = some (.cells #[.bool st.ends.c, .bool st.ends.p] 30 (0, 0)) from hA1.rat) 1
          have hA2 : At w p H ⟨st.ends.c, true, st.ends.ks, st.ends.tx⟩ (w1.setCell ⟨p, 1, none⟩ (.bool true)) := hA1.setP HH.out hp _ (hk_self hA1.rat 1 (.bool true)) rfl rfl
          have HA2 := Lib.hid hA2
          clear hA2 hA1 hA cR cE c0 c1 c2
          go_wp2_with fail
          go_roundw
          case rel => exact ⟨k + 1, _, by omega, by go_num, HN, HA2.out⟩
          case measure => simp [intOf]; omega
        · have t1 : ((s[k].toNat : Int) == 2) = false := by
            rw [beq_eq_false_iff_ne]
            intro e
            apply hb
            apply UInt8.toNat_inj.1
            simpa using Int.ofNat_inj.1 e
          cases hc : st.c with
          | false =>
            rw [hc] at c0
            obtain ⟨ta, tc, a', cap', w3, j1, j2, j3, j4, j5, j6⟩ := add_text (p := H + 1 + 1) hA.inv s[k] (by have := hA.size; omega) (by omega) (by omega) (by omega)
            have hA2 := hA.text HH.out hp j6 j5
            have hs1 : step st s[k] = st.add s[k] := by simp [step, hp1, hb, hc]
            rw [hs1] at HN
            have J2 := Lib.hid j2
            have HA2 := Lib.hid hA2
            clear hs1 hA j2 j5 j6 hA2 hp1 hb hc
            go_wp2_with (at_builtin; refine wpList_append_eq rfl _ _ 41 rfl _ _ _ w3 rfl rfl J2.out ?_)
            go_roundw
            case rel => exact ⟨k + 1, _, by omega, by go_num, HN, HA2.out⟩
            case measure => simp [intOf]; omega
          | true =>
            rw [hc] at c0
            by_cases hi : 0 ≤ Lib.indexByte copied s[k]
            · obtain ⟨i, hin, hie⟩ := copied_pos _ hi
              obtain ⟨m, hm⟩ : ∃ m, m = copiedM.getD i (0, 0) := ⟨_, rfl⟩
              have hs1 : step st s[k] = st.tell m := by rw [hm]; exact step_copied st s[k] i hp1 hc hb hie
              rw [hs1] at HN
              have hx : ∀ W : World, Calls Tryd.prog 16 #[.string ⟨#[107, 106, 117, 100, 103, 71, 113]⟩, .int .u8 (s[k].toNat : Int)] W fun e w' => e = .returned (.int .i64 (i : Int)) ∧ W = w' := by
                intro W
                have := index_byte ⟨#[107, 106, 117, 100, 103, 71, 113]⟩ s[k] W
                rw [show (⟨#[107, 106, 117, 100, 103, 71, 113]⟩ : ByteArray).data.toList = copied from rfl, hie] at this
                exact this
              have HX := Lib.hid hx
              have HM := Lib.hid hm
              have i0 : (0 : Int) ≤ (i : Int) := by omega
              clear hs1 hx hi hie hp1 hb hc hm
              go_wp2_with fail
              refine (HX.out _).mono ?_
              rintro e w1 ⟨rfl, rfl⟩
              go_wp2_with fail
              refine (copied_any _).mono ?_
              rintro e w2 ⟨rfl, hbel⟩
              have hA2 := hA.below HH.out hp hbel
              have hat := copied_at i hin w2
              rw [← HM.out] at hat
              clear hbel
              go_wp2_with fail
              refine (hA2.tellCall HH.out hp (by first | (simp only [St.off]; omega) | omega) m).mono ?_
              rintro e w3 ⟨rfl, hA3⟩
              clear hat
              have HA3 := Lib.hid hA3
              clear hA3 hA2
              go_wp2_with fail
              go_roundw
              case rel => exact ⟨k + 1, _, by omega, by go_num, HN, HA3.out⟩
              case measure => simp [intOf]; omega
            · have hie := index_neg _ _ hi
              have hs1 : step st s[k] = st := step_copied_no st s[k] hp1 hc hb hi
              rw [hs1] at HN
              have hx : ∀ W : World, Calls Tryd.prog 16 #[.string ⟨#[107, 106, 117, 100, 103, 71, 113]⟩, .int .u8 (s[k].toNat : Int)] W fun e w' => e = .returned (.int .i64 (-1)) ∧ W = w' := by
                intro W
                have := index_byte ⟨#[107, 106, 117, 100, 103, 71, 113]⟩ s[k] W
                rw [show (⟨#[107, 106, 117, 100, 103, 71, 113]⟩ : ByteArray).data.toList = copied from rfl, hie] at this
                exact this
              have HX := Lib.hid hx
              have HA1 := Lib.hid hA
              clear hs1 hx hi hie hp1 hb hc hA
              go_wp2_with fail
              refine (HX.out _).mono ?_
              rintro e w1 ⟨rfl, rfl⟩
              go_wp2_with fail
              go_roundw
              case rel => exact ⟨k + 1, _, by omega, by go_num, HN, HA1.out⟩
              case measure => simp [intOf]; omega
    · obtain rfl : k = s.size := by omega
      have ht : s.data.toList.take s.size = s.data.toList := List.take_of_length_le (by rw [Array.length_toList]; exact Nat.le_refl _)
      rw [ht] at HF
      have hfe : feed c q s.data.toList = st.ends := by rw [feed, HF.out]
      have HE := Lib.hid hfe
      clear ht HF hfe c0 c1 c2
      go_wp2_with fail
      refine (hA.endCall HH.out hp (by omega)).mono ?_
      rintro e w1 ⟨rfl, hA1⟩
      obtain ⟨ta, tc, ka, kc, m1, m2, m3, m4⟩ := hA1.inv
      have d0 := cell_of_heap m2 0 _ rfl
      have HA1 := Lib.hid hA1
      have M4 := Lib.hid m4
      clear hA1 hA m1 m2 m3 m4 cR cE
      go_wp2_with fail
      go_returns
      rw [HE.out]
      refine ⟨ka, kc, rfl, ?_, HA1.out.only, HA1.out.rat⟩
      rw [HH.out]
      exact M4.out
end Keys
end Go.Proofs.YtfejfgajdjickaaDoor
