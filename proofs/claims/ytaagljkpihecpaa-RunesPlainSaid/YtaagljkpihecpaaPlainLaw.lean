/- RunesPlain returns true for every input, and leaves what was there as it was. No condition. -/
import Derived.Test.YtaagljkpihecpaaTell
import Derived.Test.YtaagljkpihecpaaClean
import Derived.Test.YtaagljkpihecpaaChain
import Derived.Deep.RegionHeld3
import Derived.Deep.DrawnRows
namespace Go.Proofs.Ytaagljkpihecpaa
open Go.ChangeShapes Go.WideShapes Go.ChangeAt Go.RowKit
namespace Ru
theorem all_ascii (l : List Nat) (h : ∀ b ∈ l, b < 128) : all l = l := by
  induction l with
  | nil => rfl
  | cons b t ih =>
    have hb := h b (by simp)
    have hf : first (b :: t) = (b, 1, false) := by simp [first, kind0 b (by omega)]
    rw [all_step (b :: t) (by simp), hf]
    simp only [List.drop_succ_cons, List.drop_zero]
    rw [ih fun x hx => h x (by simp [hx])]
theorem wraps_u8 (n : Int) (h₀ : 0 ≤ n) (h₁ : n < 2 ^ 8) : IntKind.u8.wrap n = n := by rw [IntKind.wrap_u8]; omega
theorem u8_and7 (x : Int) : bits .and .u8 x 127 = x % 128 := mask_any .u8 8 (by decide) wraps_u8 7 (by decide) x
theorem nb_get (s : ByteArray) (i : Nat) (h : i < s.size) : (nb s)[i]? = some s[i].toNat := by
  have := nb_drop s i h
  have h2 : ((nb s).drop i)[0]? = some s[i].toNat := by rw [this]; rfl
  simpa [List.getElem?_drop] using h2
theorem wid_low (b : Nat) (h : b < 32) : wid (b : Int) = 0 := by unfold wid; rw [if_pos (by omega)]
theorem wid_mid (b : Nat) (h : 32 ≤ b) (h2 : b ≤ 126) : wid (b : Int) = 1 := by unfold wid; rw [if_neg (by omega), if_pos (by omega)]
theorem wid_del : wid 127 = 0 := by decide
theorem wpList_append_rs2 {ops : Array Oper} {rest : List Oper} {o : Oper} {a : Act} {Q : Exit → Act → World → Prop} (hgd : o.guard = none) (s x : Operand)
    (ho : o.op = .call { callee := .builtin .append, args := #[s, x], argTypes := #[32, 32] })
    (w : World) (B B' : Nat) (v : Value) (n : Nat) (xs : List Nat) (hs : a.eval s = v) (hown : Held w B 21 1 v n (rs xs))
    (sa : Option Addr) (m c : Nat) (ys : List Nat) (hx : a.eval x = .slice sa m c) (hsrc : SrcAt w B' sa m c ys) (h63 : n + m ≤ 100000) (hbase : B ≤ w.heap.size)
    (h : ∀ a' cap' w', Held w' B 21 1 (.slice a' (n + m) cap') (n + m) (rs (xs ++ ys)) → Below B w w' → wpList Try.prog ops Q rest (a.put o.dst (.slice a' (n + m) cap')) w') : wpList Try.prog ops Q (o :: rest) a w := by
  obtain ⟨i0, hi0, hz0, hz1, hz2⟩ := info_parts info21
  refine wpList_append_src w hgd s x 32 ho B 21 i0 _ 1 4 Try.underlying32 hi0 hz0 hz1 hz2 rfl (by decide) v n (rs xs) hs hown sa m c (rs ys) hx (by simpa [rs] using hsrc.1) hsrc.2.1 (fun ad ha => (hsrc.2.2 ad ha).2) (rs_one ys) (by unfold maxLen; omega) (by omega) hbase ?_
  intro a' cap' w' h1 h2 h3
  rw [← rs_append] at h1
  exact h a' cap' w' h1 ⟨h2.os, h2.tape, h2.output, h2.size, fun k hk => h2.block k (by omega) (fun e => by have := (hown.lt k e.symm).1; omega)⟩

namespace PlainLaw
/-- The rests by 128 of a text's first bytes. -/
def low (u : ByteArray) (i : Nat) : List Nat := ((nb u).take i).map (· % 128)
theorem low_succ (u : ByteArray) (i : Nat) (h : i < u.size) : low u (i + 1) = low u i ++ [u[i].toNat % 128] := by
  unfold low
  have hl : i < (nb u).length := by rw [nb_length]; exact h
  have := nb_get u i h
  rw [List.getElem?_eq_getElem hl] at this
  rw [List.take_succ_eq_append_getElem hl, List.map_append]
  simp at this
  simp [this]
theorem low_lt (u : ByteArray) (i : Nat) : ∀ b ∈ low u i, b < 128 := by
  intro b hb
  unfold low at hb
  obtain ⟨x, -, rfl⟩ := List.mem_map.1 hb
  omega
theorem low_len (u : ByteArray) (i : Nat) (h : i ≤ u.size) : (low u i).length = i := by simp [low, nb_length]; omega

set_option maxRecDepth 1000000 in
set_option maxHeartbeats 8000000 in
theorem walk (s : ByteArray) (a1 : Option Addr) (n1 c1 : Nat) (xs1 : List Int) (a2 : Option Addr) (n2 c2 : Nat) (xs2 : List Int) (w : World) (h1 : In32 w a1 n1 c1 xs1) (h2 : In32 w a2 n2 c2 xs2) :
    Calls Try.prog 8 #[.string s, .slice a1 n1 c1, .slice a2 n2 c2] w fun e w' => e = .returned (.bool true) ∧ Below w.heap.size w w' := by
  go_enter Try.func8, Try.ntmps8
  go_wp2_with fail
  refine (awake_any w).mono ?_
  rintro e w1 ⟨rfl, hb1⟩
  have z1 := hb1.size
  go_wp2_with fail
  refine (short_any s 40 _ (by decide)).mono ?_
  rintro e w2 ⟨rfl, rfl⟩
  have hu := cut_size s 40
  generalize cut s 40 = u at hu ⊢
  go_wp2_with fail
  go_loopw [8, 9] (fun tv iv wr => ∃ i : Nat, i ≤ u.size ∧ iv = .int .i64 (i : Int) ∧ tv = .string (Str (low u i)) ∧ Below w.heap.size w wr) (fun _ iv _ => u.size - (intOf iv).toNat)
  case atStart => exact ⟨0, Nat.zero_le _, rfl, rfl, hb1⟩
  case round =>
    obtain ⟨i, hi, rfl, rfl, hb⟩ := hrel
    have z := hb.size
    by_cases hlt : i < u.size
    · have i0 : (0 : Int) ≤ (i : Int) := by omega
      have i1 : (i : Int) < (u.size : Int) := by omega
      obtain ⟨b, hbd⟩ : ∃ b : Nat, b = u[i].toNat % 128 := ⟨_, rfl⟩
      have hand : bits .and .u8 (u[i].toNat : Int) 127 = (b : Int) := by rw [u8_and7, hbd]; omega
      have hcv := conv_new wr [b] 1 rfl (by decide) #[.int .u8 (b : Int)] rfl
      have hs : Str (low u (i + 1)) = Str (low u i) ++ Str [b] := by rw [low_succ u i hlt, ← hbd, str_append]
      have hsz : (Str (low u i)).size ≤ 40 := by rw [str_size, low_len u i hi]; omega
      have hsz1 : (Str [b]).size = 1 := str_size _
      have HS := Lib.hid hs
      have HZ : (Str [b]).size ≤ 1 := by omega
      clear hs hbd hsz1
      generalize Str (low u i) = S at HS hsz ⊢
      generalize Str [b] = S1 at HS HZ hcv ⊢
      go_wp2_with fail
      go_roundw
      case rel => exact ⟨i + 1, by omega, by go_num, by rw [HS.out], hb.alloc z _⟩
      case measure => simp [intOf]; omega
    · obtain rfl : i = u.size := by omega
      have hT := nb_str (low u u.size) (fun b hb => by have := low_lt u u.size b hb; omega)
      have hlow := low_lt u u.size
      have hlen := low_len u u.size (Nat.le_refl _)
      have hall := all_ascii (low u u.size) hlow
      rw [← hT] at hlow hlen hall
      rw [hT] at hall
      rw [← hT] at hall
      clear hT
      generalize Str (low u u.size) = t at hlow hlen hall ⊢
      have hts : t.size = u.size := by rw [← nb_length]; exact hlen
      have HALL := Lib.hid hall
      have HLOW := Lib.hid hlow
      have HTS := Lib.hid hts
      have ht40 : t.size ≤ 40 := by omega
      clear hall hlow hlen hts
      have hh1 := h1.keep (hb.mono (Nat.le_refl _))
      have hh2 := h2.keep (hb.mono (Nat.le_refl _))
      clear h1 h2 hlt hi hu hb1 z1
      go_wp2_with fail
      refine (decodeAll_any t wr (by omega)).mono ?_
      rw [HALL.out]
      rintro e w3 ⟨xa, xc, rfl, hx, hb3⟩
      have rx := Reads.of hx
      have hh1' := hh1.keep hb3
      have hh2' := hh2.keep hb3
      have hb3' : Below w.heap.size w w3 := hb.trans (hb3.mono z)
      have z3 := hb3'.size
      clear hx hb hb3 hh1 hh2 z
      rw [show (nb t).length = t.size from nb_length t] at rx ⊢
      have RX := Lib.hid rx
      have H1 := Lib.hid hh1'
      have H2 := Lib.hid hh2'
      clear rx hh1' hh2'
      go_wp2_with fail
      go_loopw [11] (fun iv wr => ∃ i : Nat, i ≤ t.size ∧ iv = .int .i64 (i : Int) ∧ Below w3.heap.size w3 wr) (fun iv _ => t.size - (intOf iv).toNat)
      case atStart => exact ⟨0, Nat.zero_le _, rfl, Below.refl _ _⟩
      case round =>
        obtain ⟨i, hi, rfl, hb⟩ := hrel
        have zr := hb.size
        by_cases hlt : i < t.size
        · obtain ⟨g, off, ea, k1⟩ := RX.out.cells hlt
          subst ea
          obtain ⟨g', off', ea', hg, -⟩ := RX.out.2.resolve_left (by omega)
          obtain ⟨rfl, rfl⟩ : g = g' ∧ off = off' := by simpa using ea'
          have cx := k1 (.int .i32 (t[i].toNat : Int)) (by unfold rs; rw [List.getElem?_map, nb_get t i hlt]; rfl)
          have cw : wr.cell? ⟨g, off + i, none⟩ = some (.int .i32 (t[i].toNat : Int)) := (hb.cell (p := ⟨g, off + i, none⟩) hg).trans cx
          have hgr : g < wr.heap.size := by omega
          have hbl : t[i].toNat < 128 := HLOW.out _ (by have := nb_get t i hlt; exact List.mem_of_getElem? this)
          have i0 : (0 : Int) ≤ (i : Int) := by omega
          have i1 : (i : Int) < (t.size : Int) := by omega
          clear k1 cx ea'
          have b0 : (0 : Int) ≤ (t[i].toNat : Int) := by omega
          have b1 : (t[i].toNat : Int) ≤ 127 := by omega
          have ew : IntKind.i32.wrap (t[i].toNat : Int) = (t[i].toNat : Int) := by rw [IntKind.wrap_i32]; omega
          have e0 : ((t[i].toNat : Int) != (t[i].toNat : Int)) = false := by simp
          have tail : ∀ K : Int, wid (t[i].toNat : Int) = K → ∀ W : World, Calls Try.prog 21 #[.int .i32 (t[i].toNat : Int)] W fun e w' => e = .returned (.int .i64 K) ∧ Below W.heap.size W w' := fun K hK W => by rw [← hK]; exact width_any _ W
          by_cases d1 : t[i].toNat < 32
          · have HW := tail 0 (wid_low _ d1)
            have d2 : ¬ (32 : Int) ≤ (t[i].toNat : Int) := by omega
            clear tail
            go_wp2_with fail
            go_region_held3 (fun w' => w'.cell? ⟨g, off + i, none⟩ = some (.int .i32 (t[i].toNat : Int))) (first | assumption | go_keep)
              ((go_at_call 21; (with_reducible refine (HW _).mono ?_); rintro e w' ⟨rfl, hbk⟩; have hck := (hbk.cell (p := ⟨g, off + i, none⟩) hgr).trans cw))
            have hbn : Below w3.heap.size w3 w' := Below.trans (b := wr.drew) ⟨hb.os, hb.tape, hb.output, hb.size, hb.block⟩ (hbk.mono zr)
            clear ew e0 hck hbk
            go_wp2_with fail
            go_roundw
            case rel => exact ⟨i + 1, by omega, by go_num, hbn⟩
            case measure => simp [intOf]; omega
          · have d2 : (32 : Int) ≤ (t[i].toNat : Int) := by omega
            by_cases d3 : t[i].toNat ≤ 126
            · have HW := tail 1 (wid_mid _ (by omega) d3)
              have d4 : (t[i].toNat : Int) ≤ 126 := by omega
              clear tail
              go_wp2_with fail
              go_region_held3 (fun w' => w'.cell? ⟨g, off + i, none⟩ = some (.int .i32 (t[i].toNat : Int))) (first | assumption | go_keep)
                ((go_at_call 21; (with_reducible refine (HW _).mono ?_); rintro e w' ⟨rfl, hbk⟩; have hck := (hbk.cell (p := ⟨g, off + i, none⟩) hgr).trans cw))
              have hbn : Below w3.heap.size w3 w' := Below.trans (b := wr.drew) ⟨hb.os, hb.tape, hb.output, hb.size, hb.block⟩ (hbk.mono zr)
              clear ew e0 hck hbk
              go_wp2_with fail
              go_roundw
              case rel => exact ⟨i + 1, by omega, by go_num, hbn⟩
              case measure => simp [intOf]; omega
            · have HW := tail 0 (by rw [show t[i].toNat = 127 by omega]; exact wid_del)
              have d4 : ¬ (t[i].toNat : Int) ≤ 126 := by omega
              clear tail
              go_wp2_with fail
              go_region_held3 (fun w' => w'.cell? ⟨g, off + i, none⟩ = some (.int .i32 (t[i].toNat : Int))) (first | assumption | go_keep)
                ((go_at_call 21; (with_reducible refine (HW _).mono ?_); rintro e w' ⟨rfl, hbk⟩; have hck := (hbk.cell (p := ⟨g, off + i, none⟩) hgr).trans cw))
              have hbn : Below w3.heap.size w3 w' := Below.trans (b := wr.drew) ⟨hb.os, hb.tape, hb.output, hb.size, hb.block⟩ (hbk.mono zr)
              clear ew e0 hck hbk
              go_wp2_with fail
              go_roundw
              case rel => exact ⟨i + 1, by omega, by go_num, hbn⟩
              case measure => simp [intOf]; omega
        · obtain rfl : i = t.size := by omega
          have hb5 : Below w.heap.size w wr := hb3'.trans (hb.mono z3)
          have z5 := hb5.size
          have g1 := H1.out.keep hb
          have g2 := H2.out.keep hb
          have f1 := few_reads g1
          have l1 := few_len xs1
          have l2 := few_len xs2
          clear H1 H2 RX HLOW HALL HTS hlt hi hb3' z3 zr hb ht40
          go_wp2_with fail
          refine (few_any a1 n1 c1 xs1 wr g1).mono ?_
          rintro e w6 ⟨rfl, rfl⟩
          go_wp2_with fail
          refine (encode_any a1 (few xs1).length c1 (few xs1) wr f1 (by omega)).mono ?_
          rintro e w6 ⟨rfl, hb6⟩
          have g3 := g2.keep hb6
          have hb6' : Below w.heap.size w w6 := hb5.trans (hb6.mono z5)
          have z6 := hb6'.size
          have f2 := few_reads g3
          clear g1 f1 g2 hb6 hb5 z5
          go_wp2_with fail
          refine (few_any a2 n2 c2 xs2 w6 g3).mono ?_
          rintro e w7 ⟨rfl, rfl⟩
          go_wp2_with fail
          refine (encode_any a2 (few xs2).length c2 (few xs2) w6 f2 (by omega)).mono ?_
          rintro e w7 ⟨rfl, hb7⟩
          have hb7' : Below w.heap.size w w7 := hb6'.trans (hb7.mono z6)
          have z7 := hb7'.size
          clear g3 f2 hb7 hb6' z6
          have v1 := fixes_valid (few xs1)
          have v2 := fixes_valid (few xs2)
          have m1 : ((few xs1).map fix).length ≤ 20 := by simpa using l1
          have m2 : ((few xs2).map fix).length ≤ 20 := by simpa using l2
          generalize (few xs1).map fix = A at v1 m1 ⊢
          generalize (few xs2).map fix = B at v2 m2 ⊢
          clear l1 l2
          have eA := all_encN A v1
          have eB := all_encN B v2
          have eAB : all (nb (Str (encAll A) ++ Str (encAll B))) = A ++ B := by
            rw [str_append, ← encAll_append]
            exact all_encN (A ++ B) fun r hr => by
              rcases List.mem_append.1 hr with h | h
              · exact v1 r h
              · exact v2 r h
          have sA : (Str (encAll A)).size ≤ 80 := by have := encAll_len A; rw [str_size]; omega
          have sB : (Str (encAll B)).size ≤ 80 := by have := encAll_len B; rw [str_size]; omega
          have sAB : (Str (encAll A) ++ Str (encAll B)).size ≤ 160 := by simp; omega
          generalize Str (encAll A) = p at eA eAB sA sAB ⊢
          generalize Str (encAll B) = q at eB eAB sB sAB ⊢
          have EA := Lib.hid eA
          have EB := Lib.hid eB
          have EAB := Lib.hid eAB
          clear eA eB eAB v1 v2
          go_wp2_with fail
          refine (decodeAll_any (p ++ q) w7 (by omega)).mono ?_
          rw [EAB.out]
          rintro e w8 ⟨xa8, xc8, rfl, hx8, hb8⟩
          have hb8' : Below w.heap.size w w8 := hb7'.trans (hb8.mono z7)
          have z8 := hb8'.size
          clear hb8 hb7' z7 EAB sAB
          have r8 := SrcAt.of hx8
          clear hx8
          have hnew : Below w8.heap.size w8 (w8.alloc (.cells #[] 21)) := (Below.refl _ _).alloc (Nat.le_refl _) _
          have hAcc : Held (w8.alloc (.cells #[] 21)) w8.heap.size 21 1 (.slice (some ⟨w8.heap.size, 0, none⟩) 0 0) 0 (rs []) := ⟨rfl, .inr ⟨w8.heap.size, 0, 0, #[], rfl, Nat.le_refl _, new_at rfl, Nat.le_refl _, by decide, by decide, rfl⟩⟩
          go_wp2_with fail
          refine (decodeAll_any p _ (by omega)).mono ?_
          rw [EA.out]
          rintro e w9 ⟨xa9, xc9, rfl, hx9, hb9⟩
          simp only [World.size_alloc] at hb9
          have hAcc9 : Held w9 w8.heap.size 21 1 (.slice (some ⟨w8.heap.size, 0, none⟩) 0 0) 0 (rs []) := hAcc.keep fun k hk => hb9.block k (by have := hAcc.lt k hk; simpa using this.2)
          have hn9 : Below w8.heap.size w8 w9 := hnew.trans (hb9.mono (by omega))
          have r9 := SrcAt.of hx9
          have z9 := hn9.size
          clear hAcc hb9 hx9 EA hnew
          go_wp2_with (at_builtin; refine wpList_append_rs2 rfl _ _ rfl _ w8.heap.size w9.heap.size (.slice (some ⟨w8.heap.size, 0, none⟩) 0 0) 0 [] rfl hAcc9 xa9 A.length xc9 A rfl r9 (by omega) z9 ?_)
          intro a10 c10 w10 hA10 hb10
          have hn10 := hn9.trans hb10
          have z10 := hn10.size
          have r8a := r8.keep hn10
          clear hAcc9 r9 hn9 z9 hb10
          go_wp2_with fail
          refine (decodeAll_any q _ (by omega)).mono ?_
          rw [EB.out]
          rintro e w11 ⟨xa11, xc11, rfl, hx11, hb11⟩
          have hA11 : Held w11 w8.heap.size 21 1 (.slice a10 A.length c10) A.length (rs A) := hA10.keep fun k hk => hb11.block k (hA10.lt k hk).2
          have hn11 : Below w8.heap.size w8 w11 := hn10.trans (hb11.mono z10)
          have r11 := SrcAt.of hx11
          have z11 := hn11.size
          clear hA10 hb11 hx11 EB hn10 z10 r8a
          go_wp2_with (at_builtin; refine wpList_append_rs2 rfl _ _ rfl _ w8.heap.size w11.heap.size (.slice a10 A.length c10) A.length A rfl hA11 xa11 B.length xc11 B rfl r11 (by omega) z11 ?_)
          intro a12 c12 w12 hA12 hb12
          have hn12 := hn11.trans hb12
          have z12 := hn12.size
          have r12 := (r8.keep hn12).mono z12
          have hb13 : Below w.heap.size w w12 := hb8'.trans (hn12.mono z8)
          have ra := Reads.of hA12
          have rb := r12.reads
          rw [List.length_append] at rb
          have mAB : A.length + B.length ≤ 40 := by omega
          generalize hAB : A ++ B = AB at ra rb
          clear hAB
          clear hA11 r11 hn11 z11 hb12 hA12 r12 r8 hn12
          go_wp2_with fail
          refine (same_any _ _ _ _ _ AB _ rb ra (by omega)).mono ?_
          rintro e w14 ⟨rfl, k, rfl⟩
          go_wp2_with fail
          go_returns
          exact ⟨rfl, below_drewN hb13 k⟩
end PlainLaw
end Ru
end Go.Proofs.Ytaagljkpihecpaa
