/- flat: keys, of which each text is parted. No condition beyond each theorem's own premises. -/
import Derived.Test.YtfejfgajdjickaaSmall
namespace Go.Proofs.Ytfejfgajdjickaa
open Go.RowKit
namespace Keys
theorem flat_snoc (l : List K) (A : K) : flat (l ++ [A]) = flat l ++ A.flat := by rw [flat_append, flat_one]
theorem K.flat_len (A : K) : A.flat.length ≤ 1 + A.s.length := by
  unfold K.flat
  split <;> simp
  omega
/-- A key more: the append. -/
theorem more_key {w : World} {B : Nat} {ka : Option Addr} {kc : Nat} {l : List K} (hh : Held w B 34 3 (.slice ka l.length kc) l.length (kcs l)) (hB : B ≤ w.heap.size) (k : K) (hn : l.length ≤ 10000) :
    ∃ a' cap' w', (Builtin.append_ #[27, 27] 27 #[.slice ka l.length kc, .slice (some ⟨w.heap.size, 0, none⟩) 1 1]).run Try.prog (w.alloc (.cells k.cells 34)) = .ok (.slice a' (l.length + 1) cap') w' ∧
      Held w' B 34 3 (.slice a' (l.length + 1) cap') (l.length + 1) (kcs (l ++ [k])) ∧ ∀ w0, Below B w0 w → Below B w0 w' := by
  obtain ⟨a', cap', w3, hr, hown, hgrow⟩ := append_one (hh.alloc (.cells k.cells 34)) (by simp; omega) k w.heap.size 1 (new_at rfl) hn
  refine ⟨a', cap', w3, hr, hown, fun w0 hb => ⟨hgrow.os.trans hb.os, hgrow.tape.trans hb.tape, hgrow.output.trans hb.output, ?_, fun i hi => ?_⟩⟩
  · have h1 := hgrow.size
    have h2 := hb.size
    simp at h1
    omega
  · rw [hgrow.block i (by simp; omega) (fun e => by have := (hh.lt i e.symm).1; omega), Below.heap_alloc _ _ _ (by omega)]
    exact hb.block i hi
theorem slice_one (l : List UInt8) (k : Nat) (hk : k < l.length) (W : World) :
    (Instr.slice 9 (.string (sb l)) (some (.int .i64 (k : Int))) (some (.int .i64 ((k : Int) + 1))) none).run Try.prog W = .ok (.string (sb [l[k]])) W := by
  have k0 : (0 : Int) ≤ (k : Int) := by omega
  have k1 : (k : Int) < (l.length : Int) := by omega
  have hz : (sb l).size = l.length := by simp [sb, ByteArray.size]
  have u9 := Try.underlying9
  have he : (sb l).extract k (k + 1) = sb [l[k]] := by
    apply ByteArray.ext
    apply Array.ext'
    rw [ByteArray.data_extract]
    simp only [sb, Array.toList_extract]
    simp
    rw [List.drop_eq_getElem_cons hk]; rfl
  go_simp
  rw [if_pos (by omega), if_pos (by omega)]
def Flats (l : List K) (w : World) (e : Ending) (w' : World) : Prop :=
  ∃ (a : Option Addr) (c : Nat), e = .returned (.slice a (flat l).length c) ∧ Held w' w.heap.size 34 3 (.slice a (flat l).length c) (flat l).length (kcs (flat l)) ∧ Below w.heap.size w w'
set_option maxRecDepth 100000 in
set_option maxHeartbeats 4000000 in
theorem flat_any (a : Option Addr) (n c : Nat) (l : List K) (w : World) (h : KR w a n l) (hl : n ≤ 1000) (hf : ∀ i, (flat (l.take i)).length ≤ 1000) (hs : ∀ A ∈ l, A.s.length ≤ 1000) :
    Calls Try.prog 8 #[.slice a n c] w (Flats l w) := by
  have hn : l.length = n := h.1
  have K1 := Lib.hid h
  have HL := Lib.hid hn
  have HFL := Lib.hid hf
  have HSL := Lib.hid hs
  clear h hn hf hs
  go_enter Try.func8, Try.ntmps8
  go_wp2_with fail
  go_loopw [3, 4] (fun ov iv wr => ∃ (i : Nat) (oa : Option Addr) (oc m : Nat) (o : List K), i ≤ n ∧ iv = .int .i64 (i : Int) ∧ Hid (flat (l.take i) = o) ∧ m = o.length ∧ ov = .slice oa m oc ∧ Held wr w.heap.size 34 3 (.slice oa m oc) m (kcs o) ∧ Below w.heap.size w wr) (fun _ iv _ => n - (intOf iv).toNat)
  case atStart => exact ⟨0, none, 0, 0, [], Nat.zero_le _, rfl, Lib.hid rfl, rfl, rfl, Held.nil _ _ _ _, Below.refl _ _⟩
  case round =>
    obtain ⟨i, oa, oc, m, o, hi, rfl, HF, hm, rfl, hO, hB⟩ := hrel
    have hob : o.length ≤ 1000 := by rw [← HF.out]; exact HFL.out i
    by_cases hlt : i < n
    · obtain ⟨b, off, ea, hbl, hk⟩ := K1.out.cells hlt
      subst ea
      obtain ⟨A, hA⟩ : ∃ A, l[i]? = some A := ⟨l[i]'(by have := HL.out; omega), List.getElem?_eq_getElem _⟩
      obtain ⟨p0, p1, p2⟩ := hk A hA
      have hsA : A.s.length ≤ 1000 := HSL.out A (List.mem_of_getElem? hA)
      have hnext : flat (l.take (i + 1)) = o ++ A.flat := by
        rw [← HF.out, List.take_add_one, hA]; simp [flat_append, flat_one]
      have i0 : (0 : Int) ≤ (i : Int) := by omega
      have i1 : (i : Int) < (n : Int) := by omega
      have q0 := (hB.cell (p := ⟨b, off + i * 3, none⟩) hbl).trans p0
      have q1 := (hB.cell (p := ⟨b, off + i * 3 + 1, none⟩) hbl).trans p1
      have q2 := (hB.cell (p := ⟨b, off + i * 3 + 2, none⟩) hbl).trans p2
      have HN := Lib.hid hnext
      have HM := Lib.hid hm
      have hz : (sb A.s).size = A.s.length := by simp [sb, ByteArray.size]
      have P2 := Lib.hid p2
      clear hk hA hnext p0 p1 p2 HF hm
      by_cases hk1 : A.kind = 1
      · have t1 : ((A.kind : Int) != 1) = false := by simp [hk1]
        have hfin : o ++ A.s.map one = o ++ A.flat := by simp [K.flat, hk1]
        have HFIN := Lib.hid hfin
        have HO2 := Lib.hid hO
        have HB2 := Lib.hid hB
        clear hfin hO hB hk1
        go_wp2_with fail
        go_loopw [3, 5] (fun ov kv wr => ∃ (k : Nat) (xa : Option Addr) (xc xm : Nat) (xo : List K), k ≤ A.s.length ∧ kv = .int .i64 (k : Int) ∧ Hid (o ++ (A.s.take k).map one = xo) ∧ xm = xo.length ∧ ov = .slice xa xm xc ∧ Held wr w.heap.size 34 3 (.slice xa xm xc) xm (kcs xo) ∧ Below w.heap.size w wr) (fun _ kv _ => A.s.length - (intOf kv).toNat)
        case atStart => exact ⟨0, oa, oc, m, o, Nat.zero_le _, rfl, Lib.hid (by simp), HM.out, rfl, HO2.out, HB2.out⟩
        case round =>
          obtain ⟨k, oa3, oc3, m3, o3, hk3, rfl, HF3, hm3, rfl, hO3, hB3⟩ := hrel
          have r2 := (hB3.cell (p := ⟨b, off + i * 3 + 2, none⟩) hbl).trans P2.out
          by_cases hlk : k < A.s.length
          · have ho3 : o3.length ≤ 3000 := by rw [← HF3.out]; simp; omega
            have hsl : ∀ W : World, (Instr.slice 9 (.string (sb A.s)) (some (.int .i64 (k : Int))) (some (.int .i64 ((k : Int) + 1))) none).run Try.prog W = .ok (.string (sb [A.s[k]])) W := slice_one A.s k hlk
            have k0 : (0 : Int) ≤ (k : Int) := by omega
            have k1 : (k : Int) < (A.s.length : Int) := by omega
            subst hm3
            obtain ⟨a', cap', w4, hr, hown, hbe⟩ := more_key hO3 hB3.size ⟨1, 0, [A.s[k]]⟩ (by omega)
            have hB4 := hbe w hB3
            have hn3 : o ++ (A.s.take (k + 1)).map one = o3 ++ [one A.s[k]] := by
              rw [← HF3.out, List.take_succ_eq_append_getElem hlk, List.map_append, ← List.append_assoc]; rfl
            have HN3 := Lib.hid hn3
            have HR := Lib.hid hr
            have HO4 := Lib.hid hown
            have HB4 := Lib.hid hB4
            clear hr hown hbe hB4 hO3 hB3 hn3 HF3
            go_wp2_with (at_builtin; refine wpList_append_eq rfl _ _ 27 rfl _ _ _ w4 rfl rfl HR.out ?_)
            go_roundw
            case rel => exact ⟨k + 1, a', cap', o3.length + 1, o3 ++ [one A.s[k]], by omega, by go_num, HN3, by simp, rfl, HO4.out, HB4.out⟩
            case measure => simp [intOf]; omega
          · obtain rfl : k = A.s.length := by omega
            go_wp2_with fail
            go_roundw
            case rel => exact ⟨i + 1, oa3, oc3, m3, o3, by omega, by go_num, Lib.hid (by rw [HN.out, ← HF3.out, List.take_length]; exact HFIN.out.symm), hm3, rfl, hO3, hB3⟩
            case measure => simp [intOf]; omega
      · have t1 : ((A.kind : Int) != 1) = true := by simpa using hk1
        have hfin : (o ++ [A]) ++ A.s.map one = o ++ A.flat := by simp [K.flat, hk1]
        have HFIN := Lib.hid hfin
        rw [HM.out] at hO ⊢
        obtain ⟨a2, cap2, w2, hr2, hown2, hbe2⟩ := more_key hO hB.size A (by omega)
        have hB2 := hbe2 w hB
        have HR2 := Lib.hid hr2
        have HO2 := Lib.hid hown2
        have HB2 := Lib.hid hB2
        have g2 := (hB2.cell (p := ⟨b, off + i * 3 + 2, none⟩) hbl).trans P2.out
        clear hfin hO hB hk1 hr2 hown2 hbe2 hB2
        go_wp2_with (at_builtin; refine wpList_append_eq rfl _ _ 27 rfl _ _ _ w2 rfl rfl HR2.out ?_)
        go_loopw [3, 5] (fun ov kv wr => ∃ (k : Nat) (xa : Option Addr) (xc xm : Nat) (xo : List K), k ≤ A.s.length ∧ kv = .int .i64 (k : Int) ∧ Hid ((o ++ [A]) ++ (A.s.take k).map one = xo) ∧ xm = xo.length ∧ ov = .slice xa xm xc ∧ Held wr w.heap.size 34 3 (.slice xa xm xc) xm (kcs xo) ∧ Below w.heap.size w wr) (fun _ kv _ => A.s.length - (intOf kv).toNat)
        case atStart => exact ⟨0, a2, cap2, (o.length + 1), (o ++ [A]), Nat.zero_le _, rfl, Lib.hid (by simp), by simp, rfl, HO2.out, HB2.out⟩
        case round =>
          obtain ⟨k, oa3, oc3, m3, o3, hk3, rfl, HF3, hm3, rfl, hO3, hB3⟩ := hrel
          have r2 := (hB3.cell (p := ⟨b, off + i * 3 + 2, none⟩) hbl).trans P2.out
          by_cases hlk : k < A.s.length
          · have ho3 : o3.length ≤ 3000 := by rw [← HF3.out]; simp; omega
            have hsl : ∀ W : World, (Instr.slice 9 (.string (sb A.s)) (some (.int .i64 (k : Int))) (some (.int .i64 ((k : Int) + 1))) none).run Try.prog W = .ok (.string (sb [A.s[k]])) W := slice_one A.s k hlk
            have k0 : (0 : Int) ≤ (k : Int) := by omega
            have k1 : (k : Int) < (A.s.length : Int) := by omega
            subst hm3
            obtain ⟨a', cap', w4, hr, hown, hbe⟩ := more_key hO3 hB3.size ⟨1, 0, [A.s[k]]⟩ (by omega)
            have hB4 := hbe w hB3
            have hn3 : (o ++ [A]) ++ (A.s.take (k + 1)).map one = o3 ++ [one A.s[k]] := by
              rw [← HF3.out, List.take_succ_eq_append_getElem hlk, List.map_append, ← List.append_assoc]; rfl
            have HN3 := Lib.hid hn3
            have HR := Lib.hid hr
            have HO4 := Lib.hid hown
            have HB4 := Lib.hid hB4
            clear hr hown hbe hB4 hO3 hB3 hn3 HF3
            go_wp2_with (at_builtin; refine wpList_append_eq rfl _ _ 27 rfl _ _ _ w4 rfl rfl HR.out ?_)
            go_roundw
            case rel => exact ⟨k + 1, a', cap', o3.length + 1, o3 ++ [one A.s[k]], by omega, by go_num, HN3, by simp, rfl, HO4.out, HB4.out⟩
            case measure => simp [intOf]; omega
          · obtain rfl : k = A.s.length := by omega
            go_wp2_with fail
            go_roundw
            case rel => exact ⟨i + 1, oa3, oc3, m3, o3, by omega, by go_num, Lib.hid (by rw [HN.out, ← HF3.out, List.take_length]; exact HFIN.out.symm), hm3, rfl, hO3, hB3⟩
            case measure => simp [intOf]; omega
    · obtain rfl : i = n := by omega
      have ht : l.take i = l := List.take_of_length_le (by have := HL.out; omega)
      rw [ht] at HF
      subst hm
      clear ht
      go_wp2_with fail
      go_returns
      rw [← HF.out] at hO
      rw [← HF.out]
      exact ⟨oa, oc, rfl, hO, hB⟩
end Keys
end Go.Proofs.Ytfejfgajdjickaa
