/- What a parser does in an escape. No condition beyond each theorem's own premises. -/
import Derived.Test.YtgbpmefiafoliaaBase
import Derived.Laws.NewBlocks
namespace Go.Proofs.Ytgbpmefiafoliaa
open Go.RowKit
namespace Esc
/-- What a step says. -/
def Tells (p : Nat) (x : PS × AC × Bool) (w : World) (e : Ending) (w' : World) : Prop :=
  e = .returned (.tuple #[.agg x.2.1.cells, .bool x.2.2]) ∧ Only [p] w w' ∧ PAt w' p x.1
theorem alloc_setRow (w : World) (o : Obj) (g : Nat) (cs : Array Value) (h : g < w.heap.size) : (w.alloc o).setRow g cs = (w.setRow g cs).alloc o := by
  simp only [World.setRow, World.alloc]
  congr 1
  apply Array.ext_getElem?
  intro i
  rw [Array.getElem?_modify, Array.getElem?_push, Array.getElem?_push, Array.size_modify, Array.getElem?_modify]
  by_cases hi : i = w.heap.size
  · subst hi
    simp [show g ≠ w.heap.size by omega]
  · simp [hi]
theorem tells_set {p i : Nat} {s s' : PS} {a : AC} {b : Bool} {v : Value} {w : World} {o : Obj} {cs : Array Value} (hP : PAt w p s) (hs : s.cells.setIfInBounds i v = s'.cells) (hc : cs = a.cells) :
    Tells p (s', a, b) w (.returned (.tuple #[.agg cs, .bool b])) ((w.setCell ⟨p, i, none⟩ v).alloc o) := by
  subst hc
  refine ⟨rfl, ((Only.refl [p] w).setCell (p := ⟨p, i, none⟩) (.inl (by simp)) v).alloc o, ?_⟩
  have h := heap_setCell_self hP i v
  rw [hs] at h
  exact hk_alloc (lt_of_heap h) h
theorem tells_row {p : Nat} {s s' : PS} {a : AC} {b : Bool} {w : World} {o : Obj} {cs : Array Value} (hP : PAt w p s) (hc : cs = a.cells) :
    Tells p (s', a, b) w (.returned (.tuple #[.agg cs, .bool b])) ((w.setRow p s'.cells).alloc o) := by
  subst hc
  exact ⟨rfl, (setRow_only w p _).alloc o, hk_alloc (lt_of_heap (hP.set s')) (hP.set s')⟩
theorem tells_same {p : Nat} {s : PS} {a : AC} {b : Bool} {w : World} {o : Obj} {cs : Array Value} (hP : PAt w p s) (hc : cs = a.cells) :
    Tells p (s, a, b) w (.returned (.tuple #[.agg cs, .bool b])) (w.alloc o) := by
  subst hc
  exact ⟨rfl, (Only.refl [p] w).alloc o, hk_alloc hP.lt hP⟩

set_option maxRecDepth 100000 in
theorem esc_z_c80 (p : Nat) (s : PS) (r : Int) (w : World) (hP : PAt w p s) (h : r = 80) (hm : s.mid = 0) :
    Calls Try.prog 16 #[.pointer (some ⟨p, 0, none⟩), .int .i32 r] w (Tells p ({ PS.zero with inn := 4 }, .zero, false) w) := by
  subst h
  have hlt := hP.lt
  have c2 := cell_of_heap hP 2 (.int .u8 s.mid) rfl
  have f2 := free_of_heap hP 2
  rw [hm] at c2
  have HP := Lib.hid hP
  clear hP hm
  go_enter Try.func16, Try.ntmps16
  go_wp2_with (refine wpList_store_row (by rfl) 27 (.tmp 62) (.tmp 61) (by rfl) p (PS.cells { PS.zero with inn := 4 }) (by rfl) (by rfl) 27 s.cells (hk_alloc hlt HP.out) size27 (by rfl) (PS.one _) ?_; rw [alloc_setRow _ _ _ _ hlt])
  go_returns
  exact tells_row HP.out rfl

set_option maxRecDepth 100000 in
theorem esc_z_c88 (p : Nat) (s : PS) (r : Int) (w : World) (hP : PAt w p s) (h : r = 88) (hm : s.mid = 0) :
    Calls Try.prog 16 #[.pointer (some ⟨p, 0, none⟩), .int .i32 r] w (Tells p ({ PS.zero with inn := 4 }, .zero, false) w) := by
  subst h
  have hlt := hP.lt
  have c2 := cell_of_heap hP 2 (.int .u8 s.mid) rfl
  have f2 := free_of_heap hP 2
  rw [hm] at c2
  have HP := Lib.hid hP
  clear hP hm
  go_enter Try.func16, Try.ntmps16
  go_wp2_with (refine wpList_store_row (by rfl) 27 (.tmp 62) (.tmp 61) (by rfl) p (PS.cells { PS.zero with inn := 4 }) (by rfl) (by rfl) 27 s.cells (hk_alloc hlt HP.out) size27 (by rfl) (PS.one _) ?_; rw [alloc_setRow _ _ _ _ hlt])
  go_returns
  exact tells_row HP.out rfl

set_option maxRecDepth 100000 in
theorem esc_z_c91 (p : Nat) (s : PS) (r : Int) (w : World) (hP : PAt w p s) (h : r = 91) (hm : s.mid = 0) :
    Calls Try.prog 16 #[.pointer (some ⟨p, 0, none⟩), .int .i32 r] w (Tells p ({ PS.zero with inn := 2 }, .zero, false) w) := by
  subst h
  have hlt := hP.lt
  have c2 := cell_of_heap hP 2 (.int .u8 s.mid) rfl
  have f2 := free_of_heap hP 2
  rw [hm] at c2
  have HP := Lib.hid hP
  clear hP hm
  go_enter Try.func16, Try.ntmps16
  go_wp2_with (refine wpList_store_row (by rfl) 27 (.tmp 40) (.tmp 39) (by rfl) p (PS.cells { PS.zero with inn := 2 }) (by rfl) (by rfl) 27 s.cells (hk_alloc hlt HP.out) size27 (by rfl) (PS.one _) ?_; rw [alloc_setRow _ _ _ _ hlt])
  go_returns
  exact tells_row HP.out rfl

set_option maxRecDepth 100000 in
theorem esc_z_m (p : Nat) (s : PS) (r : Int) (w : World) (hP : PAt w p s) (h1 : 93 ≤ r) (h2 : r ≤ 95) (hm : s.mid = 0) :
    Calls Try.prog 16 #[.pointer (some ⟨p, 0, none⟩), .int .i32 r] w (Tells p ({ PS.zero with inn := 4 }, .zero, false) w) := by
  have e80 : (r == 80) = false := by simp; omega
  have e88 : (r == 88) = false := by simp; omega
  have e91 : (r == 91) = false := by simp; omega
  have hlt := hP.lt
  have c2 := cell_of_heap hP 2 (.int .u8 s.mid) rfl
  have f2 := free_of_heap hP 2
  rw [hm] at c2
  have HP := Lib.hid hP
  clear hP hm
  go_enter Try.func16, Try.ntmps16
  go_wp2_with (refine wpList_store_row (by rfl) 27 (.tmp 62) (.tmp 61) (by rfl) p (PS.cells { PS.zero with inn := 4 }) (by rfl) (by rfl) 27 s.cells (hk_alloc hlt HP.out) size27 (by rfl) (PS.one _) ?_; rw [alloc_setRow _ _ _ _ hlt])
  go_returns
  exact tells_row HP.out rfl

set_option maxRecDepth 100000 in
theorem esc_z_lo (p : Nat) (s : PS) (r : Int) (w : World) (hP : PAt w p s) (h1 : 48 ≤ r) (h2 : r < 93) (e80 : (r == 80) = false) (e88 : (r == 88) = false) (e91 : (r == 91) = false) (hm : s.mid = 0) :
    Calls Try.prog 16 #[.pointer (some ⟨p, 0, none⟩), .int .i32 r] w (Tells p (.zero, .of 3 r s.mid, true) w) := by
  have hlt := hP.lt
  have c2 := cell_of_heap hP 2 (.int .u8 s.mid) rfl
  have f2 := free_of_heap hP 2
  rw [hm] at c2
  rw [hm]
  have HP := Lib.hid hP
  clear hP hm
  go_enter Try.func16, Try.ntmps16
  go_wp2_with fail
  refine (reset_any p s _ (hk_alloc hlt HP.out)).mono ?_
  rintro e w1 ⟨rfl, rfl⟩
  rw [alloc_setRow _ _ _ _ hlt]
  go_wp2_with fail
  go_returns
  exact tells_row HP.out rfl

set_option maxRecDepth 100000 in
theorem esc_z_hi (p : Nat) (s : PS) (r : Int) (w : World) (hP : PAt w p s) (h1 : 96 ≤ r) (h2 : r ≤ 126) (hm : s.mid = 0) :
    Calls Try.prog 16 #[.pointer (some ⟨p, 0, none⟩), .int .i32 r] w (Tells p (.zero, .of 3 r s.mid, true) w) := by
  have e80 : (r == 80) = false := by simp; omega
  have e88 : (r == 88) = false := by simp; omega
  have e91 : (r == 91) = false := by simp; omega
  have hlt := hP.lt
  have c2 := cell_of_heap hP 2 (.int .u8 s.mid) rfl
  have f2 := free_of_heap hP 2
  rw [hm] at c2
  rw [hm]
  have HP := Lib.hid hP
  clear hP hm
  go_enter Try.func16, Try.ntmps16
  go_wp2_with fail
  refine (reset_any p s _ (hk_alloc hlt HP.out)).mono ?_
  rintro e w1 ⟨rfl, rfl⟩
  rw [alloc_setRow _ _ _ _ hlt]
  go_wp2_with fail
  go_returns
  exact tells_row HP.out rfl

set_option maxRecDepth 100000 in
theorem esc_z_top (p : Nat) (s : PS) (r : Int) (w : World) (hP : PAt w p s) (h1 : 127 ≤ r) (hm : s.mid = 0) :
    Calls Try.prog 16 #[.pointer (some ⟨p, 0, none⟩), .int .i32 r] w (Tells p (.zero, .zero, false) w) := by
  have e80 : (r == 80) = false := by simp; omega
  have e88 : (r == 88) = false := by simp; omega
  have e91 : (r == 91) = false := by simp; omega
  have hlt := hP.lt
  have c2 := cell_of_heap hP 2 (.int .u8 s.mid) rfl
  have f2 := free_of_heap hP 2
  rw [hm] at c2
  have HP := Lib.hid hP
  clear hP hm
  go_enter Try.func16, Try.ntmps16
  go_wp2_with fail
  refine (reset_any p s _ (hk_alloc hlt HP.out)).mono ?_
  rintro e w1 ⟨rfl, rfl⟩
  rw [alloc_setRow _ _ _ _ hlt]
  go_wp2_with fail
  go_returns
  exact tells_row HP.out rfl

set_option maxRecDepth 100000 in
theorem esc_n_c80 (p : Nat) (s : PS) (r : Int) (w : World) (hP : PAt w p s) (h : r = 80) (m0 : (s.mid == 0) = false) (m255 : (s.mid != 255) = true) :
    Calls Try.prog 16 #[.pointer (some ⟨p, 0, none⟩), .int .i32 r] w (Tells p (.zero, .of 3 r s.mid, true) w) := by
  subst h
  have hlt := hP.lt
  have c2 := cell_of_heap hP 2 (.int .u8 s.mid) rfl
  have f2 := free_of_heap hP 2
  have HP := Lib.hid hP
  clear hP
  go_enter Try.func16, Try.ntmps16
  go_wp2_with fail
  refine (reset_any p s _ (hk_alloc hlt HP.out)).mono ?_
  rintro e w1 ⟨rfl, rfl⟩
  rw [alloc_setRow _ _ _ _ hlt]
  go_wp2_with fail
  go_returns
  exact tells_row HP.out rfl

set_option maxRecDepth 100000 in
theorem esc_n_c88 (p : Nat) (s : PS) (r : Int) (w : World) (hP : PAt w p s) (h : r = 88) (m0 : (s.mid == 0) = false) (m255 : (s.mid != 255) = true) :
    Calls Try.prog 16 #[.pointer (some ⟨p, 0, none⟩), .int .i32 r] w (Tells p (.zero, .of 3 r s.mid, true) w) := by
  subst h
  have hlt := hP.lt
  have c2 := cell_of_heap hP 2 (.int .u8 s.mid) rfl
  have f2 := free_of_heap hP 2
  have HP := Lib.hid hP
  clear hP
  go_enter Try.func16, Try.ntmps16
  go_wp2_with fail
  refine (reset_any p s _ (hk_alloc hlt HP.out)).mono ?_
  rintro e w1 ⟨rfl, rfl⟩
  rw [alloc_setRow _ _ _ _ hlt]
  go_wp2_with fail
  go_returns
  exact tells_row HP.out rfl

set_option maxRecDepth 100000 in
theorem esc_n_c91 (p : Nat) (s : PS) (r : Int) (w : World) (hP : PAt w p s) (h : r = 91) (m0 : (s.mid == 0) = false) (m255 : (s.mid != 255) = true) :
    Calls Try.prog 16 #[.pointer (some ⟨p, 0, none⟩), .int .i32 r] w (Tells p (.zero, .of 3 r s.mid, true) w) := by
  subst h
  have hlt := hP.lt
  have c2 := cell_of_heap hP 2 (.int .u8 s.mid) rfl
  have f2 := free_of_heap hP 2
  have HP := Lib.hid hP
  clear hP
  go_enter Try.func16, Try.ntmps16
  go_wp2_with fail
  refine (reset_any p s _ (hk_alloc hlt HP.out)).mono ?_
  rintro e w1 ⟨rfl, rfl⟩
  rw [alloc_setRow _ _ _ _ hlt]
  go_wp2_with fail
  go_returns
  exact tells_row HP.out rfl

set_option maxRecDepth 100000 in
theorem esc_n_m (p : Nat) (s : PS) (r : Int) (w : World) (hP : PAt w p s) (h1 : 93 ≤ r) (h2 : r ≤ 95) (m0 : (s.mid == 0) = false) (m255 : (s.mid != 255) = true) :
    Calls Try.prog 16 #[.pointer (some ⟨p, 0, none⟩), .int .i32 r] w (Tells p (.zero, .of 3 r s.mid, true) w) := by
  have e80 : (r == 80) = false := by simp; omega
  have e88 : (r == 88) = false := by simp; omega
  have e91 : (r == 91) = false := by simp; omega
  have hlt := hP.lt
  have c2 := cell_of_heap hP 2 (.int .u8 s.mid) rfl
  have f2 := free_of_heap hP 2
  have HP := Lib.hid hP
  clear hP
  go_enter Try.func16, Try.ntmps16
  go_wp2_with fail
  refine (reset_any p s _ (hk_alloc hlt HP.out)).mono ?_
  rintro e w1 ⟨rfl, rfl⟩
  rw [alloc_setRow _ _ _ _ hlt]
  go_wp2_with fail
  go_returns
  exact tells_row HP.out rfl

set_option maxRecDepth 100000 in
theorem esc_n_lo (p : Nat) (s : PS) (r : Int) (w : World) (hP : PAt w p s) (h1 : 48 ≤ r) (h2 : r < 93) (e80 : (r == 80) = false) (e88 : (r == 88) = false) (e91 : (r == 91) = false) (_m0 : (s.mid == 0) = false) (m255 : (s.mid != 255) = true) :
    Calls Try.prog 16 #[.pointer (some ⟨p, 0, none⟩), .int .i32 r] w (Tells p (.zero, .of 3 r s.mid, true) w) := by
  have hlt := hP.lt
  have c2 := cell_of_heap hP 2 (.int .u8 s.mid) rfl
  have f2 := free_of_heap hP 2
  have HP := Lib.hid hP
  clear hP
  go_enter Try.func16, Try.ntmps16
  go_wp2_with fail
  refine (reset_any p s _ (hk_alloc hlt HP.out)).mono ?_
  rintro e w1 ⟨rfl, rfl⟩
  rw [alloc_setRow _ _ _ _ hlt]
  go_wp2_with fail
  go_returns
  exact tells_row HP.out rfl

set_option maxRecDepth 100000 in
theorem esc_n_hi (p : Nat) (s : PS) (r : Int) (w : World) (hP : PAt w p s) (h1 : 96 ≤ r) (h2 : r ≤ 126) (_m0 : (s.mid == 0) = false) (m255 : (s.mid != 255) = true) :
    Calls Try.prog 16 #[.pointer (some ⟨p, 0, none⟩), .int .i32 r] w (Tells p (.zero, .of 3 r s.mid, true) w) := by
  have e80 : (r == 80) = false := by simp; omega
  have e88 : (r == 88) = false := by simp; omega
  have e91 : (r == 91) = false := by simp; omega
  have hlt := hP.lt
  have c2 := cell_of_heap hP 2 (.int .u8 s.mid) rfl
  have f2 := free_of_heap hP 2
  have HP := Lib.hid hP
  clear hP
  go_enter Try.func16, Try.ntmps16
  go_wp2_with fail
  refine (reset_any p s _ (hk_alloc hlt HP.out)).mono ?_
  rintro e w1 ⟨rfl, rfl⟩
  rw [alloc_setRow _ _ _ _ hlt]
  go_wp2_with fail
  go_returns
  exact tells_row HP.out rfl

set_option maxRecDepth 100000 in
theorem esc_n_top (p : Nat) (s : PS) (r : Int) (w : World) (hP : PAt w p s) (h1 : 127 ≤ r) (_m0 : (s.mid == 0) = false) (_m255 : (s.mid != 255) = true) :
    Calls Try.prog 16 #[.pointer (some ⟨p, 0, none⟩), .int .i32 r] w (Tells p (.zero, .zero, false) w) := by
  have e80 : (r == 80) = false := by simp; omega
  have e88 : (r == 88) = false := by simp; omega
  have e91 : (r == 91) = false := by simp; omega
  have hlt := hP.lt
  have c2 := cell_of_heap hP 2 (.int .u8 s.mid) rfl
  have f2 := free_of_heap hP 2
  have HP := Lib.hid hP
  clear hP
  go_enter Try.func16, Try.ntmps16
  go_wp2_with fail
  refine (reset_any p s _ (hk_alloc hlt HP.out)).mono ?_
  rintro e w1 ⟨rfl, rfl⟩
  rw [alloc_setRow _ _ _ _ hlt]
  go_wp2_with fail
  go_returns
  exact tells_row HP.out rfl

set_option maxRecDepth 100000 in
theorem esc_f_c80 (p : Nat) (s : PS) (r : Int) (w : World) (hP : PAt w p s) (h : r = 80) (hm : s.mid = 255) :
    Calls Try.prog 16 #[.pointer (some ⟨p, 0, none⟩), .int .i32 r] w (Tells p (.zero, .zero, false) w) := by
  subst h
  have hlt := hP.lt
  have c2 := cell_of_heap hP 2 (.int .u8 s.mid) rfl
  have f2 := free_of_heap hP 2
  rw [hm] at c2
  have HP := Lib.hid hP
  clear hP hm
  go_enter Try.func16, Try.ntmps16
  go_wp2_with fail
  refine (reset_any p s _ (hk_alloc hlt HP.out)).mono ?_
  rintro e w1 ⟨rfl, rfl⟩
  rw [alloc_setRow _ _ _ _ hlt]
  go_wp2_with fail
  go_returns
  exact tells_row HP.out rfl

set_option maxRecDepth 100000 in
theorem esc_f_c88 (p : Nat) (s : PS) (r : Int) (w : World) (hP : PAt w p s) (h : r = 88) (hm : s.mid = 255) :
    Calls Try.prog 16 #[.pointer (some ⟨p, 0, none⟩), .int .i32 r] w (Tells p (.zero, .zero, false) w) := by
  subst h
  have hlt := hP.lt
  have c2 := cell_of_heap hP 2 (.int .u8 s.mid) rfl
  have f2 := free_of_heap hP 2
  rw [hm] at c2
  have HP := Lib.hid hP
  clear hP hm
  go_enter Try.func16, Try.ntmps16
  go_wp2_with fail
  refine (reset_any p s _ (hk_alloc hlt HP.out)).mono ?_
  rintro e w1 ⟨rfl, rfl⟩
  rw [alloc_setRow _ _ _ _ hlt]
  go_wp2_with fail
  go_returns
  exact tells_row HP.out rfl

set_option maxRecDepth 100000 in
theorem esc_f_c91 (p : Nat) (s : PS) (r : Int) (w : World) (hP : PAt w p s) (h : r = 91) (hm : s.mid = 255) :
    Calls Try.prog 16 #[.pointer (some ⟨p, 0, none⟩), .int .i32 r] w (Tells p (.zero, .zero, false) w) := by
  subst h
  have hlt := hP.lt
  have c2 := cell_of_heap hP 2 (.int .u8 s.mid) rfl
  have f2 := free_of_heap hP 2
  rw [hm] at c2
  have HP := Lib.hid hP
  clear hP hm
  go_enter Try.func16, Try.ntmps16
  go_wp2_with fail
  refine (reset_any p s _ (hk_alloc hlt HP.out)).mono ?_
  rintro e w1 ⟨rfl, rfl⟩
  rw [alloc_setRow _ _ _ _ hlt]
  go_wp2_with fail
  go_returns
  exact tells_row HP.out rfl

set_option maxRecDepth 100000 in
theorem esc_f_m (p : Nat) (s : PS) (r : Int) (w : World) (hP : PAt w p s) (h1 : 93 ≤ r) (h2 : r ≤ 95) (hm : s.mid = 255) :
    Calls Try.prog 16 #[.pointer (some ⟨p, 0, none⟩), .int .i32 r] w (Tells p (.zero, .zero, false) w) := by
  have e80 : (r == 80) = false := by simp; omega
  have e88 : (r == 88) = false := by simp; omega
  have e91 : (r == 91) = false := by simp; omega
  have hlt := hP.lt
  have c2 := cell_of_heap hP 2 (.int .u8 s.mid) rfl
  have f2 := free_of_heap hP 2
  rw [hm] at c2
  have HP := Lib.hid hP
  clear hP hm
  go_enter Try.func16, Try.ntmps16
  go_wp2_with fail
  refine (reset_any p s _ (hk_alloc hlt HP.out)).mono ?_
  rintro e w1 ⟨rfl, rfl⟩
  rw [alloc_setRow _ _ _ _ hlt]
  go_wp2_with fail
  go_returns
  exact tells_row HP.out rfl

set_option maxRecDepth 100000 in
theorem esc_f_lo (p : Nat) (s : PS) (r : Int) (w : World) (hP : PAt w p s) (h1 : 48 ≤ r) (h2 : r < 93) (e80 : (r == 80) = false) (e88 : (r == 88) = false) (e91 : (r == 91) = false) (hm : s.mid = 255) :
    Calls Try.prog 16 #[.pointer (some ⟨p, 0, none⟩), .int .i32 r] w (Tells p (.zero, .zero, false) w) := by
  have hlt := hP.lt
  have c2 := cell_of_heap hP 2 (.int .u8 s.mid) rfl
  have f2 := free_of_heap hP 2
  rw [hm] at c2
  have HP := Lib.hid hP
  clear hP hm
  go_enter Try.func16, Try.ntmps16
  go_wp2_with fail
  refine (reset_any p s _ (hk_alloc hlt HP.out)).mono ?_
  rintro e w1 ⟨rfl, rfl⟩
  rw [alloc_setRow _ _ _ _ hlt]
  go_wp2_with fail
  go_returns
  exact tells_row HP.out rfl

set_option maxRecDepth 100000 in
theorem esc_f_hi (p : Nat) (s : PS) (r : Int) (w : World) (hP : PAt w p s) (h1 : 96 ≤ r) (h2 : r ≤ 126) (hm : s.mid = 255) :
    Calls Try.prog 16 #[.pointer (some ⟨p, 0, none⟩), .int .i32 r] w (Tells p (.zero, .zero, false) w) := by
  have e80 : (r == 80) = false := by simp; omega
  have e88 : (r == 88) = false := by simp; omega
  have e91 : (r == 91) = false := by simp; omega
  have hlt := hP.lt
  have c2 := cell_of_heap hP 2 (.int .u8 s.mid) rfl
  have f2 := free_of_heap hP 2
  rw [hm] at c2
  have HP := Lib.hid hP
  clear hP hm
  go_enter Try.func16, Try.ntmps16
  go_wp2_with fail
  refine (reset_any p s _ (hk_alloc hlt HP.out)).mono ?_
  rintro e w1 ⟨rfl, rfl⟩
  rw [alloc_setRow _ _ _ _ hlt]
  go_wp2_with fail
  go_returns
  exact tells_row HP.out rfl

set_option maxRecDepth 100000 in
theorem esc_f_top (p : Nat) (s : PS) (r : Int) (w : World) (hP : PAt w p s) (h1 : 127 ≤ r) (hm : s.mid = 255) :
    Calls Try.prog 16 #[.pointer (some ⟨p, 0, none⟩), .int .i32 r] w (Tells p (.zero, .zero, false) w) := by
  have e80 : (r == 80) = false := by simp; omega
  have e88 : (r == 88) = false := by simp; omega
  have e91 : (r == 91) = false := by simp; omega
  have hlt := hP.lt
  have c2 := cell_of_heap hP 2 (.int .u8 s.mid) rfl
  have f2 := free_of_heap hP 2
  rw [hm] at c2
  have HP := Lib.hid hP
  clear hP hm
  go_enter Try.func16, Try.ntmps16
  go_wp2_with fail
  refine (reset_any p s _ (hk_alloc hlt HP.out)).mono ?_
  rintro e w1 ⟨rfl, rfl⟩
  rw [alloc_setRow _ _ _ _ hlt]
  go_wp2_with fail
  go_returns
  exact tells_row HP.out rfl

set_option maxRecDepth 100000 in
theorem esc_low_z (p : Nat) (s : PS) (r : Int) (w : World) (hP : PAt w p s) (h32 : 32 ≤ r) (h47 : r ≤ 47) (hm : s.mid = 0) :
    Calls Try.prog 16 #[.pointer (some ⟨p, 0, none⟩), .int .i32 r] w (Tells p ({ s with mid := r }, .zero, false) w) := by
  have hlt := hP.lt
  have c2 := cell_of_heap hP 2 (.int .u8 s.mid) rfl
  have f2 := free_of_heap hP 2
  rw [hm] at c2
  have HP := Lib.hid hP
  clear hP hm
  go_enter Try.func16, Try.ntmps16
  go_wp2_with fail
  go_returns
  exact tells_set HP.out rfl rfl

set_option maxRecDepth 100000 in
theorem esc_low_o (p : Nat) (s : PS) (r : Int) (w : World) (hP : PAt w p s) (_h32 : 32 ≤ r) (h47 : r ≤ 47) (m0 : (s.mid == 0) = false) :
    Calls Try.prog 16 #[.pointer (some ⟨p, 0, none⟩), .int .i32 r] w (Tells p ({ s with mid := 255 }, .zero, false) w) := by
  have hlt := hP.lt
  have c2 := cell_of_heap hP 2 (.int .u8 s.mid) rfl
  have f2 := free_of_heap hP 2
  have HP := Lib.hid hP
  clear hP
  go_enter Try.func16, Try.ntmps16
  go_wp2_with fail
  go_returns
  exact tells_set HP.out rfl rfl

theorem escape_any (p : Nat) (s : PS) (r : Int) (w : World) (hP : PAt w p s) (h32 : 32 ≤ r) :
    Calls Try.prog 16 #[.pointer (some ⟨p, 0, none⟩), .int .i32 r] w (Tells p (esc s r) w) := by
  by_cases h47 : r ≤ 47
  · by_cases hm : s.mid = 0
    · have e : esc s r = ({ s with mid := r }, .zero, false) := by unfold esc; rw [if_pos ⟨h47, hm⟩]
      rw [e]; exact esc_low_z p s r w hP h32 h47 hm
    · have e : esc s r = ({ s with mid := 255 }, .zero, false) := by unfold esc; rw [if_neg (by omega), if_pos h47]
      rw [e]; exact esc_low_o p s r w hP h32 h47 (by simpa using hm)
  · by_cases k80 : r = 80
    · by_cases hm : s.mid = 0
      · have e : esc s r = ({ PS.zero with inn := 4 }, .zero, false) := by unfold esc; repeat (first | rw [if_pos (by omega)] | rw [if_neg (by omega)])
        rw [e]; exact esc_z_c80 p s r w hP k80 hm
      · by_cases hf : s.mid = 255
        · have e : esc s r = (.zero, .zero, false) := by unfold esc; repeat (first | rw [if_pos (by omega)] | rw [if_neg (by omega)])
          rw [e]; exact esc_f_c80 p s r w hP k80 hf
        · have e : esc s r = (.zero, .of 3 r s.mid, true) := by unfold esc; repeat (first | rw [if_pos (by omega)] | rw [if_neg (by omega)])
          rw [e]; exact esc_n_c80 p s r w hP k80 (by simpa using hm) (by simpa using hf)
    · by_cases k88 : r = 88
      · by_cases hm : s.mid = 0
        · have e : esc s r = ({ PS.zero with inn := 4 }, .zero, false) := by unfold esc; repeat (first | rw [if_pos (by omega)] | rw [if_neg (by omega)])
          rw [e]; exact esc_z_c88 p s r w hP k88 hm
        · by_cases hf : s.mid = 255
          · have e : esc s r = (.zero, .zero, false) := by unfold esc; repeat (first | rw [if_pos (by omega)] | rw [if_neg (by omega)])
            rw [e]; exact esc_f_c88 p s r w hP k88 hf
          · have e : esc s r = (.zero, .of 3 r s.mid, true) := by unfold esc; repeat (first | rw [if_pos (by omega)] | rw [if_neg (by omega)])
            rw [e]; exact esc_n_c88 p s r w hP k88 (by simpa using hm) (by simpa using hf)
      · by_cases k91 : r = 91
        · by_cases hm : s.mid = 0
          · have e : esc s r = ({ PS.zero with inn := 2 }, .zero, false) := by unfold esc; repeat (first | rw [if_pos (by omega)] | rw [if_neg (by omega)])
            rw [e]; exact esc_z_c91 p s r w hP k91 hm
          · by_cases hf : s.mid = 255
            · have e : esc s r = (.zero, .zero, false) := by unfold esc; repeat (first | rw [if_pos (by omega)] | rw [if_neg (by omega)])
              rw [e]; exact esc_f_c91 p s r w hP k91 hf
            · have e : esc s r = (.zero, .of 3 r s.mid, true) := by unfold esc; repeat (first | rw [if_pos (by omega)] | rw [if_neg (by omega)])
              rw [e]; exact esc_n_c91 p s r w hP k91 (by simpa using hm) (by simpa using hf)
        · by_cases k : 93 ≤ r ∧ r ≤ 95
          · by_cases hm : s.mid = 0
            · have e : esc s r = ({ PS.zero with inn := 4 }, .zero, false) := by unfold esc; repeat (first | rw [if_pos (by omega)] | rw [if_neg (by omega)])
              rw [e]; exact esc_z_m p s r w hP k.1 k.2 hm
            · by_cases hf : s.mid = 255
              · have e : esc s r = (.zero, .zero, false) := by unfold esc; repeat (first | rw [if_pos (by omega)] | rw [if_neg (by omega)])
                rw [e]; exact esc_f_m p s r w hP k.1 k.2 hf
              · have e : esc s r = (.zero, .of 3 r s.mid, true) := by unfold esc; repeat (first | rw [if_pos (by omega)] | rw [if_neg (by omega)])
                rw [e]; exact esc_n_m p s r w hP k.1 k.2 (by simpa using hm) (by simpa using hf)
          · by_cases k : 96 ≤ r ∧ r ≤ 126
            · by_cases hm : s.mid = 0
              · have e : esc s r = (.zero, .of 3 r s.mid, true) := by unfold esc; repeat (first | rw [if_pos (by omega)] | rw [if_neg (by omega)])
                rw [e]; exact esc_z_hi p s r w hP k.1 k.2 hm
              · by_cases hf : s.mid = 255
                · have e : esc s r = (.zero, .zero, false) := by unfold esc; repeat (first | rw [if_pos (by omega)] | rw [if_neg (by omega)])
                  rw [e]; exact esc_f_hi p s r w hP k.1 k.2 hf
                · have e : esc s r = (.zero, .of 3 r s.mid, true) := by unfold esc; repeat (first | rw [if_pos (by omega)] | rw [if_neg (by omega)])
                  rw [e]; exact esc_n_hi p s r w hP k.1 k.2 (by simpa using hm) (by simpa using hf)
            · by_cases k : 127 ≤ r
              · by_cases hm : s.mid = 0
                · have e : esc s r = (.zero, .zero, false) := by unfold esc; repeat (first | rw [if_pos (by omega)] | rw [if_neg (by omega)])
                  rw [e]; exact esc_z_top p s r w hP k hm
                · by_cases hf : s.mid = 255
                  · have e : esc s r = (.zero, .zero, false) := by unfold esc; repeat (first | rw [if_pos (by omega)] | rw [if_neg (by omega)])
                    rw [e]; exact esc_f_top p s r w hP k hf
                  · have e : esc s r = (.zero, .zero, false) := by unfold esc; repeat (first | rw [if_pos (by omega)] | rw [if_neg (by omega)])
                    rw [e]; exact esc_n_top p s r w hP k (by simpa using hm) (by simpa using hf)
              · by_cases hm : s.mid = 0
                · have e : esc s r = (.zero, .of 3 r s.mid, true) := by unfold esc; repeat (first | rw [if_pos (by omega)] | rw [if_neg (by omega)])
                  rw [e]; exact esc_z_lo p s r w hP (by omega) (by omega) (by simpa using k80) (by simpa using k88) (by simpa using k91) hm
                · by_cases hf : s.mid = 255
                  · have e : esc s r = (.zero, .zero, false) := by unfold esc; repeat (first | rw [if_pos (by omega)] | rw [if_neg (by omega)])
                    rw [e]; exact esc_f_lo p s r w hP (by omega) (by omega) (by simpa using k80) (by simpa using k88) (by simpa using k91) hf
                  · have e : esc s r = (.zero, .of 3 r s.mid, true) := by unfold esc; repeat (first | rw [if_pos (by omega)] | rw [if_neg (by omega)])
                    rw [e]; exact esc_n_lo p s r w hP (by omega) (by omega) (by simpa using k80) (by simpa using k88) (by simpa using k91) (by simpa using hm) (by simpa using hf)
end Esc
end Go.Proofs.Ytgbpmefiafoliaa
