/- Right operations; the same operations: the program's functions. -/
import Derived.Test.YtdghnfihphlboaaEdit
namespace Go.Proofs.Ytdghnfihphlboaa
open Go.RowKit

def goodB (o : OpL) : Bool := stRight o.at_ && stRight o.node && (if o.kind = 1 then moveB o else if o.kind = 2 then editB o else false)
def sameB (a b : OpL) : Bool := decide (a.kind = b.kind) && decide (a.at_ = b.at_) && decide (a.node = b.node) && decide (a.parent = b.parent) && (a.name.toList == b.name.toList) && decide (a.data = b.data) && decide (a.over = b.over)

theorem info_op : (Try.prog.info? 33).map (·.size) = some 41 := by kernel_rfl

set_option maxRecDepth 100000 in
theorem good_any (o : OpL) (a : Option Addr) (n c : Nat) (w : World) (h : OpA w o a n c) :
    Calls Try.prog 18 #[.agg (opC o (.slice a n c))] w (Ret w (.bool (goodB o))) := by
  obtain ⟨hsz, x0, x1, x2, x3, x4, x5, x6, x7, x40, xd, xa⟩ := opC_x o (.slice a n c) h.data
  have HM : ∀ w', Below w.heap.size w w' → Calls Try.prog 40 #[.agg (opC o (.slice a n c))] w' (Ret w' (.bool (moveB o))) := fun w' hb => move_any o a n c w' (h.below hb)
  have HE : ∀ w', Below w.heap.size w w' → Calls Try.prog 41 #[.agg (opC o (.slice a n c))] w' (Ret w' (.bool (editB o))) := fun w' hb => edit_any o a n c w' (h.below hb)
  revert hsz x0 x1 x2 x3 x4 x5 x6 x7 x40 xd xa HM HE
  generalize opC o (.slice a n c) = X
  intro hsz x0 x1 x2 x3 x4 x5 x6 x7 x40 xd xa HM HE
  have hx := blk0 w X 33
  have hcx := (blk_cell hx).1
  have hB0 : Below w.heap.size w (w.alloc (.cells X 33)) := (Below.refl _ _).alloc (Nat.le_refl _) _
  have HX := Lib.hid xa; have HS := Lib.hid hsz; clear xa hsz h xd
  have hm1 := Lib.hid HM; have he1 := Lib.hid HE; clear HM HE
  go_enter Try.func18, Try.ntmps18
  go_wp2_with (first
    | (with_reducible show wpList _ _ _ _ _ _; refine wpList_load_seg ?hw 33 _ rfl w.heap.size 0 rfl 33 X (0, 0) _ 41 hx (by rw [HS.out]; omega) Try.underlying33 rfl info_op X HX.out ?_; (case hw => (simp [go_sem]; done)))
    | (go_at_call 14; (with_reducible refine (stright_any o.at_ _).mono ?_); rintro e w1 ⟨rfl, hb⟩; have hB := Below.next (w := w) (by assumption) hb; have hx := (hb.block _ (blk_cell hx).2.2).trans hx; have hcx := (blk_cell hx).1; have hb := hb)
    | (go_at_call 14; (with_reducible refine (stright_any o.node _).mono ?_); rintro e w1 ⟨rfl, hb⟩; have hB := Below.next (w := w) (by assumption) hb; have hx := (hb.block _ (blk_cell hx).2.2).trans hx; have hcx := (blk_cell hx).1; have hb := hb)
    | (go_at_call 40; (with_reducible refine (hm1.out _ (by assumption)).mono ?_); rintro e w1 ⟨rfl, hb⟩; have hB := Below.next (w := w) (by assumption) hb; have hx := (hb.block _ (blk_cell hx).2.2).trans hx; have hcx := (blk_cell hx).1; have hb := hb)
    | (go_at_call 41; (with_reducible refine (he1.out _ (by assumption)).mono ?_); rintro e w1 ⟨rfl, hb⟩; have hB := Below.next (w := w) (by assumption) hb; have hx := (hb.block _ (blk_cell hx).2.2).trans hx; have hcx := (blk_cell hx).1; have hb := hb))
  all_goals
    go_ret
    refine Ret.mk (congrArg Value.bool ?_) (by assumption)
    simp only [goodB]
    (try simp only [Bool.not_eq_true', Bool.not_eq_false', beq_iff_eq, beq_eq_false_iff_ne, ne_eq] at *)
    rw [Bool.eq_iff_iff]
    simp [*]
    try omega

set_option maxRecDepth 100000 in
theorem same_any (o o' : OpL) (a : Option Addr) (n c : Nat) (a' : Option Addr) (n' c' : Nat) (w : World) (h : OpA w o a n c) (h' : OpA w o' a' n' c') :
    Calls Try.prog 20 #[.agg (opC o (.slice a n c)), .agg (opC o' (.slice a' n' c'))] w (Ret w (.bool (sameB o o'))) := by
  obtain ⟨hsz, x0, x1, x2, x3, x4, x5, x6, x7, x40, xd, xa⟩ := opC_x o (.slice a n c) h.data
  obtain ⟨ysz, y0, y1, y2, y3, y4, y5, y6, y7, y40, yd, ya⟩ := opC_x o' (.slice a' n' c') h'.data
  have hd := h.data
  have hd' := h'.data
  revert hsz x0 x1 x2 x3 x4 x5 x6 x7 x40 xd xa ysz y0 y1 y2 y3 y4 y5 y6 y7 y40 yd ya
  generalize opC o (.slice a n c) = X
  generalize opC o' (.slice a' n' c') = Y
  intro hsz x0 x1 x2 x3 x4 x5 x6 x7 x40 xd xa ysz y0 y1 y2 y3 y4 y5 y6 y7 y40 yd ya
  have hx : ((w.alloc (.cells X 33)).alloc (.cells Y 33)).heap[w.heap.size]? = some (.cells X 33 (0, 0)) := (Below.heap_alloc _ _ _ (by simp)).trans (blk0 w X _)
  have hy : ((w.alloc (.cells X 33)).alloc (.cells Y 33)).heap[w.heap.size + 1]? = some (.cells Y 33 (0, 0)) := by have := blk0 (w.alloc (.cells X 33)) Y 33; simpa using this
  have hcx := (blk_cell hx).1
  have hcy := (blk_cell hy).1
  have hB0 : Below w.heap.size w ((w.alloc (.cells X 33)).alloc (.cells Y 33)) := ((Below.refl _ _).alloc (Nat.le_refl _) _).alloc (by simp) _
  have HD := Lib.hid xd; have HS := Lib.hid hsz; have HD' := Lib.hid yd; have HS' := Lib.hid ysz
  have HE : ∀ w', Below w.heap.size w w' → Calls Try.prog 42 #[.slice a n c, .slice a' n' c'] w' (Ret w' (.bool (decide (o.over = o'.over)))) := fun w' hb => equal_any _ _ _ _ _ _ _ _ w' (h.below hb).over (h'.below hb).over
  have he1 := Lib.hid HE
  clear xa hsz h xd ya ysz h' yd HE
  go_enter Try.func20, Try.ntmps20
  go_wp2_with (first
    | (with_reducible show wpList _ _ _ _ _ _; refine wpList_load_seg ?hw 30 _ rfl w.heap.size 8 rfl 33 X (0, 0) _ 32 hx (by rw [HS.out]; omega) Try.underlying30 rfl size_id (idC o.data) HD.out ?_; (case hw => (simp [go_sem, *]; done)))
    | (with_reducible show wpList _ _ _ _ _ _; refine wpList_load_seg ?hw 30 _ rfl (w.heap.size + 1) 8 rfl 33 Y (0, 0) _ 32 hy (by rw [HS'.out]; omega) Try.underlying30 rfl size_id (idC o'.data) HD'.out ?_; (case hw => (simp [go_sem, *]; done)))
    | (go_at_call 42; refine (he1.out _ (by assumption)).mono ?_; rintro e w1 ⟨rfl, hb⟩; have hB := Below.next (w := w) (by assumption) hb; have hb := hb))
  all_goals
    go_ret
    refine Ret.mk (congrArg Value.bool ?_) (by assumption)
    simp only [sameB, ← stEq_iff]
    (try simp only [Bool.not_eq_true', Bool.not_eq_false', beq_iff_eq, beq_eq_false_iff_ne, ne_eq] at *)
    rw [Bool.eq_iff_iff]
    simp [*]

end Go.Proofs.Ytdghnfihphlboaa
