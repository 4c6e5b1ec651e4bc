/- Right operations. -/
import Derived.Test.YtdghnfihphlboaaOp
namespace Go.Proofs.Ytdghnfihphlboaa
open Go.RowKit

def moveB (o : OpL) : Bool := decide (stCmp o.node o.at_ ≤ 0) && (stRight o.parent || stFixed o.parent) && nameB o.name && decide (o.data = zero32) && decide (o.over.length = 0)

@[go_sem] theorem eql_id0 (a : List Int) (ha : a.length = 32) (w : World) : (Op.equalIn 10000 30 (.agg (idC a)) (.agg #[.int .u8 0, .int .u8 0, .int .u8 0, .int .u8 0, .int .u8 0, .int .u8 0, .int .u8 0, .int .u8 0, .int .u8 0, .int .u8 0, .int .u8 0, .int .u8 0, .int .u8 0, .int .u8 0, .int .u8 0, .int .u8 0, .int .u8 0, .int .u8 0, .int .u8 0, .int .u8 0, .int .u8 0, .int .u8 0, .int .u8 0, .int .u8 0, .int .u8 0, .int .u8 0, .int .u8 0, .int .u8 0, .int .u8 0, .int .u8 0, .int .u8 0, .int .u8 0])).run Try.prog w = .ok (decide (a = zero32)) w :=
  eql_id a zero32 ha rfl w
theorem blk0 (w : World) (X : Array Value) (t : TypeId) : (w.alloc (.cells X t)).heap[w.heap.size]? = some (.cells X t (0, 0)) := heap_alloc_new w _

set_option maxRecDepth 100000 in
theorem move_any (o : OpL) (a : Option Addr) (n c : Nat) (w : World) (h : OpA w o a n c) :
    Calls Try.prog 40 #[.agg (opC o (.slice a n c))] w (Ret w (.bool (moveB o))) := by
  obtain ⟨hsz, x0, x1, x2, x3, x4, x5, x6, x7, x40, xd, xa⟩ := opC_x o (.slice a n c) h.data
  have hd := h.data
  have hnm := h.name
  have hn := h.len
  revert hsz x0 x1 x2 x3 x4 x5 x6 x7 x40 xd xa
  generalize opC o (.slice a n c) = X
  intro hsz x0 x1 x2 x3 x4 x5 x6 x7 x40 xd xa
  have hx := blk0 w X 33
  have hcx := (blk_cell hx).1
  have hB0 : Below w.heap.size w (w.alloc (.cells X 33)) := (Below.refl _ _).alloc (Nat.le_refl _) _
  have HD := Lib.hid xd; have HS := Lib.hid hsz; clear xd hsz
  go_enter Try.func40, Try.ntmps40
  go_wp2_with (first
    | (with_reducible show wpList _ _ _ _ _ _; refine wpList_load_seg ?hw 30 _ rfl w.heap.size 8 rfl 33 X (0, 0) _ 32 hx (by rw [HS.out]; omega) Try.underlying30 rfl size_id (idC o.data) HD.out ?_; (case hw => (simp [go_sem, *]; done)))
    | (go_at_call 12; (with_reducible refine (stcmp_any o.node o.at_ _).mono ?_); rintro e w1 ⟨rfl, hb⟩; have hB := Below.next (w := w) (by assumption) hb; have hx := (hb.block _ (blk_cell hx).2.2).trans hx; have hcx := (blk_cell hx).1; have hb := hb)
    | (go_at_call 14; (with_reducible refine (stright_any o.parent _).mono ?_); rintro e w1 ⟨rfl, hb⟩; have hB := Below.next (w := w) (by assumption) hb; have hx := (hb.block _ (blk_cell hx).2.2).trans hx; have hcx := (blk_cell hx).1; have hb := hb)
    | (go_at_call 70; (with_reducible refine (stfixed_any o.parent _).mono ?_); rintro e w1 ⟨rfl, hb⟩; have hB := Below.next (w := w) (by assumption) hb; have hx := (hb.block _ (blk_cell hx).2.2).trans hx; have hcx := (blk_cell hx).1; have hb := hb)
    | (go_at_call 16; (with_reducible refine (name_any o.name _ hnm).mono ?_); rintro e w1 ⟨rfl, hb⟩; have hB := Below.next (w := w) (by assumption) hb; have hx := (hb.block _ (blk_cell hx).2.2).trans hx; have hcx := (blk_cell hx).1; have hb := hb))
  all_goals
    go_ret
    refine Ret.mk (congrArg Value.bool ?_) (by assumption)
    simp only [moveB]
    rw [Bool.eq_iff_iff]
    simp [*]
    try omega

end Go.Proofs.Ytdghnfihphlboaa
