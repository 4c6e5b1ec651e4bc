/- The document's reader: numbers of four bytes, IDs, whether all was read. -/
import Derived.Test.YtfjbmgfkfeehnaaDocA
namespace Go.Proofs.Ytfjbmgfkfeehnaa
open Go.RowKit

set_option maxRecDepth 100000 in
theorem rgdone_any (s : Rd) (a : Option Addr) (n c : Nat) (b : Bool) (w0 w : World) (h : InC w0 s a n c b) :
    Calls Try.prog 54 #[.agg #[.slice a n c, .bool b]] w (Ret w (.bool (doneB s))) := by
  cases s with
  | none =>
    obtain ⟨rfl, rfl, rfl, rfl⟩ := h
    go_enter Try.func54, Try.ntmps54
    go_wp2_with fail
    go_ret
    exact Ret.mk rfl ((Below.refl _ _).alloc (Nat.le_refl _) _)
  | some l =>
    obtain ⟨rfl, h⟩ := h
    have hl := h.length
    have HL := Lib.hid (show ((n : Int) == 0) = doneB (some l) by
      cases l with
      | nil => simp at hl; subst hl; rfl
      | cons x t =>
        simp only [List.length_cons] at hl
        show ((n : Int) == 0) = false
        simp
        omega)
    clear hl h
    go_enter Try.func54, Try.ntmps54
    go_wp2_with fail
    go_ret
    exact Ret.mk (congrArg Value.bool HL.out) ((Below.refl _ _).alloc (Nat.le_refl _) _)

theorem four_sum {x0 x1 x2 x3 : Int} (b0 : 0 ≤ x0 ∧ x0 < 256) (b1 : 0 ≤ x1 ∧ x1 < 256) (b2 : 0 ≤ x2 ∧ x2 < 256) (b3 : 0 ≤ x3 ∧ x3 < 256) :
    x0 + 256 * x1 + 65536 * x2 + 16777216 * x3 = (unfour [x0, x1, x2, x3] : Nat) := by
  simp only [unfour]
  omega
theorem four_wrap {x0 x1 x2 x3 : Int} (b0 : 0 ≤ x0 ∧ x0 < 256) (b1 : 0 ≤ x1 ∧ x1 < 256) (b2 : 0 ≤ x2 ∧ x2 < 256) (b3 : 0 ≤ x3 ∧ x3 < 256) :
    IntKind.u32.wrap (IntKind.u32.wrap (IntKind.u32.wrap (IntKind.u32.wrap x0 + IntKind.u32.wrap (256 * IntKind.u32.wrap x1)) + IntKind.u32.wrap (65536 * IntKind.u32.wrap x2)) + IntKind.u32.wrap (16777216 * IntKind.u32.wrap x3)) = (unfour [x0, x1, x2, x3] : Nat) := by
  rw [← four_sum b0 b1 b2 b3]
  simp only [IntKind.wrap_u32]
  omega
def FourPost (w : World) (m : Nat) (e : Ending) (w' : World) : Prop := ∃ a n c b, e = .returned (.tuple #[.int .u32 m, .agg #[.slice a n c, .bool b]]) ∧ Below w.heap.size w w'

set_option maxRecDepth 100000 in
set_option maxHeartbeats 4000000 in
theorem rgfour_any (a : Option Addr) (n c : Nat) (l : List Int) (w : World) (h : Bs w a n c l) (hb : IsBytes l) (hn : n = 4) :
    Calls Try.prog 49 #[.agg #[.slice a n c, .bool false]] w (FourPost w (unfour l)) := by
  subst hn
  have hl := h.length
  obtain ⟨x0, x1, x2, x3, rfl⟩ : ∃ x0 x1 x2 x3, l = [x0, x1, x2, x3] := by
    match l, hl with
    | [x0, x1, x2, x3], _ => exact ⟨x0, x1, x2, x3, rfl⟩
  have b0 := hb x0 (by simp)
  have b1 := hb x1 (by simp)
  have b2 := hb x2 (by simp)
  have b3 := hb x3 (by simp)
  have hcap := h.cap
  have hle := h.le
  unfold maxLen at hcap
  obtain ⟨q, off, rfl, hc⟩ := Bs.at h (by omega)
  have HF := Lib.hid (four_wrap b0 b1 b2 b3)
  have hc1 : (4 : Int) ≤ (c : Int) := by omega
  clear hl hb
  go_enter Try.func49, Try.ntmps49
  go_upto_region 3 with fail
  have hB0 : Below w.heap.size w ((w.alloc (.cells #[.slice (some ⟨q, off, none⟩) 4 c, .bool false] 86)).alloc (.cells #[.slice none 0 0, .bool false] 86)) := ((Below.refl _ _).alloc (Nat.le_refl _) _).alloc (by simp) _
  have k0 := Below.old hB0 (Nat.le_refl _) (hc 0 x0 rfl)
  have k1 := Below.old hB0 (Nat.le_refl _) (hc 1 x1 rfl)
  have k2 := Below.old hB0 (Nat.le_refl _) (hc 2 x2 rfl)
  have k3 := Below.old hB0 (Nat.le_refl _) (hc 3 x3 rfl)
  rw [Nat.add_zero] at k0
  have hr := blk0 (w.alloc (.cells #[.slice (some ⟨q, off, none⟩) 4 c, .bool false] 86)) #[.slice none 0 0, .bool false] 86
  rw [show (w.alloc (.cells #[.slice (some ⟨q, off, none⟩) 4 c, .bool false] 86)).heap.size = w.heap.size + 1 by simp] at hr
  have hr0 : ((w.alloc (.cells #[.slice (some ⟨q, off, none⟩) 4 c, .bool false] 86)).alloc (.cells #[.slice none 0 0, .bool false] 86)).heap[w.heap.size]? = some (.cells #[.slice (some ⟨q, off, none⟩) 4 c, .bool false] 86 (0, 0)) := (Below.heap_alloc _ _ _ (by simp)).trans (blk0 w _ _)
  have kq := (blk_cell hr0).1 0
  have c30 := (blk_cell hr).1 0
  have c31 := (blk_cell hr).1 1
  have f30 := (blk_cell hr).2.1 0
  have f31 := (blk_cell hr).2.1 1
  simp only [List.getElem?_toArray, List.getElem?_cons_zero, List.getElem?_cons_succ] at kq c30 c31
  have HR := Lib.hid hr
  clear hc hr hr0
  generalize (w.alloc (.cells #[.slice (some ⟨q, off, none⟩) 4 c, .bool false] 86)).alloc (.cells #[.slice none 0 0, .bool false] 86) = W0 at *
  have hqlt : q < w.heap.size := by
    obtain ⟨q', off', e, hc'⟩ := Sl.cells h (by omega)
    cases e
    have h0 := hc' 0 (by omega)
    rw [List.getElem?_eq_getElem (by simp)] at h0
    exact cell_lt h0
  have hne : ¬ q = w.heap.size + 1 := by omega
  clear hqlt h
  by_cases hc4 : c = 4
  · subst hc4
    go_region_held3 (fun w' : World => w'.cell? ⟨w.heap.size, 0, none⟩ = some (.slice (some ⟨q, off, none⟩) 4 (4)) ∧ w'.cell? ⟨q, off, none⟩ = some (.int .u8 x0) ∧ w'.cell? ⟨q, off + 1, none⟩ = some (.int .u8 x1) ∧ w'.cell? ⟨q, off + 2, none⟩ = some (.int .u8 x2) ∧ w'.cell? ⟨q, off + 3, none⟩ = some (.int .u8 x3)) (first | assumption | (simp [go_sem, *]; done)) (fail)
    all_goals
      try go_wp2_with fail
      have hset := set2 (u := .slice (some ⟨q, off, none⟩) 0 0) (v := .bool false) HR.out
      have z0 := (blk_cell hset).1 0
      have z1 := (blk_cell hset).1 1
      simp only [List.getElem?_toArray, List.getElem?_cons_zero, List.getElem?_cons_succ] at z0 z1
      have hB8 := ((hB0.setCell (p := ⟨w.heap.size + 1, 0, none⟩) (by simp) (.slice (some ⟨q, off, none⟩) 0 0)).setCell (p := ⟨w.heap.size + 1, 1, none⟩) (by simp) (.bool false)).drew
      rw [HF.out]
      refine bodyPost_ret (v := .tuple #[.int .u32 (unfour [x0, x1, x2, x3] : Nat), .agg #[.slice (some ⟨q, off, none⟩) 0 0, .bool false]]) (by simp [results, Try.results49, go_sem, z0, z1]) rfl ?_
      exact ⟨_, _, _, _, rfl, hB8⟩
  · go_region_held3 (fun w' : World => w'.cell? ⟨w.heap.size, 0, none⟩ = some (.slice (some ⟨q, off, none⟩) 4 (c)) ∧ w'.cell? ⟨q, off, none⟩ = some (.int .u8 x0) ∧ w'.cell? ⟨q, off + 1, none⟩ = some (.int .u8 x1) ∧ w'.cell? ⟨q, off + 2, none⟩ = some (.int .u8 x2) ∧ w'.cell? ⟨q, off + 3, none⟩ = some (.int .u8 x3)) (first | assumption | (simp [go_sem, *]; done)) (fail)
    all_goals
      try go_wp2_with fail
      have hset := set2 (u := .slice (some ⟨q, off + 4, none⟩) 0 (c - 4)) (v := .bool false) HR.out
      have z0 := (blk_cell hset).1 0
      have z1 := (blk_cell hset).1 1
      simp only [List.getElem?_toArray, List.getElem?_cons_zero, List.getElem?_cons_succ] at z0 z1
      have hB8 := ((hB0.setCell (p := ⟨w.heap.size + 1, 0, none⟩) (by simp) (.slice (some ⟨q, off + 4, none⟩) 0 (c - 4))).setCell (p := ⟨w.heap.size + 1, 1, none⟩) (by simp) (.bool false)).drew
      rw [HF.out]
      refine bodyPost_ret (v := .tuple #[.int .u32 (unfour [x0, x1, x2, x3] : Nat), .agg #[.slice (some ⟨q, off + 4, none⟩) 0 (c - 4), .bool false]]) (by simp [results, Try.results49, go_sem, z0, z1]) rfl ?_
      exact ⟨_, _, _, _, rfl, hB8⟩

end Go.Proofs.Ytfjbmgfkfeehnaa
