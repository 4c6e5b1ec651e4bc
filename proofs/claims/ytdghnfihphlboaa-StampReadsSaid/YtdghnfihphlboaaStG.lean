/- A reader is made; a stamp is read. -/
import Derived.Test.YtdghnfihphlboaaEncI
namespace Go.Proofs.Ytdghnfihphlboaa
open Go.RowKit

/-- A reader of new bytes at block g. -/
def NewRd (w : World) (l : List Int) (e : Ending) (w' : World) : Prop :=
  ∃ g, e = .returned (.pointer (some ⟨g, 0, none⟩)) ∧ Below w.heap.size w w' ∧ RdAt w' g g (some l) ∧ w.heap.size ≤ g ∧ g < w'.heap.size

set_option maxRecDepth 100000 in
theorem read_any (a : Option Addr) (n c : Nat) (l : List Int) (w : World) (h : Bs w a n c l) (hl : l.length ≤ 140737488355328) :
    Calls Try.prog 26 #[.slice a n c] w (NewRd w l) := by
  go_enter Try.func26, Try.ntmps26
  go_wp2_with (go_at_call 43; refine (clone_bytes _ _ _ _ _ h hl).mono ?_; rintro e w1 ⟨a1, k1, c1, rfl, hb, hown⟩)
  go_ret
  have hs := own_bs hown
  have hlt := World.ownsRow.lt hown
  refine ⟨w1.heap.size, rfl, hb.alloc hb.size _, ⟨a1, k1, c1, heap_alloc_new w1 _, Sl.alloc hs _, fun x hx => ?_⟩, hb.size, by simp⟩
  subst hx
  exact (hlt x.block rfl).2

theorem set2 {w : World} {q : Nat} {x y u v : Value} {t : TypeId} (h : w.heap[q]? = some (.cells #[x, y] t (0, 0))) : ((w.setCell ⟨q, 0, none⟩ u).setCell ⟨q, 1, none⟩ v).heap[q]? = some (.cells #[u, v] t (0, 0)) :=
  (heap_setCell_same _ q 1 _ _ v ((heap_setCell_same w q 0 _ _ u h).trans rfl)).trans rfl

def StPost (w : World) (H g : Nat) (x : St × Rd) (e : Ending) (w' : World) : Prop := e = .returned (.agg #[.int .i64 x.1.t, .int .i64 x.1.r]) ∧ w.grownBy w' (some g) ∧ RdAt w' H g x.2

set_option maxRecDepth 100000 in
theorem getst_any (H g : Nat) (s : Rd) (w : World) (h : RdAt w H g s) (hs : RdBytes s) (hH : H ≤ w.heap.size) :
    Calls Try.prog 53 #[.pointer (some ⟨g, 0, none⟩)] w (StPost w H g (getSt s)) := by
  have hA := h.alloc hH (.cells #[.int .i64 0, .int .i64 0] 23)
  have hg := h.lt
  have hq0 : (w.alloc (.cells #[.int .i64 0, .int .i64 0] 23)).heap[w.heap.size]? = some (.cells #[.int .i64 0, .int .i64 0] 23 (0, 0)) := heap_alloc_new w _
  have hgr0 : w.grownBy (w.alloc (.cells #[.int .i64 0, .int .i64 0] 23)) (some g) := grown_below ((Below.refl _ _).alloc (Nat.le_refl _) _)
  have hne : w.heap.size ≠ g := by omega
  go_enter Try.func53, Try.ntmps53
  go_wp2_with fail
  refine (rdnum_any H g s 1099511627776 _ hA hs).mono ?_
  rintro e w1 ⟨rfl, hgr1, hrd1⟩
  have hq1 := grown_at hgr1 hq0 hne
  go_wp2_with fail
  refine (rdnum_any H g _ 65536 _ hrd1 (hs.getNum _)).mono ?_
  rintro e w2 ⟨rfl, hgr2, hrd2⟩
  have hq2 := grown_at hgr2 hq1 hne
  obtain ⟨hc, hf, hlt⟩ := blk_cell hq2
  have c0 := hc 0; have c1 := hc 1; have f0 := hf 0; have f1 := hf 1
  simp at c0 c1
  have HQ := Lib.hid hq2
  clear hc hf hq0 hq1 hq2
  go_wp2
  have s1 := hgr1.size
  have s2 := hgr2.size
  simp at s1
  have hq3 := set2 (u := .int .i64 (getNum 1099511627776 s).1) (v := .int .i64 (getNum 65536 (getNum 1099511627776 s).2).1) HQ.out
  refine bodyPost_ret (results_cell_row rfl _ _ _ 23 _ (0, 0) _ rfl hq3 Try.underlying23 rfl (by kernel_rfl)) rfl ⟨rfl, ?_, ?_⟩
  · have h2 := grown_trans hgr0 (grown_trans hgr1 hgr2)
    refine ⟨h2.os, h2.tape, h2.output, by simpa using h2.size, fun k hk hkg => ?_⟩
    rw [heap_setCell_other _ _ _ _ (by simp; omega), heap_setCell_other _ _ _ _ (by simp; omega)]
    exact h2.block k hk hkg
  · refine hrd2.kept ?_ (fun k hk _ => ?_)
    all_goals rw [heap_setCell_other _ _ _ _ (by simp; omega), heap_setCell_other _ _ _ _ (by simp; omega)]

end Go.Proofs.Ytdghnfihphlboaa
