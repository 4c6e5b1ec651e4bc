/- Every operation is right, or not, as said: the walk. -/
import Derived.Test.YtdghnfihphlboaaOrd
import Derived.Test.YtdghnfihphlboaaSameR
import Derived.Test.YtdghnfihphlboaaGoodR
namespace Go.Proofs.Ytdghnfihphlboaa
open Go.RowKit

theorem grow_below (W : World) (d : Nat) (os : Array Obj) : Below W.heap.size W (Sort.grow (redrawn W d) os) := below_regrown W d os

set_option maxRecDepth 100000 in
set_option maxHeartbeats 4000000 in
theorem goodlaw_any (o o' : OpL) (a : Option Addr) (n c : Nat) (a' : Option Addr) (n' c' : Nat) (w : World) (h : OpA w o a n c) (h' : OpA w o' a' n' c') :
    Calls Try.prog 4 #[.agg (opC o (.slice a n c)), .agg (opC o' (.slice a' n' c'))] w (Ret w (.bool true)) := by
  have hX := opC_x o (.slice a n c) h.data
  have hY := opC_x o' (.slice a' n' c') h'.data
  obtain ⟨x, hx⟩ : ∃ x, goodB o = x := ⟨_, rfl⟩
  obtain ⟨y, hy⟩ : ∃ y, sameB o o' = y := ⟨_, rfl⟩
  have hB0 : Below w.heap.size w ((w.alloc (.cells (opC o (.slice a n c)) 33)).alloc (.cells (opC o' (.slice a' n' c')) 33)) := ((Below.refl _ _).alloc (Nat.le_refl _) _).alloc (by simp) _
  have hb1 : ((w.alloc (.cells (opC o (.slice a n c)) 33)).alloc (.cells (opC o' (.slice a' n' c')) 33)).heap[w.heap.size]? = some (.cells (opC o (.slice a n c)) 33 (0, 0)) := (Below.heap_alloc _ _ _ (by simp)).trans (blk0 w _ _)
  have hb2 : ((w.alloc (.cells (opC o (.slice a n c)) 33)).alloc (.cells (opC o' (.slice a' n' c')) 33)).heap[w.heap.size + 1]? = some (.cells (opC o' (.slice a' n' c')) 33 (0, 0)) := by
    have := blk0 (w.alloc (.cells (opC o (.slice a n c)) 33)) (opC o' (.slice a' n' c')) 33
    simpa using this
  have g1 : ∀ W', Below w.heap.size w W' → Calls Try.prog 18 #[.agg (opC o (.slice a n c))] W' (Ret W' (.bool x)) := fun W' hb => hx ▸ good_any o a n c W' (h.below hb)
  have g2 : ∀ W', Below w.heap.size w W' → Calls Try.prog 19 #[.agg (opC o (.slice a n c))] W' (Ret W' (.bool x)) := fun W' hb => hx ▸ rgood_any o a n c W' (h.below hb)
  have g3 : ∀ W', Below w.heap.size w W' → Calls Try.prog 20 #[.agg (opC o (.slice a n c)), .agg (opC o' (.slice a' n' c'))] W' (Ret W' (.bool y)) := fun W' hb => hy ▸ same_any o o' a n c a' n' c' W' (h.below hb) (h'.below hb)
  have g4 : ∀ W', Below w.heap.size w W' → Calls Try.prog 21 #[.agg (opC o (.slice a n c)), .agg (opC o' (.slice a' n' c'))] W' (Ret W' (.bool y)) := fun W' hb => hy ▸ rsame_any o o' a n c a' n' c' W' (h.below hb) (h'.below hb)
  have g5 : ∀ W', Below w.heap.size w W' → Calls Try.prog 20 #[.agg (opC o (.slice a n c)), .agg (opC o (.slice a n c))] W' (Ret W' (.bool true)) := fun W' hb => by
    have := same_any o o a n c a n c W' (h.below hb) (h.below hb)
    rwa [show sameB o o = true by simp [sameB]] at this
  have hsX := hX.size
  have hsY := hY.size
  clear hx hy h h' hX hY
  generalize opC o (.slice a n c) = X at *
  generalize opC o' (.slice a' n' c') = Y at *
  go_enter Try.func4, Try.ntmps4
  go_wp2_with fail
  generalize hW : (w.alloc (.cells X 33)).alloc (.cells Y 33) = W at *
  clear hW
  have q1 := fun (d : Nat) (os : Array Obj) => boxed_below (boxed_of hb1 hsX) (grow_below W d os)
  have q2 := fun (d : Nat) (os : Array Obj) => boxed_below (boxed_of hb2 hsY) (grow_below W d os)
  have A1 := fun (d : Nat) (os : Array Obj) => Calls.regrown_of (alive_any (Sort.grow (redrawn W d) os))
  have A2 := fun (d : Nat) (os : Array Obj) => Calls.regrown_of (g1 _ (Below.next hB0 (grow_below W d os)))
  have A3 := fun (d : Nat) (os : Array Obj) => Calls.regrown_of (g2 _ (Below.next hB0 (grow_below W d os)))
  have A4 := fun (d : Nat) (os : Array Obj) => Calls.regrown_of (g3 _ (Below.next hB0 (grow_below W d os)))
  have A5 := fun (d : Nat) (os : Array Obj) => Calls.regrown_of (g4 _ (Below.next hB0 (grow_below W d os)))
  have A6 := fun (d : Nat) (os : Array Obj) => Calls.regrown_of (g5 _ (Below.next hB0 (grow_below W d os)))
  clear g1 g2 g3 g4 g5 hb1 hb2 hsX hsY
  (refine wp_region_quiet_below (by kernel_rfl) (by kernel_rfl) ?_; (repeat (go_big_quiet_step ((first | with_reducible exact A1 _ _ | with_reducible exact A2 _ _ | with_reducible exact A3 _ _ | with_reducible exact A4 _ _ | with_reducible exact A5 _ _ | with_reducible exact A6 _ _)))); refine wpQuiet_nil ?_; intro _ hw'; obtain ⟨⟨dq, osq⟩, hw''⟩ := hw'; subst hw'')
  go_wp2_with fail
  go_ret
  exact Ret.mk rfl (Below.next hB0 (below_regrown _ _ _))

end Go.Proofs.Ytdghnfihphlboaa
