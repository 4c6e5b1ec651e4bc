/- The document's example. -/
import Derived.Test.YtdghnfihphlboaaGet
import Derived.Test.YtdghnfihphlboaaBytes
namespace Go.Proofs.Ytdghnfihphlboaa
open Go.RowKit

def op1 : OpL := ⟨1, ⟨5, 1⟩, ⟨5, 1⟩, ⟨0, 0⟩, ⟨#[97]⟩, zero32, []⟩
def C1 : Array Value := opC op1 (.slice none 0 0)
theorem op1_a (w : World) : OpA w op1 none 0 0 := ⟨Sl.empty _ _, rfl, by decide⟩

set_option maxRecDepth 100000 in
set_option maxHeartbeats 400000 in
theorem first_any (w : World) : Calls Try.prog 33 #[] w (Ret w (.agg C1)) := by
  have hr := blk0 w (opC zop (.slice none 0 0)) 33
  have hB : Below w.heap.size w (w.alloc (.cells (opC zop (.slice none 0 0)) 33)) := (Below.refl _ _).alloc (Nat.le_refl _) _
  go_enter Try.func33, Try.ntmps33
  go_upto_region 1 with fail
  (repeat ((fail_if_success (with_reducible show wpList _ _ _ (Oper.mk _ (Op.store _ _ _) _ _ _ _ :: _) _ _)); first | go_values | go_skip | go_guarded | go_step | go_upon))
  refine wpList_store_seg (w := w.alloc (.cells (opC zop (.slice none 0 0)) 33)) rfl 33 _ _ rfl rfl w.heap.size 0 rfl C1 rfl 33 (opC zop (.slice none 0 0)) hr (by simp [C1, opC, zop, op1]) info_op (opC_one op1 _ rfl) C1 rfl ?_
  intro w3 h1 h2 h3
  go_wp2_with fail
  refine bodyPost_ret (results_cell_row rfl _ _ _ 33 _ (0, 0) _ rfl h1 Try.underlying33 rfl info_op) rfl ⟨rfl, ?_⟩
  exact hB.grown h2 hB.size (fun k hk => by cases hk; exact Nat.le_refl _)

end Go.Proofs.Ytdghnfihphlboaa
