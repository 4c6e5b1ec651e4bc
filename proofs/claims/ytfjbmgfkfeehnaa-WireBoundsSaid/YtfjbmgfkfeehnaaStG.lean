/- A reader is made; a stamp is read. -/
import Derived.Test.YtfjbmgfkfeehnaaEncI
namespace Go.Proofs.Ytfjbmgfkfeehnaa
open Go.RowKit

/-- A reader of new bytes at block g. -/
def NewRd (w : World) (l : List Int) (e : Ending) (w' : World) : Prop :=
  ∃ g, e = .returned (.pointer (some ⟨g, 0, none⟩)) ∧ Below w.heap.size w w' ∧ RdAt w' g g (some l) ∧ w.heap.size ≤ g ∧ g < w'.heap.size

set_option maxRecDepth 100000 in
theorem read_any (a : Option Addr) (n c : Nat) (l : List Int) (w : World) (h : Bs w a n c l) (hl : l.length ≤ 140737488355328) :
    Calls Try.prog 35 #[.slice a n c] w (NewRd w l) := by
  go_enter Try.func35, Try.ntmps35
  go_wp2_with (go_at_call 55; refine (clone_bytes _ _ _ _ _ h hl).mono ?_; rintro e w1 ⟨a1, k1, c1, rfl, hb, hown⟩)
  go_ret
  have hs := own_bs hown
  have hlt := World.ownsRow.lt hown
  refine ⟨w1.heap.size, rfl, hb.alloc hb.size _, ⟨a1, k1, c1, heap_alloc_new w1 _, Sl.alloc hs _, fun x hx => ?_⟩, hb.size, by simp⟩
  subst hx
  exact (hlt x.block rfl).2

theorem set2 {w : World} {q : Nat} {x y u v : Value} {t : TypeId} (h : w.heap[q]? = some (.cells #[x, y] t (0, 0))) : ((w.setCell ⟨q, 0, none⟩ u).setCell ⟨q, 1, none⟩ v).heap[q]? = some (.cells #[u, v] t (0, 0)) :=
  (heap_setCell_same _ q 1 _ _ v ((heap_setCell_same w q 0 _ _ u h).trans rfl)).trans rfl

end Go.Proofs.Ytfjbmgfkfeehnaa
