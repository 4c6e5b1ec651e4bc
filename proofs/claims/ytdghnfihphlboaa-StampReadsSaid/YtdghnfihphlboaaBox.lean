/- A struct that lies in a block of its own: it is loaded as a whole, never cell by cell. -/
import Derived.Test.YtdghnfihphlboaaAlive
namespace Go.Proofs.Ytdghnfihphlboaa
open Go.RowKit

/-- The block g holds a value of type t, n cells. -/
def isBox (w : World) (g : Nat) (t : TypeId) (n : Nat) : Bool := match w.heap[g]? with
  | some (.cells cs t' _) => t' == t && cs.size == n
  | _ => false
def boxAt (w : World) (g : Nat) : Array Value := match w.heap[g]? with
  | some (.cells cs _ _) => cs
  | _ => #[]
theorem isBox_of {w : World} {g : Nat} {t : TypeId} {X : Array Value} {fr : Nat × Nat} (h : w.heap[g]? = some (.cells X t fr)) (n : Nat) (hn : X.size = n) : isBox w g t n = true ∧ boxAt w g = X := by
  unfold isBox boxAt
  rw [h]
  simp [hn]
theorem box_kept {W W' : World} {g : Nat} {X : Array Value} {t : TypeId} (h : W.heap[g]? = some (.cells X t (0, 0))) (hb : Below W.heap.size W W') : W'.heap[g]? = some (.cells X t (0, 0)) :=
  (hb.block _ (blk_cell h).2.2).trans h
/-- A load of an operation, kept whole. -/
def loadBox (v : Value) : Sem Value := Instr.loadAt 33 v
@[go_sem ↓ high] theorem loadAt_box (v : Value) : Instr.loadAt 33 v = loadBox v := rfl
@[go_sem] theorem run_load_op (w : World) (g : Nat) (h : isBox w g 33 41 = true) : (loadBox (.pointer (some ⟨g, 0, none⟩))).run Try.prog w = .ok (.agg (boxAt w g)) w := by
  unfold isBox at h
  unfold boxAt
  split at h
  · rename_i cs t' fr hc
    simp only [Bool.and_eq_true, beq_iff_eq] at h
    obtain ⟨rfl, hs⟩ := h
    have := run_loadVar_seg (P := Try.prog) w g 0 33 33 cs fr _ 41 hc (by omega) Try.underlying33 rfl info_op
    rw [show cs.extract 0 (0 + 41) = cs by simp [← hs]] at this
    simp only [loadBox, Instr.loadAt, Instr.sureAddr, Sem.run_bind, Sem.run_pure, Result.andThen_ok, this]
  · cases h

theorem Bs.below {w w' : World} {a : Option Addr} {n c : Nat} {l : List Int} (h : Bs w a n c l) (hb : Below w.heap.size w w') : Bs w' a n c l := Sl.below h hb
theorem Bs.alloc {w : World} {a : Option Addr} {n c : Nat} {l : List Int} (h : Bs w a n c l) (o : Obj) : Bs (w.alloc o) a n c l := Sl.alloc h o
theorem Bs.drew {w : World} {a : Option Addr} {n c : Nat} {l : List Int} (h : Bs w a n c l) : Bs w.drew a n c l := Sl.drew h

/-- What S of 'go_region_held3' says of a box. -/
def Boxed (g : Nat) (t : TypeId) (n : Nat) (X : Array Value) (w : World) : Prop := isBox w g t n = true ∧ boxAt w g = X
theorem boxed_of {w : World} {g : Nat} {t : TypeId} {X : Array Value} {n : Nat} (h : w.heap[g]? = some (.cells X t (0, 0))) (hn : X.size = n) : isBox w g t n = true ∧ boxAt w g = X := isBox_of h n hn
theorem boxed_kept {W W' : World} {g : Nat} {t : TypeId} {n : Nat} {X : Array Value} (h : isBox W g t n = true ∧ boxAt W g = X) (hb : W'.heap[g]? = W.heap[g]?) : isBox W' g t n = true ∧ boxAt W' g = X := by
  unfold isBox boxAt at *
  rw [hb]
  exact h
theorem boxed_lt {W : World} {g : Nat} {t : TypeId} {n : Nat} {X : Array Value} (h : isBox W g t n = true ∧ boxAt W g = X) : g < W.heap.size := by
  rcases Nat.lt_or_ge g W.heap.size with hl | hl
  · exact hl
  · have := h.1
    unfold isBox at this
    rw [Array.getElem?_eq_none hl] at this
    cases this
theorem boxed_below {W W' : World} {g : Nat} {t : TypeId} {n : Nat} {X : Array Value} (h : isBox W g t n = true ∧ boxAt W g = X) (hb : Below W.heap.size W W') : isBox W' g t n = true ∧ boxAt W' g = X :=
  boxed_kept h (hb.block _ (boxed_lt h))
theorem boxed_drew {W : World} {g : Nat} {t : TypeId} {n : Nat} {X : Array Value} (h : isBox W g t n = true ∧ boxAt W g = X) : isBox W.drew g t n = true ∧ boxAt W.drew g = X := boxed_kept h rfl
theorem boxed2_below {W W' : World} {g g' : Nat} {t t' : TypeId} {n n' : Nat} {X X' : Array Value} (h : (isBox W g t n = true ∧ boxAt W g = X) ∧ (isBox W g' t' n' = true ∧ boxAt W g' = X')) (hb : Below W.heap.size W W') :
    (isBox W' g t n = true ∧ boxAt W' g = X) ∧ (isBox W' g' t' n' = true ∧ boxAt W' g' = X') := ⟨boxed_below h.1 hb, boxed_below h.2 hb⟩
theorem boxed_grown {W W' : World} {g k : Nat} {t : TypeId} {n : Nat} {X : Array Value} (h : isBox W g t n = true ∧ boxAt W g = X) (hk : W.grownBy W' (some k)) (hne : g ≠ k) : isBox W' g t n = true ∧ boxAt W' g = X :=
  boxed_kept h (hk.block g (boxed_lt h) (fun e => hne (Option.some.inj e)))

end Go.Proofs.Ytdghnfihphlboaa
