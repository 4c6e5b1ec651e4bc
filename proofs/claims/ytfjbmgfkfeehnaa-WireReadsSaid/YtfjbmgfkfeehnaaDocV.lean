/- While a letter is read, the document's way: words. -/
import Derived.Test.YtfjbmgfkfeehnaaDocI
import Derived.Test.YtfjbmgfkfeehnaaDocRg
namespace Go.Proofs.Ytfjbmgfkfeehnaa
open Go.RowKit

/-- What the document's Read hands back. -/
def DRd (w : World) (b : List Int) (e : Ending) (w' : World) : Prop := match readL b with
  | none => e = .returned (.tuple #[.agg (letC zeroL LS.none), .bool false]) ∧ Below w.heap.size w w'
  | some l => ∃ s, e = .returned (.tuple #[.agg (letC l s), .bool true]) ∧ Below w.heap.size w w' ∧ LetA w' l s
theorem DRd.no {w w' : World} {b : List Int} (h : readL b = none) (hb : Below w.heap.size w w') : DRd w b (.returned (.tuple #[.agg (letC zeroL LS.none), .bool false])) w' := by
  unfold DRd
  rw [h]
  exact ⟨rfl, hb⟩
theorem DRd.yes {w w' : World} {b : List Int} {l : LetL} {s : LS} (h : readL b = some l) (hb : Below w.heap.size w w') (ha : LetA w' l s) : DRd w b (.returned (.tuple #[.agg (letC l s), .bool true])) w' := by
  unfold DRd
  rw [h]
  exact ⟨s, rfl, hb, ha⟩
/-- A reader lies at P. -/
def RB (w wr : World) (P : Nat) (S : Rd) : Prop := ∃ a n c b, wr.heap[P]? = some (.cells #[.slice a n c, .bool b] 86 (0, 0)) ∧ InC w S a n c b
theorem RB.kept {w wr w' : World} {P : Nat} {S : Rd} (h : RB w wr P S) (hb : w'.heap[P]? = wr.heap[P]?) : RB w w' P S := by
  obtain ⟨a, n, c, b, h1, h2⟩ := h
  exact ⟨a, n, c, b, hb.trans h1, h2⟩
theorem RB.lt {w wr : World} {P : Nat} {S : Rd} (h : RB w wr P S) : P < wr.heap.size := by
  obtain ⟨a, n, c, b, h1, _⟩ := h
  exact (blk_cell h1).2.2
theorem RB.below {w wr w' : World} {P : Nat} {S : Rd} (h : RB w wr P S) (hb : Below wr.heap.size wr w') : RB w w' P S := h.kept (hb.block _ h.lt)
theorem RB.grown {w wr w' : World} {P r : Nat} {S : Rd} (h : RB w wr P S) (k : wr.grownBy w' (some r)) (hr : P ≠ r) : RB w w' P S := h.kept (k.block _ h.lt (by simpa using hr))
def farS (q : Nat) (s : LS) : Prop := ∀ x, (s.ra = some x ∨ s.wa = some x ∨ s.ha = some x ∨ s.da = some x) → q < x.block
theorem LetA.grownAt {w w' : World} {l : LetL} {s : LS} {q r : Nat} (h : LetA w l s) (f : farS q s) (k : w.grownBy w' (some r)) (hr : r ≤ q) : LetA w' l s :=
  ⟨⟨Sl.grownAway h.refs.row k (fun x hx => by have := f x (.inl hx); omega), h.refs.all⟩, ⟨Sl.grownAway h.wants.row k (fun x hx => by have := f x (.inr (.inl hx)); omega), h.wants.all⟩,
    ⟨Sl.grownAway h.haves.row k (fun x hx => by have := f x (.inr (.inr (.inl hx))); omega), h.haves.all⟩, Sl.grownAway h.data k (fun x hx => by have := f x (.inr (.inr (.inr hx))); omega), h.pack, h.bytes, h.packb⟩
structure DV (w wr : World) (q p : Nat) (l : LetL) (s : LS) (S : Rd) : Prop where
  B : Below w.heap.size w wr
  hr : wr.heap[w.heap.size]? = some (.cells (letC zeroL LS.none) 37 (0, 0))
  hq : wr.heap[q]? = some (.cells (letC l s) 37 (0, 0))
  hp : RB w wr p S
  la : LetA wr l s
  far : farS q s
  wp : w.heap.size < p
  pq : p < q
  sb : RdBytes S
theorem DV.quiet {w wr w' : World} {q p : Nat} {l : LetL} {s : LS} {S : Rd} (h : DV w wr q p l s S) (hb : Below wr.heap.size wr w') : DV w w' q p l s S :=
  ⟨Below.next h.B hb, (hb.block _ (blk_cell h.hr).2.2).trans h.hr, (hb.block _ (blk_cell h.hq).2.2).trans h.hq, h.hp.below hb, h.la.below hb, h.far, h.wp, h.pq, h.sb⟩
theorem DV.setP {w wr w' : World} {q p : Nat} {l : LetL} {s : LS} {S S' : Rd} {a : Option Addr} {n c : Nat} {b : Bool} (h : DV w wr q p l s S) (k : wr.grownBy w' (some p)) (hp : w'.heap[p]? = some (.cells #[.slice a n c, .bool b] 86 (0, 0))) (hi : InC w S' a n c b) (sb : RdBytes S') : DV w w' q p l s S' := by
  have h1 := h.wp
  have h2 := h.pq
  exact ⟨h.B.grown k h.B.size (fun j hj => by cases hj; omega), (k.block _ (blk_cell h.hr).2.2 (by simp; omega)).trans h.hr, (k.block _ (blk_cell h.hq).2.2 (by simp; omega)).trans h.hq, ⟨a, n, c, b, hp, hi⟩, h.la.grownAt h.far k (by omega), h.far, h1, h2, sb⟩
theorem DV.setQ {w wr w' : World} {q p : Nat} {l l' : LetL} {s s' : LS} {S : Rd} (h : DV w wr q p l s S) (k : wr.grownBy w' (some q)) (hq : w'.heap[q]? = some (.cells (letC l' s') 37 (0, 0))) (la : LetA wr l' s') (far : farS q s') : DV w w' q p l' s' S := by
  have h1 := h.wp
  have h2 := h.pq
  exact ⟨h.B.grown k h.B.size (fun j hj => by cases hj; omega), (k.block _ (blk_cell h.hr).2.2 (by simp; omega)).trans h.hr, hq, h.hp.grown k (by omega), la.grownAt far k (Nat.le_refl _), far, h1, h2, h.sb⟩
theorem far_none (q : Nat) : farS q LS.none := fun x hx => by rcases hx with h | h | h | h <;> cases h
/-- While branches are read. -/
structure DL (w wr : World) (q p P : Nat) (o : LetL) (x : List RfL × Rd) (k : Nat) (a : Option Addr) (c : Nat) : Prop where
  B : Below w.heap.size w wr
  hr : wr.heap[w.heap.size]? = some (.cells (letC zeroL LS.none) 37 (0, 0))
  hq : wr.heap[q]? = some (.cells (letC { o with refs := x.1 } { LS.none with ra := a, rn := k, rc := c }) 37 (0, 0))
  hp : ∃ S, RdBytes S ∧ RB w wr p S
  hP : RB w wr P x.2
  own : wr.ownsRow (P + 1) 64 33 (.slice a k c) k (rowC 33 rfF x.1)
  wp : w.heap.size < p
  pq : p < q
  qP : q < P

end Go.Proofs.Ytfjbmgfkfeehnaa
