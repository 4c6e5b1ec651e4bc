/- What the bytes of a letter say: plain laws; while a letter is read. -/
import Derived.Test.YtfjbmgfkfeehnaaGetI
namespace Go.Proofs.Ytfjbmgfkfeehnaa
open Go.RowKit

/-- So many branches are read. -/
def getRef (s : Rd) : RfL × Rd := (⟨toS (getText 60 s).1, (getId (getText 60 s).2).1⟩, (getId (getText 60 s).2).2)
def getRefsN : Nat → Rd → List RfL × Rd
  | 0, s => ([], s)
  | n + 1, s => ((getRefsN n s).1 ++ [(getRef (getRefsN n s).2).1], (getRef (getRefsN n s).2).2)
def getRefs (s : Rd) : List RfL × Rd := getRefsN (getNum 100 s).1.toNat (getNum 100 s).2
def mk0 (k f t n : Int) : LetL := ⟨k, f, t, n, [], [], [], 0, 0, zero32, []⟩
/-- What stands behind the four numbers. -/
def readTail (o : LetL) (s : Rd) : LetL × Rd :=
  if o.kind = 2 then ({ o with refs := (getRefs s).1 }, (getRefs s).2)
  else if o.kind = 3 then ({ o with wants := (getIds 100 s).1, haves := (getIds 200 (getIds 100 s).2).1, off := (getNum 1048576 (getIds 200 (getIds 100 s).2).2).1 }, (getNum 1048576 (getIds 200 (getIds 100 s).2).2).2)
  else if o.kind = 4 then ({ o with pack := (getId s).1, off := (getNum 1048576 (getId s).2).1, total := (getNum 1048576 (getNum 1048576 (getId s).2).2).1, data := (getText 500 (getNum 1048576 (getNum 1048576 (getId s).2).2).2).1 },
    (getText 500 (getNum 1048576 (getNum 1048576 (getId s).2).2).2).2)
  else (o, s)
def head1 (s : Rd) : Int × Rd := getNum 4 s
def head2 (s : Rd) : Int × Rd := getNum 65536 (head1 s).2
def head3 (s : Rd) : Int × Rd := getNum 65536 (head2 s).2
def head4 (s : Rd) : Int × Rd := getNum 1099511627776 (head3 s).2
def readRaw (s : Rd) : LetL × Rd := readTail (mk0 (head1 s).1 (head2 s).1 (head3 s).1 (head4 s).1) (head4 s).2
/-- The letter of bytes. -/
def readL (b : List Int) : Option LetL :=
  if b.length < 4 ∨ 65536 < b.length then none
  else if unfour (b.drop (b.length - 4)) = sumL (b.take (b.length - 4)) then
    (if doneB (readRaw (some (b.take (b.length - 4)))).2 && rightB (readRaw (some (b.take (b.length - 4)))).1 then some (readRaw (some (b.take (b.length - 4)))).1 else none)
  else none

theorem Sl.grownNe {w w' : World} {k : Nat} {a : Option Addr} {n c r : Nat} {xs : List Value} (h : Sl w k a n c xs) (g : w.grownBy w' (some r)) (hx : ∀ x, a = some x → r < x.block) : Sl w' k a n c xs := by
  refine ⟨h.len, h.le, h.cap, h.nil, fun hn => ?_⟩
  obtain ⟨b, off, ha, hc⟩ := h.cells hn
  refine ⟨b, off, ha, fun j hj => ?_⟩
  have hl := h.len
  have hb := hx _ ha
  have hv := hc j hj
  rw [List.getElem?_eq_getElem (by omega)] at hv ⊢
  exact g.cell hv (by simp; simp at hb; omega)
/-- Bytes that lie behind the letter's block. -/
def DataAt (W : World) (q : Nat) (a : Option Addr) (n c : Nat) (d : List Int) : Prop := Bs W a n c d ∧ ∀ x, a = some x → q < x.block
theorem DataAt.grown {W W' : World} {q r : Nat} {a : Option Addr} {n c : Nat} {d : List Int} (h : DataAt W q a n c d) (k : W.grownBy W' (some r)) (hr : r ≤ q) : DataAt W' q a n c d :=
  ⟨Sl.grownNe h.1 k (fun x hx => Nat.lt_of_le_of_lt hr (h.2 x hx)), h.2⟩
theorem DataAt.below {W W' : World} {q : Nat} {a : Option Addr} {n c : Nat} {d : List Int} (h : DataAt W q a n c d) (hb : Below W.heap.size W W') : DataAt W' q a n c d := ⟨h.1.below hb, h.2⟩
theorem DataAt.nil (W : World) (q : Nat) : DataAt W q none 0 0 [] := ⟨Sl.empty _ _, fun x hx => by cases hx⟩

/-- While a letter is read: the reader at g, the letter at q, the result at w.heap.size. -/
structure RS (w W : World) (H g q : Nat) (l : LetL) (s : LS) (S : Rd) : Prop where
  B : Below w.heap.size w W
  hq : W.heap[q]? = some (.cells (letC l s) 28 (0, 0))
  hr : W.heap[w.heap.size]? = some (.cells (letC zeroL LS.none) 28 (0, 0))
  rd : RdAt W H g S
  le : H ≤ g
  wg : w.heap.size < g
  gq : g < q
  refs : W.ownsRow (q + 1) 52 33 (.slice s.ra s.rn s.rc) s.rn (rowC 33 rfF l.refs)
  wants : W.ownsRow (q + 1) 25 32 (.slice s.wa s.wn s.wc) s.wn (rowC 32 idF l.wants)
  haves : W.ownsRow (q + 1) 25 32 (.slice s.ha s.hn s.hc) s.hn (rowC 32 idF l.haves)
  data : DataAt W q s.da s.dn s.dc l.data
  ok : LetOk l
  sb : RdBytes S
theorem RS.qlt {w W : World} {H g q : Nat} {l : LetL} {s : LS} {S : Rd} (h : RS w W H g q l s S) : q < W.heap.size := (blk_cell h.hq).2.2
theorem RS.let {w W : World} {H g q : Nat} {l : LetL} {s : LS} {S : Rd} (h : RS w W H g q l s S) : LetA W l s :=
  ⟨⟨own_sl h.refs, h.ok.refs⟩, ⟨own_sl h.wants, h.ok.wants⟩, ⟨own_sl h.haves, h.ok.haves⟩, h.data.1, h.ok.pack, h.ok.data, h.ok.packb⟩
/-- The reader reads on. -/
theorem RS.call {w W W' : World} {H g q : Nat} {l : LetL} {s : LS} {S S' : Rd} (h : RS w W H g q l s S) (k : W.grownBy W' (some g)) (hr : RdAt W' H g S') (hb : RdBytes S') : RS w W' H g q l s S' := by
  have h1 := h.wg
  have h2 := h.gq
  have hg : ∀ j, (some g : Option Nat) = some j → j < q + 1 := fun j hj => by cases hj; omega
  exact ⟨h.B.grown k h.B.size (fun j hj => by cases hj; omega), (k.block q h.qlt (by simp; omega)).trans h.hq, (k.block w.heap.size (by have := h.qlt; omega) (by simp; omega)).trans h.hr, hr, h.le, h.wg, h.gq,
    own_grown h.refs k hg, own_grown h.wants k hg, own_grown h.haves k hg, h.data.grown k (by omega), h.ok, hb⟩
/-- A cell of the letter is written. -/
theorem RS.store {w W W' : World} {H g q : Nat} {l l' : LetL} {s : LS} {S : Rd} (h : RS w W H g q l s S) (k : W.grownBy W' (some q)) (hq : W'.heap[q]? = some (.cells (letC l' s) 28 (0, 0)))
    (e1 : l'.refs = l.refs) (e2 : l'.wants = l.wants) (e3 : l'.haves = l.haves) (e4 : l'.data = l.data) (ho : LetOk l') : RS w W' H g q l' s S := by
  have h1 := h.wg
  have h2 := h.gq
  have h3 := h.le
  have hg : ∀ j, (some q : Option Nat) = some j → j < q + 1 := fun j hj => by cases hj; omega
  exact ⟨h.B.grown k h.B.size (fun j hj => by cases hj; omega), hq, (k.block w.heap.size (by have := h.qlt; omega) (by simp; omega)).trans h.hr, h.rd.grown' k (by omega) (by omega) (by have := h.qlt; omega), h.le, h.wg, h.gq,
    e1 ▸ own_grown h.refs k hg, e2 ▸ own_grown h.wants k hg, e3 ▸ own_grown h.haves k hg, e4 ▸ h.data.grown k (Nat.le_refl _), ho, h.sb⟩
theorem RS.quiet {w W W' : World} {H g q : Nat} {l : LetL} {s : LS} {S : Rd} (h : RS w W H g q l s S) (hb : Below W.heap.size W W') : RS w W' H g q l s S := by
  have h1 := h.wg
  have h2 := h.gq
  have h3 := h.le
  have h4 := h.qlt
  exact ⟨Below.next h.B hb, (hb.block q h.qlt).trans h.hq, (hb.block _ (by omega)).trans h.hr, h.rd.kept (hb.block g (by omega)) (fun j hj _ => hb.block j (by omega)), h.le, h.wg, h.gq,
    own_below h.refs hb, own_below h.wants hb, own_below h.haves hb, h.data.below hb, h.ok, h.sb⟩

theorem mk0_ok (k f t n : Int) : LetOk (mk0 k f t n) := ⟨fun _ h => (by cases h), fun _ h => (by cases h), fun _ h => (by cases h), rfl, zero32_bytes, .nil⟩
theorem RdBytes.getText {s : Rd} (h : RdBytes s) (most : Int) : RdBytes (getText most s).2 ∧ IsBytes (getText most s).1 := by
  have hn := h.getNum most
  unfold Go.Proofs.Ytfjbmgfkfeehnaa.getText
  generalize Go.Proofs.Ytfjbmgfkfeehnaa.getNum most s = x at *
  obtain ⟨n, st⟩ := x
  cases st with
  | none => exact ⟨fun l hl => (by cases hl), .nil⟩
  | some l =>
    simp only [textOf]
    split
    · exact ⟨fun m hm => (by cases hm; exact (hn l rfl).drop _), (hn l rfl).take _⟩
    · exact ⟨fun l hl => (by cases hl), .nil⟩
theorem getText_len {s : Rd} (most : Int) (h0 : 0 ≤ most) : ((getText most s).1.length : Int) ≤ most := by
  have h2 : (getNum most s).1 ≤ most := by
    cases s with
    | none => exact h0
    | some l =>
      rw [getNum_some]
      cases h : rnum most 0 0 l with
      | none => exact h0
      | some x => exact (rnum_nonneg most l 0 0 x.1 x.2 h).2
  unfold getText textOf
  split
  · simpa using h0
  · split
    · simp; omega
    · simpa using h0
theorem getRef_ok {s : Rd} (h : RdBytes s) : RdBytes (getRef s).2 ∧ ((getRef s).1.id.length = 32 ∧ IsBytes (getRef s).1.id) ∧ (getRef s).1.name.size ≤ 9223372036854775807 := by
  have ht := h.getText 60
  have hl := getText_len (s := s) 60 (by omega)
  refine ⟨ht.1.getId, getId_bytes ht.1, ?_⟩
  have := toS_size (getText 60 s).1
  simp only [getRef]
  omega
theorem RdBytes.getRefsN {s : Rd} (h : RdBytes s) : ∀ n, RdBytes (getRefsN n s).2
  | 0 => h
  | n + 1 => (getRef_ok (RdBytes.getRefsN h n)).1
theorem getRefsN_all {s : Rd} (h : RdBytes s) : ∀ n, ∀ r ∈ (getRefsN n s).1, (r.id.length = 32 ∧ IsBytes r.id) ∧ r.name.size ≤ 9223372036854775807
  | 0, r, hr => by cases hr
  | n + 1, r, hr => by
    rcases List.mem_append.1 hr with hr | hr
    · exact getRefsN_all h n r hr
    · rw [List.mem_singleton] at hr
      subst hr
      exact (getRef_ok (h.getRefsN n)).2

end Go.Proofs.Ytfjbmgfkfeehnaa
