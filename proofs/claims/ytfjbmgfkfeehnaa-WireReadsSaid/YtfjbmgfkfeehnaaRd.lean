/- What the bytes of a letter say: plain laws; while a letter is read. While a letter is read: its parts are set. -/
import Derived.Test.YtfjbmgfkfeehnaaGetI
import Derived.Lib.ConvBytes
namespace Go.Proofs.Ytfjbmgfkfeehnaa
section
open Go.RowKit

/-- So many branches are read. -/
def getRef (s : Rd) : RfL × Rd := (⟨toS (getText 60 s).1, (getId (getText 60 s).2).1⟩, (getId (getText 60 s).2).2)
def getRefsN : Nat → Rd → List RfL × Rd
  | 0, s => ([], s)
  | n + 1, s => ((getRefsN n s).1 ++ [(getRef (getRefsN n s).2).1], (getRef (getRefsN n s).2).2)
def getRefs (s : Rd) : List RfL × Rd := getRefsN (getNum 100 s).1.toNat (getNum 100 s).2
def mk0 (k f t n : Int) : LetL := ⟨k, f, t, n, [], [], [], 0, 0, zero32, []⟩
/-- What stands behind the four numbers. -/
def readTail (o : LetL) (s : Rd) : LetL × Rd :=
  if o.kind = 2 then ({ o with refs := (getRefs s).1 }, (getRefs s).2)
  else if o.kind = 3 then ({ o with wants := (getIds 100 s).1, haves := (getIds 200 (getIds 100 s).2).1, off := (getNum 1048576 (getIds 200 (getIds 100 s).2).2).1 }, (getNum 1048576 (getIds 200 (getIds 100 s).2).2).2)
  else if o.kind = 4 then ({ o with pack := (getId s).1, off := (getNum 1048576 (getId s).2).1, total := (getNum 1048576 (getNum 1048576 (getId s).2).2).1, data := (getText 500 (getNum 1048576 (getNum 1048576 (getId s).2).2).2).1 },
    (getText 500 (getNum 1048576 (getNum 1048576 (getId s).2).2).2).2)
  else (o, s)
def head1 (s : Rd) : Int × Rd := getNum 4 s
def head2 (s : Rd) : Int × Rd := getNum 65536 (head1 s).2
def head3 (s : Rd) : Int × Rd := getNum 65536 (head2 s).2
def head4 (s : Rd) : Int × Rd := getNum 1099511627776 (head3 s).2
def readRaw (s : Rd) : LetL × Rd := readTail (mk0 (head1 s).1 (head2 s).1 (head3 s).1 (head4 s).1) (head4 s).2
/-- The letter of bytes. -/
def readL (b : List Int) : Option LetL :=
  if b.length < 4 ∨ 65536 < b.length then none
  else if unfour (b.drop (b.length - 4)) = sumL (b.take (b.length - 4)) then
    (if doneB (readRaw (some (b.take (b.length - 4)))).2 && rightB (readRaw (some (b.take (b.length - 4)))).1 then some (readRaw (some (b.take (b.length - 4)))).1 else none)
  else none

theorem Sl.grownNe {w w' : World} {k : Nat} {a : Option Addr} {n c r : Nat} {xs : List Value} (h : Sl w k a n c xs) (g : w.grownBy w' (some r)) (hx : ∀ x, a = some x → r < x.block) : Sl w' k a n c xs := by
  refine ⟨h.len, h.le, h.cap, h.nil, fun hn => ?_⟩
  obtain ⟨b, off, ha, hc⟩ := h.cells hn
  refine ⟨b, off, ha, fun j hj => ?_⟩
  have hl := h.len
  have hb := hx _ ha
  have hv := hc j hj
  rw [List.getElem?_eq_getElem (by omega)] at hv ⊢
  exact g.cell hv (by simp; simp at hb; omega)
/-- Bytes that lie behind the letter's block. -/
def DataAt (W : World) (q : Nat) (a : Option Addr) (n c : Nat) (d : List Int) : Prop := Bs W a n c d ∧ ∀ x, a = some x → q < x.block
theorem DataAt.grown {W W' : World} {q r : Nat} {a : Option Addr} {n c : Nat} {d : List Int} (h : DataAt W q a n c d) (k : W.grownBy W' (some r)) (hr : r ≤ q) : DataAt W' q a n c d :=
  ⟨Sl.grownNe h.1 k (fun x hx => Nat.lt_of_le_of_lt hr (h.2 x hx)), h.2⟩
theorem DataAt.below {W W' : World} {q : Nat} {a : Option Addr} {n c : Nat} {d : List Int} (h : DataAt W q a n c d) (hb : Below W.heap.size W W') : DataAt W' q a n c d := ⟨h.1.below hb, h.2⟩
theorem DataAt.nil (W : World) (q : Nat) : DataAt W q none 0 0 [] := ⟨Sl.empty _ _, fun x hx => by cases hx⟩

/-- While a letter is read: the reader at g, the letter at q, the result at w.heap.size. -/
structure RS (w W : World) (H g q : Nat) (l : LetL) (s : LS) (S : Rd) : Prop where
  B : Below w.heap.size w W
  hq : W.heap[q]? = some (.cells (letC l s) 28 (0, 0))
  hr : W.heap[w.heap.size]? = some (.cells (letC zeroL LS.none) 28 (0, 0))
  rd : RdAt W H g S
  le : H ≤ g
  wg : w.heap.size < g
  gq : g < q
  refs : W.ownsRow (q + 1) 52 33 (.slice s.ra s.rn s.rc) s.rn (rowC 33 rfF l.refs)
  wants : W.ownsRow (q + 1) 25 32 (.slice s.wa s.wn s.wc) s.wn (rowC 32 idF l.wants)
  haves : W.ownsRow (q + 1) 25 32 (.slice s.ha s.hn s.hc) s.hn (rowC 32 idF l.haves)
  data : DataAt W q s.da s.dn s.dc l.data
  ok : LetOk l
  sb : RdBytes S
theorem RS.qlt {w W : World} {H g q : Nat} {l : LetL} {s : LS} {S : Rd} (h : RS w W H g q l s S) : q < W.heap.size := (blk_cell h.hq).2.2
theorem RS.let {w W : World} {H g q : Nat} {l : LetL} {s : LS} {S : Rd} (h : RS w W H g q l s S) : LetA W l s :=
  ⟨⟨own_sl h.refs, h.ok.refs⟩, ⟨own_sl h.wants, h.ok.wants⟩, ⟨own_sl h.haves, h.ok.haves⟩, h.data.1, h.ok.pack, h.ok.data, h.ok.packb⟩
/-- The reader reads on. -/
theorem RS.call {w W W' : World} {H g q : Nat} {l : LetL} {s : LS} {S S' : Rd} (h : RS w W H g q l s S) (k : W.grownBy W' (some g)) (hr : RdAt W' H g S') (hb : RdBytes S') : RS w W' H g q l s S' := by
  have h1 := h.wg
  have h2 := h.gq
  have hg : ∀ j, (some g : Option Nat) = some j → j < q + 1 := fun j hj => by cases hj; omega
  exact ⟨h.B.grown k h.B.size (fun j hj => by cases hj; omega), (k.block q h.qlt (by simp; omega)).trans h.hq, (k.block w.heap.size (by have := h.qlt; omega) (by simp; omega)).trans h.hr, hr, h.le, h.wg, h.gq,
    own_grown h.refs k hg, own_grown h.wants k hg, own_grown h.haves k hg, h.data.grown k (by omega), h.ok, hb⟩
/-- A cell of the letter is written. -/
theorem RS.store {w W W' : World} {H g q : Nat} {l l' : LetL} {s : LS} {S : Rd} (h : RS w W H g q l s S) (k : W.grownBy W' (some q)) (hq : W'.heap[q]? = some (.cells (letC l' s) 28 (0, 0)))
    (e1 : l'.refs = l.refs) (e2 : l'.wants = l.wants) (e3 : l'.haves = l.haves) (e4 : l'.data = l.data) (ho : LetOk l') : RS w W' H g q l' s S := by
  have h1 := h.wg
  have h2 := h.gq
  have h3 := h.le
  have hg : ∀ j, (some q : Option Nat) = some j → j < q + 1 := fun j hj => by cases hj; omega
  exact ⟨h.B.grown k h.B.size (fun j hj => by cases hj; omega), hq, (k.block w.heap.size (by have := h.qlt; omega) (by simp; omega)).trans h.hr, h.rd.grown' k (by omega) (by omega) (by have := h.qlt; omega), h.le, h.wg, h.gq,
    e1 ▸ own_grown h.refs k hg, e2 ▸ own_grown h.wants k hg, e3 ▸ own_grown h.haves k hg, e4 ▸ h.data.grown k (Nat.le_refl _), ho, h.sb⟩
theorem RS.quiet {w W W' : World} {H g q : Nat} {l : LetL} {s : LS} {S : Rd} (h : RS w W H g q l s S) (hb : Below W.heap.size W W') : RS w W' H g q l s S := by
  have h1 := h.wg
  have h2 := h.gq
  have h3 := h.le
  have h4 := h.qlt
  exact ⟨Below.next h.B hb, (hb.block q h.qlt).trans h.hq, (hb.block _ (by omega)).trans h.hr, h.rd.kept (hb.block g (by omega)) (fun j hj _ => hb.block j (by omega)), h.le, h.wg, h.gq,
    own_below h.refs hb, own_below h.wants hb, own_below h.haves hb, h.data.below hb, h.ok, h.sb⟩

theorem mk0_ok (k f t n : Int) : LetOk (mk0 k f t n) := ⟨fun _ h => (by cases h), fun _ h => (by cases h), fun _ h => (by cases h), rfl, zero32_bytes, .nil⟩
theorem RdBytes.getText {s : Rd} (h : RdBytes s) (most : Int) : RdBytes (getText most s).2 ∧ IsBytes (getText most s).1 := by
  have hn := h.getNum most
  unfold Go.Proofs.Ytfjbmgfkfeehnaa.getText
  generalize Go.Proofs.Ytfjbmgfkfeehnaa.getNum most s = x at *
  obtain ⟨n, st⟩ := x
  cases st with
  | none => exact ⟨fun l hl => (by cases hl), .nil⟩
  | some l =>
    simp only [textOf]
    split
    · exact ⟨fun m hm => (by cases hm; exact (hn l rfl).drop _), (hn l rfl).take _⟩
    · exact ⟨fun l hl => (by cases hl), .nil⟩
theorem getText_len {s : Rd} (most : Int) (h0 : 0 ≤ most) : ((getText most s).1.length : Int) ≤ most := by
  have h2 : (getNum most s).1 ≤ most := by
    cases s with
    | none => exact h0
    | some l =>
      rw [getNum_some]
      cases h : rnum most 0 0 l with
      | none => exact h0
      | some x => exact (rnum_nonneg most l 0 0 x.1 x.2 h).2
  unfold getText textOf
  split
  · simpa using h0
  · split
    · simp; omega
    · simpa using h0
theorem getRef_ok {s : Rd} (h : RdBytes s) : RdBytes (getRef s).2 ∧ ((getRef s).1.id.length = 32 ∧ IsBytes (getRef s).1.id) ∧ (getRef s).1.name.size ≤ 9223372036854775807 := by
  have ht := h.getText 60
  have hl := getText_len (s := s) 60 (by omega)
  refine ⟨ht.1.getId, getId_bytes ht.1, ?_⟩
  have := toS_size (getText 60 s).1
  simp only [getRef]
  omega
theorem RdBytes.getRefsN {s : Rd} (h : RdBytes s) : ∀ n, RdBytes (getRefsN n s).2
  | 0 => h
  | n + 1 => (getRef_ok (RdBytes.getRefsN h n)).1
theorem getRefsN_all {s : Rd} (h : RdBytes s) : ∀ n, ∀ r ∈ (getRefsN n s).1, (r.id.length = 32 ∧ IsBytes r.id) ∧ r.name.size ≤ 9223372036854775807
  | 0, r, hr => by cases hr
  | n + 1, r, hr => by
    rcases List.mem_append.1 hr with hr | hr
    · exact getRefsN_all h n r hr
    · rw [List.mem_singleton] at hr
      subst hr
      exact (getRef_ok (h.getRefsN n)).2

end

section
open Go.RowKit

theorem readTail_0 {k f t n : Int} {S : Rd} (h2 : ¬ k = 2) (h3 : ¬ k = 3) (h4 : ¬ k = 4) : readTail (mk0 k f t n) S = (mk0 k f t n, S) := by
  unfold readTail
  rw [if_neg (show ¬ (mk0 k f t n).kind = 2 from h2), if_neg (show ¬ (mk0 k f t n).kind = 3 from h3), if_neg (show ¬ (mk0 k f t n).kind = 4 from h4)]
theorem readTail_2 {k f t n : Int} {S : Rd} (h2 : k = 2) : readTail (mk0 k f t n) S = ({ mk0 k f t n with refs := (getRefs S).1 }, (getRefs S).2) := by
  unfold readTail
  rw [if_pos (show (mk0 k f t n).kind = 2 from h2)]
theorem readTail_3 {k f t n : Int} {S : Rd} (h3 : k = 3) : readTail (mk0 k f t n) S = ({ mk0 k f t n with wants := (getIds 100 S).1, haves := (getIds 200 (getIds 100 S).2).1, off := (getNum 1048576 (getIds 200 (getIds 100 S).2).2).1 }, (getNum 1048576 (getIds 200 (getIds 100 S).2).2).2) := by
  unfold readTail
  rw [if_neg (show ¬ (mk0 k f t n).kind = 2 from by show ¬ k = 2; omega), if_pos (show (mk0 k f t n).kind = 3 from h3)]
theorem readTail_4 {k f t n : Int} {S : Rd} (h4 : k = 4) : readTail (mk0 k f t n) S = ({ mk0 k f t n with pack := (getId S).1, off := (getNum 1048576 (getId S).2).1, total := (getNum 1048576 (getNum 1048576 (getId S).2).2).1, data := (getText 500 (getNum 1048576 (getNum 1048576 (getId S).2).2).2).1 },
    (getText 500 (getNum 1048576 (getNum 1048576 (getId S).2).2).2).2) := by
  unfold readTail
  rw [if_neg (show ¬ (mk0 k f t n).kind = 2 from by show ¬ k = 2; omega), if_neg (show ¬ (mk0 k f t n).kind = 3 from by show ¬ k = 3; omega), if_pos (show (mk0 k f t n).kind = 4 from h4)]

theorem getIds_all {s : Rd} (h : RdBytes s) (most : Int) : ∀ d ∈ (getIds most s).1, d.length = 32 ∧ IsBytes d := getIdsN_all (h.getNum most) _
theorem RdBytes.getIds {s : Rd} (h : RdBytes s) (most : Int) : RdBytes (getIds most s).2 := (h.getNum most).getIdsN _

/-- The letter's block is written, the slices are given. -/
theorem RS.set {w W W' : World} {H g q : Nat} {l l' : LetL} {s s' : LS} {S : Rd} (h : RS w W H g q l s S) (k : W.grownBy W' (some q)) (hq : W'.heap[q]? = some (.cells (letC l' s') 28 (0, 0)))
    (e1 : W.ownsRow (q + 1) 52 33 (.slice s'.ra s'.rn s'.rc) s'.rn (rowC 33 rfF l'.refs)) (e2 : W.ownsRow (q + 1) 25 32 (.slice s'.wa s'.wn s'.wc) s'.wn (rowC 32 idF l'.wants))
    (e3 : W.ownsRow (q + 1) 25 32 (.slice s'.ha s'.hn s'.hc) s'.hn (rowC 32 idF l'.haves)) (e4 : DataAt W q s'.da s'.dn s'.dc l'.data) (ho : LetOk l') : RS w W' H g q l' s' S := by
  have h1 := h.wg
  have h2 := h.gq
  have h3 := h.le
  have hg : ∀ j, (some q : Option Nat) = some j → j < q + 1 := fun j hj => by cases hj; omega
  exact ⟨h.B.grown k h.B.size (fun j hj => by cases hj; omega), hq, (k.block w.heap.size (by have := h.qlt; omega) (by simp; omega)).trans h.hr, h.rd.grown' k (by omega) (by omega) (by have := h.qlt; omega), h.le, h.wg, h.gq,
    own_grown e1 k hg, own_grown e2 k hg, own_grown e3 k hg, e4.grown k (Nat.le_refl _), ho, h.sb⟩
theorem RS.setRefs {w W : World} {H g q : Nat} {l : LetL} {s : LS} {S : Rd} (h : RS w W H g q l s S) {a : Option Addr} {n c : Nat} {rs : List RfL} (own : W.ownsRow (q + 1) 52 33 (.slice a n c) n (rowC 33 rfF rs)) (ho : ∀ r ∈ rs, (r.id.length = 32 ∧ IsBytes r.id) ∧ r.name.size ≤ 9223372036854775807) :
    RS w (W.setCell ⟨q, 4, none⟩ (.slice a n c)) H g q { l with refs := rs } { s with ra := a, rn := n, rc := c } S :=
  h.set (grown_set _ _ _ _) ((heap_setCell_same W q 4 _ _ (.slice a n c) h.hq).trans rfl) own h.wants h.haves h.data ⟨ho, h.ok.wants, h.ok.haves, h.ok.pack, h.ok.packb, h.ok.data⟩
theorem RS.setWants {w W : World} {H g q : Nat} {l : LetL} {s : LS} {S : Rd} (h : RS w W H g q l s S) {a : Option Addr} {n c : Nat} {ds : List (List Int)} (own : W.ownsRow (q + 1) 25 32 (.slice a n c) n (rowC 32 idF ds)) (ho : ∀ d ∈ ds, d.length = 32 ∧ IsBytes d) :
    RS w (W.setCell ⟨q, 5, none⟩ (.slice a n c)) H g q { l with wants := ds } { s with wa := a, wn := n, wc := c } S :=
  h.set (grown_set _ _ _ _) ((heap_setCell_same W q 5 _ _ (.slice a n c) h.hq).trans rfl) h.refs own h.haves h.data ⟨h.ok.refs, ho, h.ok.haves, h.ok.pack, h.ok.packb, h.ok.data⟩
theorem RS.setHaves {w W : World} {H g q : Nat} {l : LetL} {s : LS} {S : Rd} (h : RS w W H g q l s S) {a : Option Addr} {n c : Nat} {ds : List (List Int)} (own : W.ownsRow (q + 1) 25 32 (.slice a n c) n (rowC 32 idF ds)) (ho : ∀ d ∈ ds, d.length = 32 ∧ IsBytes d) :
    RS w (W.setCell ⟨q, 6, none⟩ (.slice a n c)) H g q { l with haves := ds } { s with ha := a, hn := n, hc := c } S :=
  h.set (grown_set _ _ _ _) ((heap_setCell_same W q 6 _ _ (.slice a n c) h.hq).trans rfl) h.refs h.wants own h.data ⟨h.ok.refs, h.ok.wants, ho, h.ok.pack, h.ok.packb, h.ok.data⟩
theorem RS.setOff {w W : World} {H g q : Nat} {l : LetL} {s : LS} {S : Rd} (h : RS w W H g q l s S) (n : Int) : RS w (W.setCell ⟨q, 7, none⟩ (.int .i64 n)) H g q { l with off := n } s S :=
  h.set (grown_set _ _ _ _) ((heap_setCell_same W q 7 _ _ (.int .i64 n) h.hq).trans rfl) h.refs h.wants h.haves h.data ⟨h.ok.refs, h.ok.wants, h.ok.haves, h.ok.pack, h.ok.packb, h.ok.data⟩
theorem RS.setTotal {w W : World} {H g q : Nat} {l : LetL} {s : LS} {S : Rd} (h : RS w W H g q l s S) (n : Int) : RS w (W.setCell ⟨q, 8, none⟩ (.int .i64 n)) H g q { l with total := n } s S :=
  h.set (grown_set _ _ _ _) ((heap_setCell_same W q 8 _ _ (.int .i64 n) h.hq).trans rfl) h.refs h.wants h.haves h.data ⟨h.ok.refs, h.ok.wants, h.ok.haves, h.ok.pack, h.ok.packb, h.ok.data⟩
theorem set_last (l : LetL) (s : LS) (a : Option Addr) (n c : Nat) (d : List Int) (h : l.pack.length = 32) : (letC l s).setIfInBounds 41 (.slice a n c) = letC { l with data := d } { s with da := a, dn := n, dc := c } := by
  apply Array.ext'
  have hl : (l.pack.map (Value.int .u8)).length = 32 := by simp [h]
  simp only [Array.toList_setIfInBounds, letC]
  simp only [List.cons_append, List.nil_append, List.set_cons_succ]
  rw [List.set_append_right _ _ (by omega), hl]
  rfl
theorem RS.setData {w W : World} {H g q : Nat} {l : LetL} {s : LS} {S : Rd} (h : RS w W H g q l s S) {a : Option Addr} {n c : Nat} {d : List Int} (own : DataAt W q a n c d) (ho : IsBytes d) :
    RS w (W.setCell ⟨q, 41, none⟩ (.slice a n c)) H g q { l with data := d } { s with da := a, dn := n, dc := c } S :=
  h.set (grown_set _ _ _ _) ((heap_setCell_same W q 41 _ _ (.slice a n c) h.hq).trans (by rw [set_last l s a n c d h.ok.pack])) h.refs h.wants h.haves own ⟨h.ok.refs, h.ok.wants, h.ok.haves, h.ok.pack, h.ok.packb, ho⟩
theorem conv_str (s : ByteArray) (w : World) (hs : s.size ≤ 140737488355328) : ∃ (W : World) (c : Nat), (convert 9 26 (.string s)).run Try.prog w = .ok (.slice (some ⟨w.heap.size, 0, none⟩) s.size c) W ∧ Below w.heap.size w W ∧ Bs W (some ⟨w.heap.size, 0, none⟩) s.size c (strB s) := by
  refine ⟨_, _, Lib.run_convert_string_bytes w _ _ 5 s Try.underlying9 Try.underlying26 Try.underlying5, ⟨rfl, rfl, rfl, ?_, fun k hk => Lib.bytesWorld_at_old w _ s k hk⟩, ⟨by simp [strB_len], grownCap_ge _ _ _ _, grownCap_le_maxLen _ _ _ _ (by unfold maxLen; omega), fun h => (by cases h), fun _ => ⟨_, 0, rfl, fun j hj => ?_⟩⟩⟩
  · rw [Lib.bytesWorld_size]; omega
  · rw [Nat.mul_one] at hj
    rw [Nat.zero_add, Lib.bytesWorld_cell w _ s j hj]
    have hlen : s.data.toList.length = s.size := by simp
    simp [strB, List.getD, hlen, hj]
theorem put_pk (l : LetL) (s : LS) (p : List Int) (h : l.pack.length = 32) (hp : p.length = 32) : put (letC l s) 9 (idC p) = letC { l with pack := p } s := by
  simp [put, letC, idC, h, hp]
theorem RS.setPack {w W : World} {H g q : Nat} {l : LetL} {s : LS} {S : Rd} (h : RS w W H g q l s S) (p : List Int) (hp : p.length = 32 ∧ IsBytes p) : RS w (setSeg W q 9 (idC p)) H g q { l with pack := p } s S :=
  h.set (grown_setSeg _ _ _ _) ((heap_setSeg h.hq 9 (idC p)).trans (by rw [put_pk l s p h.ok.pack hp.1])) h.refs h.wants h.haves h.data ⟨h.ok.refs, h.ok.wants, h.ok.haves, hp.1, hp.2, h.ok.data⟩

theorem info_rf3 : (Try.prog.info? 52).map (fun i => (i.zero, i.size, i.bytes)) = some (some (.agg (rfC rf0)), 33, 48) := by kernel_rfl
@[go_sem] theorem fill33 (X : Array Value) (h : X.size = 33) : Array.foldl (fun (cs : Array Value) (x : Value × Nat) => cs.setIfInBounds x.snd x.fst) #[Value.string ⟨#[]⟩, Value.int .u8 0, Value.int .u8 0, Value.int .u8 0, Value.int .u8 0, Value.int .u8 0, Value.int .u8 0, Value.int .u8 0, Value.int .u8 0, Value.int .u8 0, Value.int .u8 0, Value.int .u8 0, Value.int .u8 0, Value.int .u8 0, Value.int .u8 0, Value.int .u8 0, Value.int .u8 0, Value.int .u8 0, Value.int .u8 0, Value.int .u8 0, Value.int .u8 0, Value.int .u8 0, Value.int .u8 0, Value.int .u8 0, Value.int .u8 0, Value.int .u8 0, Value.int .u8 0, Value.int .u8 0, Value.int .u8 0, Value.int .u8 0, Value.int .u8 0, Value.int .u8 0, Value.int .u8 0] (X.zipIdx 0) 0 33 = X := by
  have := fill_all X #[Value.string ⟨#[]⟩, Value.int .u8 0, Value.int .u8 0, Value.int .u8 0, Value.int .u8 0, Value.int .u8 0, Value.int .u8 0, Value.int .u8 0, Value.int .u8 0, Value.int .u8 0, Value.int .u8 0, Value.int .u8 0, Value.int .u8 0, Value.int .u8 0, Value.int .u8 0, Value.int .u8 0, Value.int .u8 0, Value.int .u8 0, Value.int .u8 0, Value.int .u8 0, Value.int .u8 0, Value.int .u8 0, Value.int .u8 0, Value.int .u8 0, Value.int .u8 0, Value.int .u8 0, Value.int .u8 0, Value.int .u8 0, Value.int .u8 0, Value.int .u8 0, Value.int .u8 0, Value.int .u8 0, Value.int .u8 0] (by rw [h]; rfl)
  rw [show (X.zipIdx 0).size = 33 by simpa using h] at this
  exact this
/-- 'append(s, x)' of one branch, s the call's own. -/
theorem app_rf {ops : Array Oper} {rest : List Oper} {o : Oper} {a : Act} {w : World} {Q : Exit → Act → World → Prop} (hgd : o.guard = none) (s x : Operand)
    (ho : o.op = .call { callee := .builtin .append, args := #[s, x], argTypes := #[22, 22] })
    (base : Nat) (v : Value) (n : Nat) (xs : List Value) (hs : a.eval s = v) (hown : w.ownsRow base 52 33 v n xs) (b c : Nat) (r : RfL) (hx : a.eval x = .slice (some ⟨b, 0, none⟩) 1 c)
    (hb : w.heap[b]? = some (.cells (rfC r) 52 (0, 0))) (hd : r.id.length = 32) (hn : n + 1 ≤ 1099511627776) (hbase : base ≤ w.heap.size)
    (h : ∀ v' w', w'.ownsRow base 52 33 v' (n + 1) (xs ++ rfF r) → w.grownBy w' v.ownBlock → wpList Try.prog ops Q rest (a.put o.dst v') w') : wpList Try.prog ops Q (o :: rest) a w := by
  obtain ⟨i0, hi, hz0, hz1, hz2⟩ := info_parts info_rf3
  refine wpList_append_own w hgd s x 22 ho base 52 i0 _ 33 48 Try.underlying22 hi hz0 hz1 hz2 rfl (by decide) v n xs hs hown ⟨b, 0, none⟩ 1 c (rfF r) hx (by rw [rfF_len hd])
    (fun j y hj => ?_) (fun y hy => one_rf r y hy) (by unfold maxLen; omega) (by omega) hbase fun v' w' h1 h2 _ => h v' w' h1 h2
  rw [Addr.add_mid, Nat.zero_add, (blk_cell hb).1 j]
  simpa [rfC] using hj
/-- One more branch. -/
theorem RS.push {w W W' : World} {H g q : Nat} {o : LetL} {rs rs' : List RfL} {a a' : Option Addr} {n n' c c' : Nat} {S : Rd} {b : Option Nat} (h : RS w W H g q { o with refs := rs } { LS.none with ra := a, rn := n, rc := c } S) (h1 : o.wants = []) (h2 : o.haves = []) (h3 : o.data = [])
    (k : W.grownBy W' b) (hb : ∀ j, b = some j → q < j) (own : W'.ownsRow (q + 1) 52 33 (.slice a' n' c') n' (rowC 33 rfF rs')) (hall : ∀ r ∈ rs', (r.id.length = 32 ∧ IsBytes r.id) ∧ r.name.size ≤ 9223372036854775807) :
    RS w (W'.setCell ⟨q, 4, none⟩ (.slice a' n' c')) H g q { o with refs := rs' } { LS.none with ra := a', rn := n', rc := c' } S := by
  have hwg := h.wg
  have hgq := h.gq
  have hle := h.le
  have hql := h.qlt
  have hk : ∀ j, j ≤ q → W'.heap[j]? = W.heap[j]? := fun j hj => k.block j (by omega) (fun e => by have := hb j e.symm; omega)
  have hq' := (hk q (Nat.le_refl _)).trans h.hq
  have hB' : Below w.heap.size w W' := h.B.grown k h.B.size (fun j hj => by have := hb j hj; omega)
  have hrd' : RdAt W' H g S := h.rd.kept (hk g (by omega)) (fun j hj _ => hk j (by omega))
  have hql' := (blk_cell hq').2.2
  have hg : ∀ j, (some q : Option Nat) = some j → j < q + 1 := fun j hj => by cases hj; omega
  refine ⟨hB'.grown (grown_set W' q 4 _) hB'.size (fun j hj => by cases hj; omega), (heap_setCell_same W' q 4 _ _ (.slice a' n' c') hq').trans rfl, ((grown_set W' q 4 (.slice a' n' c')).block w.heap.size (by omega) (by simp; omega)).trans ((hk _ (by omega)).trans h.hr), hrd'.grown' (grown_set W' q 4 _) (by omega) (by omega) (by omega), h.le, h.wg, h.gq,
    own_grown own (grown_set W' q 4 _) hg, ?_, ?_, ?_, ⟨hall, h.ok.wants, h.ok.haves, h.ok.pack, h.ok.packb, h.ok.data⟩, h.sb⟩
  · show World.ownsRow _ _ _ _ _ _ (rowC 32 idF o.wants)
    rw [h1]
    exact World.ownsRow_nil _ _ _ _
  · show World.ownsRow _ _ _ _ _ _ (rowC 32 idF o.haves)
    rw [h2]
    exact World.ownsRow_nil _ _ _ _
  · show DataAt _ _ _ _ _ o.data
    rw [h3]
    exact DataAt.nil _ _

theorem getNum_le {s : Rd} {most : Int} (h0 : 0 ≤ most) : (getNum most s).1 ≤ most := by
  cases s with
  | none => exact h0
  | some l =>
    rw [getNum_some]
    cases h : rnum most 0 0 l with
    | none => exact h0
    | some x => exact (rnum_nonneg most l 0 0 x.1 x.2 h).2
theorem put_rfid (n : ByteArray) (d : List Int) (hd : d.length = 32) : put (rfC ⟨n, zero32⟩) 1 (idC d) = rfC ⟨n, d⟩ := by
  simp [put, rfC, rfF, idC, hd, zero32]
theorem seg_rf0 {w : World} {g : Nat} {r : RfL} {t : TypeId} {fr : Nat × Nat} (h : w.heap[g]? = some (.cells (rfC r) t fr)) (hr : r.id.length = 32) : isSeg w g 0 33 = true ∧ segAt w g 0 33 = rfC r :=
  seg_of h 0 33 (by rw [rfC_size hr]; omega) (by
    apply Array.ext'
    have : (rfF r).length = 33 := rfF_len hr
    simp only [rfC, Array.toList_extract, List.extract, List.drop_zero, Nat.zero_add, Nat.sub_zero]
    rw [List.take_of_length_le (by omega)])

end

end Go.Proofs.Ytfjbmgfkfeehnaa
