/- Letters as values; the same letters: the program's function. -/
import Derived.Test.YtfjbmgfkfeehnaaEqs
namespace Go.Proofs.Ytfjbmgfkfeehnaa
open Go.RowKit

theorem blk0 (w : World) (X : Array Value) (t : TypeId) : (w.alloc (.cells X t)).heap[w.heap.size]? = some (.cells X t (0, 0)) := heap_alloc_new w _

/-- Where a letter's slices lie. -/
structure LS where
  ra : Option Addr
  rn : Nat
  rc : Nat
  wa : Option Addr
  wn : Nat
  wc : Nat
  ha : Option Addr
  hn : Nat
  hc : Nat
  da : Option Addr
  dn : Nat
  dc : Nat
def LS.none : LS := ⟨.none, 0, 0, .none, 0, 0, .none, 0, 0, .none, 0, 0⟩
/-- A letter's cells. -/
def letC (l : LetL) (s : LS) : Array Value :=
  ⟨[.int .i64 l.kind, .int .i64 l.from_, .int .i64 l.to_, .int .i64 l.session, .slice s.ra s.rn s.rc, .slice s.wa s.wn s.wc, .slice s.ha s.hn s.hc, .int .i64 l.off, .int .i64 l.total] ++ (l.pack.map (Value.int .u8) ++ [.slice s.da s.dn s.dc])⟩
structure LetX (l : LetL) (s : LS) (X : Array Value) : Prop where
  size : X.size = 42
  x0 : X[0]? = some (.int .i64 l.kind)
  x1 : X[1]? = some (.int .i64 l.from_)
  x2 : X[2]? = some (.int .i64 l.to_)
  x3 : X[3]? = some (.int .i64 l.session)
  x4 : X[4]? = some (.slice s.ra s.rn s.rc)
  x5 : X[5]? = some (.slice s.wa s.wn s.wc)
  x6 : X[6]? = some (.slice s.ha s.hn s.hc)
  x7 : X[7]? = some (.int .i64 l.off)
  x8 : X[8]? = some (.int .i64 l.total)
  x41 : X[41]? = some (.slice s.da s.dn s.dc)
  xp : X.extract 9 41 = idC l.pack
  xa : X.extract 0 42 = X
theorem letC_x (l : LetL) (s : LS) (h : l.pack.length = 32) : LetX l s (letC l s) := by
  refine ⟨by simp [letC, h], rfl, rfl, rfl, rfl, rfl, rfl, rfl, rfl, rfl, ?_, ?_, ?_⟩
  · simp [letC, h]
  · apply Array.ext'
    simp [letC, idC, h]
  · apply Array.ext'
    have : (l.pack.map (Value.int .u8) ++ [Value.slice s.da s.dn s.dc]).length = 33 := by simp [h]
    simp [letC]
    rw [List.take_of_length_le (by omega)]
theorem letC_one (l : LetL) (s : LS) : ∀ x ∈ (letC l s).toList, x.oneCell' = true := fun x hx => by
  simp only [letC, List.mem_append, List.mem_cons, List.mem_map, List.not_mem_nil, or_false] at hx
  rcases hx with (h | h | h | h | h | h | h | h | h) | (⟨y, _, h⟩ | h) <;> subst h <;> rfl

/-- A letter as an argument. -/
structure LetA (w : World) (l : LetL) (s : LS) : Prop where
  refs : Rfs w s.ra s.rn s.rc l.refs
  wants : Ids w s.wa s.wn s.wc l.wants
  haves : Ids w s.ha s.hn s.hc l.haves
  data : Bs w s.da s.dn s.dc l.data
  pack : l.pack.length = 32
  bytes : IsBytes l.data
  packb : IsBytes l.pack
theorem LetA.below {w w' : World} {l : LetL} {s : LS} (h : LetA w l s) (hb : Below w.heap.size w w') : LetA w' l s := ⟨h.refs.below hb, h.wants.below hb, h.haves.below hb, h.data.below hb, h.pack, h.bytes, h.packb⟩

theorem let_eq (a b : LetL) : decide (a = b) = (decide (a.kind = b.kind) && decide (a.from_ = b.from_) && decide (a.to_ = b.to_) && decide (a.session = b.session) && decide (a.refs = b.refs) && decide (a.wants = b.wants) && decide (a.haves = b.haves) && decide (a.off = b.off) && decide (a.total = b.total) && decide (a.pack = b.pack) && decide (a.data = b.data)) := by
  cases a; cases b
  rw [Bool.eq_iff_iff]
  simp [and_assoc]

set_option maxRecDepth 100000 in
set_option maxHeartbeats 4000000 in
theorem same_any (l l' : LetL) (s s' : LS) (w : World) (h : LetA w l s) (h' : LetA w l' s') :
    Calls Try.prog 13 #[.agg (letC l s), .agg (letC l' s')] w (Ret w (.bool (decide (l = l')))) := by
  obtain ⟨hsz, x0, x1, x2, x3, x4, x5, x6, x7, x8, x41, xp, xa⟩ := letC_x l s h.pack
  obtain ⟨ysz, y0, y1, y2, y3, y4, y5, y6, y7, y8, y41, yp, ya⟩ := letC_x l' s' h'.pack
  have hd := h.pack
  have hd' := h'.pack
  revert hsz x0 x1 x2 x3 x4 x5 x6 x7 x8 x41 xp xa ysz y0 y1 y2 y3 y4 y5 y6 y7 y8 y41 yp ya
  generalize letC l s = X
  generalize letC l' s' = Y
  intro hsz x0 x1 x2 x3 x4 x5 x6 x7 x8 x41 xp xa ysz y0 y1 y2 y3 y4 y5 y6 y7 y8 y41 yp ya
  have hx : ((w.alloc (.cells X 28)).alloc (.cells Y 28)).heap[w.heap.size]? = some (.cells X 28 (0, 0)) := (Below.heap_alloc _ _ _ (by simp)).trans (blk0 w X _)
  have hy : ((w.alloc (.cells X 28)).alloc (.cells Y 28)).heap[w.heap.size + 1]? = some (.cells Y 28 (0, 0)) := by have := blk0 (w.alloc (.cells X 28)) Y 28; simpa using this
  have hsx := seg_of hx 9 32 (by omega) xp
  have hsy := seg_of hy 9 32 (by omega) yp
  have hcx := (blk_cell hx).1
  have hcy := (blk_cell hy).1
  have hB0 : Below w.heap.size w ((w.alloc (.cells X 28)).alloc (.cells Y 28)) := ((Below.refl _ _).alloc (Nat.le_refl _) _).alloc (by simp) _
  have HS := Lib.hid hsz; have HS' := Lib.hid ysz
  have hE1 : ∀ w', Below w.heap.size w w' → Calls Try.prog 31 #[.slice s.ra s.rn s.rc, .slice s'.ra s'.rn s'.rc] w' (Ret w' (.bool (decide (l.refs = l'.refs)))) := fun w' hb => eqrfs_any _ _ _ _ _ _ _ _ w' (h.below hb).refs (h'.below hb).refs
  have hE2 : ∀ w', Below w.heap.size w w' → Calls Try.prog 32 #[.slice s.wa s.wn s.wc, .slice s'.wa s'.wn s'.wc] w' (Ret w' (.bool (decide (l.wants = l'.wants)))) := fun w' hb => eqids_any _ _ _ _ _ _ _ _ w' (h.below hb).wants (h'.below hb).wants
  have hE3 : ∀ w', Below w.heap.size w w' → Calls Try.prog 32 #[.slice s.ha s.hn s.hc, .slice s'.ha s'.hn s'.hc] w' (Ret w' (.bool (decide (l.haves = l'.haves)))) := fun w' hb => eqids_any _ _ _ _ _ _ _ _ w' (h.below hb).haves (h'.below hb).haves
  have hE4 : ∀ w', Below w.heap.size w w' → Calls Try.prog 33 #[.slice s.da s.dn s.dc, .slice s'.da s'.dn s'.dc] w' (Ret w' (.bool (decide (l.data = l'.data)))) := fun w' hb => eqbytes_any _ _ _ _ _ _ _ _ w' (h.below hb).data (h'.below hb).data h.bytes h'.bytes
  have E1 := Lib.hid hE1; have E2 := Lib.hid hE2; have E3 := Lib.hid hE3; have E4 := Lib.hid hE4
  clear xa hsz h xp ya ysz h' yp hE1 hE2 hE3 hE4
  go_enter Try.func13, Try.ntmps13
  go_wp2_with (first
    | (go_at_call 31; (with_reducible refine (E1.out _ (by assumption)).mono ?_); rintro e w1 ⟨rfl, hb⟩; have hB := Below.next (w := w) (by assumption) hb; have hsx := seg_below hsx hb; have hsy := seg_below hsy hb; have hx := (hb.block _ (blk_cell hx).2.2).trans hx; have hcx := (blk_cell hx).1; have hy := (hb.block _ (blk_cell hy).2.2).trans hy; have hcy := (blk_cell hy).1; have hb := hb)
    | (go_at_call 32; (first | (with_reducible refine (E2.out _ (by assumption)).mono ?_) | (with_reducible refine (E3.out _ (by assumption)).mono ?_)); rintro e w1 ⟨rfl, hb⟩; have hB := Below.next (w := w) (by assumption) hb; have hsx := seg_below hsx hb; have hsy := seg_below hsy hb; have hx := (hb.block _ (blk_cell hx).2.2).trans hx; have hcx := (blk_cell hx).1; have hy := (hb.block _ (blk_cell hy).2.2).trans hy; have hcy := (blk_cell hy).1; have hb := hb)
    | (go_at_call 33; (with_reducible refine (E4.out _ (by assumption)).mono ?_); rintro e w1 ⟨rfl, hb⟩; have hB := Below.next (w := w) (by assumption) hb; have hb := hb))
  all_goals
    go_ret
    refine Ret.mk (congrArg Value.bool ?_) (by assumption)
    rw [let_eq]
    (try simp only [Bool.not_eq_true', Bool.not_eq_false', beq_iff_eq, beq_eq_false_iff_ne, ne_eq] at *)
    rw [Bool.eq_iff_iff]
    simp [*]

end Go.Proofs.Ytfjbmgfkfeehnaa
