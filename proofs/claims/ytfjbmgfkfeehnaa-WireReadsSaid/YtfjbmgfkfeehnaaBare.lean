/- A letter with what its kind names alone: the program's function. -/
import Derived.Test.YtfjbmgfkfeehnaaRefs
import Derived.Deep.MidRow
namespace Go.Proofs.Ytfjbmgfkfeehnaa
open Go.RowKit

/-! An ID is stored into a block. -/
def rowAt (w : World) (g : Nat) : Array Value := match w.heap[g]? with
  | some (.cells cs _ _) => cs
  | _ => #[]
def isSegW (w : World) (g o n : Nat) : Bool := match w.heap[g]? with
  | some (.cells cs _ fr) => decide (o + n ≤ cs.size) && fr == (0, 0)
  | _ => false
def setSeg (w : World) (g o : Nat) (cs : Array Value) : World := w.setRow g (put (rowAt w g) o cs)
def ones (cs : Array Value) : Bool := cs.all (·.oneCell')
theorem ones_id (d : List Int) : ones (idC d) = true := by
  unfold ones
  rw [Array.all_eq_true_iff_forall_mem]
  intro v hv
  exact cells_id d v (by simpa using hv)
def storeId (p v : Value) : Sem Unit := Instr.storeAt 25 p v
@[go_sem ↓ high] theorem storeAt_Id (p v : Value) : Instr.storeAt 25 p v = storeId p v := rfl
theorem of_segW {w : World} {g o n : Nat} (h : isSegW w g o n = true) : ∃ cs t, w.heap[g]? = some (.cells cs t (0, 0)) ∧ rowAt w g = cs ∧ o + n ≤ cs.size := by
  unfold isSegW at h
  split at h
  · rename_i cs t fr hc
    simp only [Bool.and_eq_true, decide_eq_true_eq, beq_iff_eq] at h
    obtain ⟨h, rfl⟩ := h
    exact ⟨cs, t, hc, by unfold rowAt; rw [hc], h⟩
  · cases h
theorem segW_of {w : World} {g : Nat} {t : TypeId} {cs : Array Value} (h : w.heap[g]? = some (.cells cs t (0, 0))) (o n : Nat) (hn : o + n ≤ cs.size) : isSegW w g o n = true := by
  unfold isSegW
  rw [h]
  simp [hn]
@[go_sem] theorem isSegW_drew (w : World) (g o n : Nat) : isSegW w.drew g o n = isSegW w g o n := rfl
theorem heap_setSeg {w : World} {g : Nat} {t : TypeId} {cs : Array Value} (h : w.heap[g]? = some (.cells cs t (0, 0))) (o : Nat) (xs : Array Value) : (setSeg w g o xs).heap[g]? = some (.cells (put cs o xs) t (0, 0)) := by
  unfold setSeg rowAt
  rw [h]
  exact setRow_heap w g cs _ t (0, 0) h
@[go_sem] theorem run_storeId (w : World) (g o : Nat) (cs : Array Value) (h : isSegW w g o 32 = true) (hn : cs.size = 32) (h1 : ones cs = true) :
    (storeId (.pointer (some ⟨g, o, none⟩)) (.agg cs)).run Try.prog w = .ok () (setSeg w g o cs) := by
  obtain ⟨cur, t, hg, hr, hs⟩ := of_segW h
  have hst := run_storeCells_at Try.prog g o t cs.toList 0 cur w hg (by simp; omega) (fun v hv => by
    unfold ones at h1
    rw [Array.all_eq_true_iff_forall_mem] at h1
    exact h1 v (by simpa using hv))
  cases hq : Try.prog.info? 25 with
  | none => have := size_id; simp [hq] at this
  | some i =>
    have hs : i.size = cs.size := by have := size_id; simp [hq] at this; omega
    have hrun : (storeVar 25 ⟨g, o, none⟩ (.agg cs)).run Try.prog w = .ok () (setSeg w g o cs) := by
      simp only [Nat.add_zero, Array.length_toList] at hst
      simp [storeVar, Value.cells, sizeOf, typeInfo, hq, hs, hst, setSeg, put, hr]
    simp only [storeId, Instr.storeAt, Instr.sureAddr, Sem.run_bind, Sem.run_pure, Result.andThen_ok, hrun]
theorem put_at (cur cs : Array Value) (o k : Nat) (h : k < o ∨ o + cs.size ≤ k) (hn : o + cs.size ≤ cur.size) : (put cur o cs)[k]? = cur[k]? := by
  unfold put
  rw [List.getElem?_toArray, List.append_assoc]
  rcases h with h | h
  · rw [List.getElem?_append_left (by simp; omega), List.getElem?_take_of_lt h]
    simp
  · rw [List.getElem?_append_right (by simp; omega), List.getElem?_append_right (by simp; omega), List.getElem?_drop]
    simp
    congr 1
    omega
@[go_sem] theorem cell_setSeg (w : World) (g o k : Nat) (cs : Array Value) (h : isSegW w g o cs.size = true) (hk : k < o ∨ o + cs.size ≤ k) : (setSeg w g o cs).cell? ⟨g, k, none⟩ = w.cell? ⟨g, k, none⟩ := by
  obtain ⟨cur, t, hg, hr, hs⟩ := of_segW h
  rw [cell_of_row _ g k _ t (0, 0) (heap_setSeg hg o cs), cell_of_row w g k cur t (0, 0) hg, put_at _ _ _ _ hk hs]
@[go_sem] theorem frozen_setSeg (w : World) (g o k : Nat) (cs : Array Value) (h : isSegW w g o cs.size = true) : (setSeg w g o cs).frozen? ⟨g, k, none⟩ = false := by
  obtain ⟨cur, t, hg, hr, hs⟩ := of_segW h
  exact frozen_of_row _ g k _ t (heap_setSeg hg o cs)
@[go_sem] theorem cell_setSeg_ne (w : World) (g o k g' : Nat) (cs : Array Value) (h : ¬ g' = g) : (setSeg w g o cs).cell? ⟨g', k, none⟩ = w.cell? ⟨g', k, none⟩ := by
  unfold World.cell? setSeg
  rw [setRow_other w g g' _ h]
@[go_sem] theorem frozen_setSeg_ne (w : World) (g o k g' : Nat) (cs : Array Value) (h : ¬ g' = g) : (setSeg w g o cs).frozen? ⟨g', k, none⟩ = w.frozen? ⟨g', k, none⟩ := by
  unfold World.frozen? setSeg
  rw [setRow_other w g g' _ h]
@[go_sem] theorem isSeg_setSeg_ne (w : World) (g o g' o' n : Nat) (cs : Array Value) (h : ¬ g' = g) : isSeg (setSeg w g o cs) g' o' n = isSeg w g' o' n := by
  unfold isSeg setSeg
  rw [setRow_other w g g' _ h]
@[go_sem] theorem segAt_setSeg_ne (w : World) (g o g' o' n : Nat) (cs : Array Value) (h : ¬ g' = g) : segAt (setSeg w g o cs) g' o' n = segAt w g' o' n := by
  unfold segAt setSeg
  rw [setRow_other w g g' _ h]
@[go_sem] theorem isSeg_setCell_ne (w : World) (g o g' o' n : Nat) (v : Value) (h : ¬ g' = g) : isSeg (w.setCell ⟨g, o, none⟩ v) g' o' n = isSeg w g' o' n := by
  unfold isSeg
  rw [Below.heap_setCell _ _ _ _ h]
@[go_sem] theorem segAt_setCell_ne (w : World) (g o g' o' n : Nat) (v : Value) (h : ¬ g' = g) : segAt (w.setCell ⟨g, o, none⟩ v) g' o' n = segAt w g' o' n := by
  unfold segAt
  rw [Below.heap_setCell _ _ _ _ h]
theorem grown_setSeg (w : World) (g o : Nat) (cs : Array Value) : w.grownBy (setSeg w g o cs) (some g) := ⟨rfl, rfl, rfl, by simp [setSeg], fun k _ hk => setRow_other w g k _ (fun e => hk (by rw [e]))⟩

theorem keep5 {W : World} {x q : Nat} {p : List Value} {a b c : Value} (h : W.rangeAt x 9 p ∧ W.cell? ⟨x, 7, none⟩ = some a ∧ W.cell? ⟨x, 8, none⟩ = some b ∧ W.cell? ⟨x, 41, none⟩ = some c ∧ W.there q 9 32) (hne : ¬ x = q) (o : Nat) (vs : List Value) :
    (W.setCells q o vs).rangeAt x 9 p ∧ (W.setCells q o vs).cell? ⟨x, 7, none⟩ = some a ∧ (W.setCells q o vs).cell? ⟨x, 8, none⟩ = some b ∧ (W.setCells q o vs).cell? ⟨x, 41, none⟩ = some c ∧ (W.setCells q o vs).there q 9 32 := by
  have e : ∀ k, (W.setCells q o vs).cell? ⟨x, k, none⟩ = W.cell? ⟨x, k, none⟩ := fun k => World.cell?_setCells_out q vs o W ⟨x, k, none⟩ (fun h => absurd h hne)
  exact ⟨World.rangeAt_setCells_apart h.1 q o vs (.inl hne), (e 7).trans h.2.1, (e 8).trans h.2.2.1, (e 41).trans h.2.2.2.1, World.there_setCells h.2.2.2.2 q o vs⟩
theorem keep5c {W : World} {x q : Nat} {p : List Value} {a b c : Value} (h : W.rangeAt x 9 p ∧ W.cell? ⟨x, 7, none⟩ = some a ∧ W.cell? ⟨x, 8, none⟩ = some b ∧ W.cell? ⟨x, 41, none⟩ = some c ∧ W.there q 9 32) (hne : ¬ x = q) (o : Nat) (v : Value) :
    (W.setCell ⟨q, o, none⟩ v).rangeAt x 9 p ∧ (W.setCell ⟨q, o, none⟩ v).cell? ⟨x, 7, none⟩ = some a ∧ (W.setCell ⟨q, o, none⟩ v).cell? ⟨x, 8, none⟩ = some b ∧ (W.setCell ⟨q, o, none⟩ v).cell? ⟨x, 41, none⟩ = some c ∧ (W.setCell ⟨q, o, none⟩ v).there q 9 32 :=
  keep5 h hne o [v]
theorem keep5d {W : World} {x q : Nat} {p : List Value} {a b c : Value} (h : W.rangeAt x 9 p ∧ W.cell? ⟨x, 7, none⟩ = some a ∧ W.cell? ⟨x, 8, none⟩ = some b ∧ W.cell? ⟨x, 41, none⟩ = some c ∧ W.there q 9 32) :
    W.drew.rangeAt x 9 p ∧ W.drew.cell? ⟨x, 7, none⟩ = some a ∧ W.drew.cell? ⟨x, 8, none⟩ = some b ∧ W.drew.cell? ⟨x, 41, none⟩ = some c ∧ W.drew.there q 9 32 := h
theorem put_cons (cs : Array Value) (o : Nat) (v : Value) (r : List Value) (h : o < cs.size) : put (cs.setIfInBounds o v) (o + 1) r.toArray = put cs o (v :: r).toArray := by
  unfold put
  congr 1
  have hl : o < cs.toList.length := by simpa using h
  simp only [Array.toList_setIfInBounds, List.size_toArray, List.length_cons]
  rw [List.take_add_one, List.take_set_of_le (Nat.le_refl _), List.getElem?_set_self hl, List.drop_set_of_lt (by omega)]
  simp [Nat.add_assoc, Nat.add_comm 1]
theorem heap_setCells {g : Nat} {t : TypeId} : ∀ (vs : List Value) (o : Nat) (w : World) (cs : Array Value), w.heap[g]? = some (.cells cs t (0, 0)) → o + vs.length ≤ cs.size → (w.setCells g o vs).heap[g]? = some (.cells (put cs o vs.toArray) t (0, 0))
  | [], o, w, cs, h, _ => by
    have e : put cs o #[] = cs := by unfold put; simp
    rw [show ([] : List Value).toArray = #[] from rfl, e]
    exact h
  | v :: r, o, w, cs, h, hn => by
    simp only [List.length_cons] at hn
    have h1 := heap_setCell_same w g o cs t v h
    have := heap_setCells r (o + 1) (w.setCell ⟨g, o, none⟩ v) _ h1 (by simp; omega)
    rw [put_cons _ _ _ _ (by omega)] at this
    exact this
theorem grown_setCells (g : Nat) : ∀ (vs : List Value) (o : Nat) (w : World), w.grownBy (w.setCells g o vs) (some g)
  | [], _, w => grown_refl w _
  | v :: r, o, w => grown_trans (grown_set w g o v) (grown_setCells g r (o + 1) _)

/-- What is left of a letter. -/
def bare0 (l : LetL) : LetL := ⟨l.kind, l.from_, l.to_, l.session, [], [], [], 0, 0, zero32, []⟩
def bareL (l : LetL) : LetL :=
  if l.kind = 2 then { bare0 l with refs := l.refs }
  else if l.kind = 3 then { bare0 l with wants := l.wants, haves := l.haves, off := l.off }
  else if l.kind = 4 then { bare0 l with pack := l.pack, off := l.off, total := l.total, data := l.data }
  else bare0 l
def bareS (l : LetL) (s : LS) : LS :=
  if l.kind = 2 then { LS.none with ra := s.ra, rn := s.rn, rc := s.rc }
  else if l.kind = 3 then { LS.none with wa := s.wa, wn := s.wn, wc := s.wc, ha := s.ha, hn := s.hn, hc := s.hc }
  else if l.kind = 4 then { LS.none with da := s.da, dn := s.dn, dc := s.dc }
  else LS.none
theorem LetA.bare {w : World} {l : LetL} {s : LS} (h : LetA w l s) : LetA w (bareL l) (bareS l s) := by
  unfold bareL bareS
  have hz : IsBytes ([] : List Int) := .nil
  split
  · exact ⟨h.refs, Ids.empty w, Ids.empty w, Sl.empty w 1, rfl, hz, zero32_bytes⟩
  · split
    · exact ⟨Rfs.empty w, h.wants, h.haves, Sl.empty w 1, rfl, hz, zero32_bytes⟩
    · split
      · exact ⟨Rfs.empty w, Ids.empty w, Ids.empty w, h.data, h.pack, h.bytes, h.packb⟩
      · exact ⟨Rfs.empty w, Ids.empty w, Ids.empty w, Sl.empty w 1, rfl, hz, zero32_bytes⟩
theorem letC_size (l : LetL) (s : LS) (h : l.pack.length = 32) : (letC l s).size = 42 := (letC_x l s h).size
theorem info_let' (l : LetL) (s : LS) (h : l.pack.length = 32) : (Try.prog.info? 28).map (·.size) = some (letC l s).size := by rw [letC_size l s h]; exact info_let
def zeroL : LetL := ⟨0, 0, 0, 0, [], [], [], 0, 0, zero32, []⟩
theorem seg_let {w : World} {g : Nat} {l : LetL} {s : LS} {t : TypeId} {fr : Nat × Nat} (h : w.heap[g]? = some (.cells (letC l s) t fr)) (hp : l.pack.length = 32) : isSeg w g 0 42 = true ∧ segAt w g 0 42 = letC l s :=
  seg_of h 0 42 (by rw [letC_size l s hp]; omega) (letC_x l s hp).xa

theorem content0 (l : LetL) (s : LS) (h2 : ¬ l.kind = 2) (h3 : ¬ l.kind = 3) (h4 : ¬ l.kind = 4) : letC (bare0 l) LS.none = letC (bareL l) (bareS l s) := by
  unfold bareL bareS
  rw [if_neg h2, if_neg h2, if_neg h3, if_neg h3, if_neg h4, if_neg h4]
theorem content2 (l : LetL) (s : LS) (h2 : l.kind = 2) : (letC (bare0 l) LS.none).setIfInBounds 4 (.slice s.ra s.rn s.rc) = letC (bareL l) (bareS l s) := by
  unfold bareL bareS
  rw [if_pos h2, if_pos h2]
  rfl
theorem content3 (l : LetL) (s : LS) (h3 : l.kind = 3) : (((letC (bare0 l) LS.none).setIfInBounds 5 (.slice s.wa s.wn s.wc)).setIfInBounds 6 (.slice s.ha s.hn s.hc)).setIfInBounds 7 (.int .i64 l.off) = letC (bareL l) (bareS l s) := by
  unfold bareL bareS
  have h2 : ¬ l.kind = 2 := by omega
  rw [if_neg h2, if_neg h2, if_pos h3, if_pos h3]
  rfl
theorem put_pack (l : LetL) (h : l.pack.length = 32) : put (letC (bare0 l) LS.none) 9 (idF l.pack).toArray = letC { bare0 l with pack := l.pack } LS.none := by
  unfold put
  rw [List.size_toArray, idF_len h]
  rfl
theorem content4 (l : LetL) (s : LS) (h4 : l.kind = 4) (h : l.pack.length = 32) : (((put (letC (bare0 l) LS.none) 9 (idF l.pack).toArray).setIfInBounds 7 (.int .i64 l.off)).setIfInBounds 8 (.int .i64 l.total)).setIfInBounds 41 (.slice s.da s.dn s.dc) = letC (bareL l) (bareS l s) := by
  rw [put_pack l h]
  unfold bareL bareS
  have h2 : ¬ l.kind = 2 := by omega
  have h3 : ¬ l.kind = 3 := by omega
  rw [if_neg h2, if_neg h2, if_neg h3, if_neg h3, if_pos h4, if_pos h4]
  apply Array.ext'
  have hl : (l.pack.map (Value.int .u8)).length = 32 := by simp [h]
  simp only [Array.toList_setIfInBounds, letC, bare0, LS.none]
  simp only [List.cons_append, List.nil_append, List.set_cons_succ, List.set_cons_zero]
  rw [List.set_append_right _ _ (by omega), hl]
  rfl

set_option maxRecDepth 100000 in
set_option maxHeartbeats 4000000 in
theorem bare_any (l : LetL) (s : LS) (w : World) (h : LetA w l s) :
    Calls Try.prog 28 #[.agg (letC l s)] w (Ret w (.agg (letC (bareL l) (bareS l s)))) := by
  obtain ⟨hsz, x0, x1, x2, x3, x4, x5, x6, x7, x8, x41, xp, xa⟩ := letC_x l s h.pack
  have hx : ((w.alloc (.cells (letC l s) 28)).alloc (.cells (letC zeroL LS.none) 28)).heap[w.heap.size]? = some (.cells (letC l s) 28 (0, 0)) := (Below.heap_alloc _ _ _ (by simp)).trans (blk0 w _ _)
  have hy : ((w.alloc (.cells (letC l s) 28)).alloc (.cells (letC zeroL LS.none) 28)).heap[w.heap.size + 1]? = some (.cells (letC zeroL LS.none) 28 (0, 0)) := by have := blk0 (w.alloc (.cells (letC l s) 28)) (letC zeroL LS.none) 28; simpa using this
  have hB0 : Below w.heap.size w ((w.alloc (.cells (letC l s) 28)).alloc (.cells (letC zeroL LS.none) 28)) := ((Below.refl _ _).alloc (Nat.le_refl _) _).alloc (by simp) _
  have hcx := (blk_cell hx).1
  have HL := Lib.hid hsz
  have HP := Lib.hid h.pack
  clear hsz xa
  revert x0 x1 x2 x3 x4 x5 x6 x7 x8 x41 xp
  generalize letC l s = X at *
  intro x0 x1 x2 x3 x4 x5 x6 x7 x8 x41 xp
  go_enter Try.func28, Try.ntmps28
  go_upto_region 1 with fail
  (repeat ((fail_if_success (with_reducible show wpList _ _ _ (Oper.mk _ (Op.store _ _ _) _ _ _ _ :: _) _ _)); first | go_values | go_skip | go_guarded | go_step | go_upon))
  have hz := blk0 ((w.alloc (.cells X 28)).alloc (.cells (letC zeroL LS.none) 28)) (letC zeroL LS.none) 28
  refine wpList_store_seg (w := ((w.alloc (.cells X 28)).alloc (.cells (letC zeroL LS.none) 28)).alloc (.cells (letC zeroL LS.none) 28)) rfl 28 _ _ rfl rfl (w.heap.size + 2) 0 rfl (letC (bare0 l) LS.none) rfl 28 (letC zeroL LS.none) (by simpa using hz) (by rw [letC_size _ _ rfl, letC_size _ _ rfl]; decide) (info_let' _ _ rfl) (letC_one _ _) (letC (bare0 l) LS.none) (put_whole _ _ (by rw [letC_size _ _ rfl, letC_size _ _ rfl])) ?_
  intro w3 hq hg3 _
  have hB := (hB0.alloc hB0.size (.cells (letC zeroL LS.none) 28)).grown hg3 (by simp; omega) (fun k hk => by cases hk; omega)
  have hx := (hg3.block w.heap.size (by simp; omega) (by simp)).trans ((Below.heap_alloc _ _ _ (by simp; omega)).trans hx)
  have hy := (hg3.block (w.heap.size + 1) (by simp) (by simp)).trans ((Below.heap_alloc _ _ _ (by simp)).trans hy)
  clear hz hg3 hB0 hcx
  have hcx := (blk_cell hx).1
  have hsx := seg_of hx 9 32 (by have := HL.out; omega) xp
  have hc4 := show w3.cell? ⟨w.heap.size + 2, 4, none⟩ = some (.slice none 0 0) from (blk_cell hq).1 4
  have hc5 := show w3.cell? ⟨w.heap.size + 2, 5, none⟩ = some (.slice none 0 0) from (blk_cell hq).1 5
  have hc6 := show w3.cell? ⟨w.heap.size + 2, 6, none⟩ = some (.slice none 0 0) from (blk_cell hq).1 6
  have hc7 := show w3.cell? ⟨w.heap.size + 2, 7, none⟩ = some (.int .i64 0) from (blk_cell hq).1 7
  have hc8 := show w3.cell? ⟨w.heap.size + 2, 8, none⟩ = some (.int .i64 0) from (blk_cell hq).1 8
  have hc41 := show w3.cell? ⟨w.heap.size + 2, 41, none⟩ = some (.slice none 0 0) from (blk_cell hq).1 41
  have hf := (blk_cell hq).2.1
  have hw9 := segW_of hq 9 32 (by rw [letC_size _ _ rfl]; decide)
  have hpz : (idC l.pack).size = 32 := idC_size HP.out
  have hpo := ones_id l.pack
  have HX := Lib.hid hx; have HY := Lib.hid hy; have HQ := Lib.hid hq
  clear hx hy hq
  have hne : ¬ w.heap.size = w.heap.size + 1 + 1 := by omega
  have HPB := Lib.hid h.bare.pack
  by_cases hk2 : l.kind = 2
  · have e2 : (l.kind == 2) = true := by simp [hk2]
    go_upto_region 9 with fail
    have HC := Lib.hid (show (w3.setCell ⟨w.heap.size + 1 + 1, 4, none⟩ (.slice s.ra s.rn s.rc)).heap[w.heap.size + 1 + 1]? = some (.cells (letC (bareL l) (bareS l s)) 28 (0, 0)) from (heap_setCell_same w3 _ 4 _ _ (.slice s.ra s.rn s.rc) HQ.out).trans (by rw [content2 l s hk2]))
    have hg9 : w3.grownBy (w3.setCell ⟨w.heap.size + 1 + 1, 4, none⟩ (.slice s.ra s.rn s.rc)) (some (w.heap.size + 1 + 1)) := grown_set w3 _ _ _
    have HY9 := Lib.hid (show (w3.setCell ⟨w.heap.size + 1 + 1, 4, none⟩ (.slice s.ra s.rn s.rc)).heap[w.heap.size + 1]? = some (.cells (letC zeroL LS.none) 28 (0, 0)) from (hg9.block _ (blk_cell HY.out).2.2 (by simp)).trans HY.out)
    have HB9 := Lib.hid (show Below w.heap.size w (w3.setCell ⟨w.heap.size + 1 + 1, 4, none⟩ (.slice s.ra s.rn s.rc)) from hB.grown hg9 hB.size (fun k hk => by cases hk; omega))
    clear hg9
    have hq9 := seg_let HC.out HPB.out
    generalize w3.setCell ⟨w.heap.size + 1 + 1, 4, none⟩ (.slice s.ra s.rn s.rc) = W9 at *
    (repeat ((fail_if_success (with_reducible show wpList _ _ _ (Oper.mk _ (Op.store _ _ _) _ _ _ _ :: _) _ _)); first | go_values | go_skip | go_guarded | go_step | go_upon))
    refine wpList_store_seg rfl 28 _ _ rfl rfl (w.heap.size + 1) 0 rfl (letC (bareL l) (bareS l s)) rfl 28 (letC zeroL LS.none) HY9.out (by rw [letC_size _ _ HPB.out, letC_size _ _ rfl]; decide) (info_let' _ _ HPB.out) (letC_one _ _) (letC (bareL l) (bareS l s)) (put_whole _ _ (by rw [letC_size _ _ HPB.out, letC_size _ _ rfl])) ?_
    intro w5 hr hg5 _
    go_wp2_with fail
    refine bodyPost_ret (results_cell_row rfl _ _ _ 28 _ (0, 0) _ rfl hr Try.underlying28 rfl (info_let' _ _ HPB.out)) rfl ⟨rfl, ?_⟩
    exact HB9.out.grown hg5 HB9.out.size (fun k hk => by cases hk; omega)
  · have e2 : (l.kind == 2) = false := by simp [hk2]
    by_cases hk3 : l.kind = 3
    · have e3 : (l.kind == 3) = true := by simp [hk3]
      have hc15 := (hcx 5).trans x5
      have hc16 := (hcx 6).trans x6
      have hc17 := (hcx 7).trans x7
      go_upto_region 6 with fail
      have hS : w3.cell? ⟨w.heap.size, 5, none⟩ = some (.slice s.wa s.wn s.wc) ∧ w3.cell? ⟨w.heap.size, 6, none⟩ = some (.slice s.ha s.hn s.hc) ∧ w3.cell? ⟨w.heap.size, 7, none⟩ = some (.int .i64 l.off) := ⟨hc15, hc16, hc17⟩
      go_region_held3 (fun w' => w'.cell? ⟨w.heap.size, 5, none⟩ = some (.slice s.wa s.wn s.wc) ∧ w'.cell? ⟨w.heap.size, 6, none⟩ = some (.slice s.ha s.hn s.hc) ∧ w'.cell? ⟨w.heap.size, 7, none⟩ = some (.int .i64 l.off)) (first | assumption | (simp [go_sem, *]; done)) (fail)
      have HC := Lib.hid (show ((((w3.setCell ⟨w.heap.size + 1 + 1, 5, none⟩ (.slice s.wa s.wn s.wc)).setCell ⟨w.heap.size + 1 + 1, 6, none⟩ (.slice s.ha s.hn s.hc)).setCell ⟨w.heap.size + 1 + 1, 7, none⟩ (.int .i64 l.off)).drew).heap[w.heap.size + 1 + 1]? = some (.cells (letC (bareL l) (bareS l s)) 28 (0, 0)) from (heap_setCell_same _ _ 7 _ _ (.int .i64 l.off) (heap_setCell_same _ _ 6 _ _ (.slice s.ha s.hn s.hc) (heap_setCell_same w3 _ 5 _ _ (.slice s.wa s.wn s.wc) HQ.out))).trans (by rw [content3 l s hk3]))
      have hg9 : w3.grownBy ((((w3.setCell ⟨w.heap.size + 1 + 1, 5, none⟩ (.slice s.wa s.wn s.wc)).setCell ⟨w.heap.size + 1 + 1, 6, none⟩ (.slice s.ha s.hn s.hc)).setCell ⟨w.heap.size + 1 + 1, 7, none⟩ (.int .i64 l.off)).drew) (some (w.heap.size + 1 + 1)) := grown_trans (grown_set w3 _ _ _) (grown_trans (grown_set _ _ _ _) (grown_trans (grown_set _ _ _ _) ⟨rfl, rfl, rfl, Nat.le_refl _, fun _ _ _ => rfl⟩))
      have HY9 := Lib.hid (show ((((w3.setCell ⟨w.heap.size + 1 + 1, 5, none⟩ (.slice s.wa s.wn s.wc)).setCell ⟨w.heap.size + 1 + 1, 6, none⟩ (.slice s.ha s.hn s.hc)).setCell ⟨w.heap.size + 1 + 1, 7, none⟩ (.int .i64 l.off)).drew).heap[w.heap.size + 1]? = some (.cells (letC zeroL LS.none) 28 (0, 0)) from (hg9.block _ (blk_cell HY.out).2.2 (by simp)).trans HY.out)
      have HB9 := Lib.hid (show Below w.heap.size w ((((w3.setCell ⟨w.heap.size + 1 + 1, 5, none⟩ (.slice s.wa s.wn s.wc)).setCell ⟨w.heap.size + 1 + 1, 6, none⟩ (.slice s.ha s.hn s.hc)).setCell ⟨w.heap.size + 1 + 1, 7, none⟩ (.int .i64 l.off)).drew) from hB.grown hg9 hB.size (fun k hk => by cases hk; omega))
      clear hg9
      have hq9 := seg_let HC.out HPB.out
      generalize (((w3.setCell ⟨w.heap.size + 1 + 1, 5, none⟩ (.slice s.wa s.wn s.wc)).setCell ⟨w.heap.size + 1 + 1, 6, none⟩ (.slice s.ha s.hn s.hc)).setCell ⟨w.heap.size + 1 + 1, 7, none⟩ (.int .i64 l.off)).drew = W9 at *
      (repeat ((fail_if_success (with_reducible show wpList _ _ _ (Oper.mk _ (Op.store _ _ _) _ _ _ _ :: _) _ _)); first | go_values | go_skip | go_guarded | go_step | go_upon))
      refine wpList_store_seg rfl 28 _ _ rfl rfl (w.heap.size + 1) 0 rfl (letC (bareL l) (bareS l s)) rfl 28 (letC zeroL LS.none) HY9.out (by rw [letC_size _ _ HPB.out, letC_size _ _ rfl]; decide) (info_let' _ _ HPB.out) (letC_one _ _) (letC (bareL l) (bareS l s)) (put_whole _ _ (by rw [letC_size _ _ HPB.out, letC_size _ _ rfl])) ?_
      intro w5 hr hg5 _
      go_wp2_with fail
      refine bodyPost_ret (results_cell_row rfl _ _ _ 28 _ (0, 0) _ rfl hr Try.underlying28 rfl (info_let' _ _ HPB.out)) rfl ⟨rfl, ?_⟩
      exact HB9.out.grown hg5 HB9.out.size (fun k hk => by cases hk; omega)
    · have e3 : (l.kind == 3) = false := by simp [hk3]
      by_cases hk4 : l.kind = 4
      · have e4 : (l.kind == 4) = true := by simp [hk4]
        go_upto_region 8 with fail
        have hc17 := (hcx 7).trans x7
        have hc18 := (hcx 8).trans x8
        have hc141 := (hcx 41).trans x41
        have hrg : w3.rangeAt w.heap.size 9 (idF l.pack) := fun j v hv => by
          have hj : j < 32 := by
            rcases Nat.lt_or_ge j 32 with h | h
            · exact h
            · rw [List.getElem?_eq_none (by rw [idF_len HP.out]; exact h)] at hv
              cases hv
          rw [hcx (9 + j)]
          have h2 : (X.extract 9 41)[j]? = (idC l.pack)[j]? := by rw [xp]
          rw [Array.getElem?_extract, if_pos (by have := HL.out; omega)] at h2
          rw [h2]
          simpa [idC, idF] using hv
        have hth : w3.there (w.heap.size + 1 + 1) 9 32 := fun j hj => by
          refine ⟨?_, hf _⟩
          rw [(blk_cell HQ.out).1 (9 + j), Array.getElem?_eq_getElem (by rw [letC_size _ _ rfl]; omega)]
          rfl
        have hu := Try.underlying25
        have hin : (Try.prog.info? 25).map (·.size) = some (idF l.pack).length := by rw [idF_len HP.out]; exact size_id
        have hln := idF_len HP.out
        have hon : ∀ v ∈ idF l.pack, v.oneCell' = true := fun v hv => cells_id l.pack v (by simpa [idC, idF] using hv)
        have hS : w3.rangeAt w.heap.size 9 (idF l.pack) ∧ w3.cell? ⟨w.heap.size, 7, none⟩ = some (.int .i64 l.off) ∧ w3.cell? ⟨w.heap.size, 8, none⟩ = some (.int .i64 l.total) ∧ w3.cell? ⟨w.heap.size, 41, none⟩ = some (.slice s.da s.dn s.dc) ∧ w3.there (w.heap.size + 1 + 1) 9 32 := ⟨hrg, hc17, hc18, hc141, hth⟩
        have hout : ∀ k, k < 9 ∨ 41 ≤ k → (w3.drew.setCells (w.heap.size + 1 + 1) 9 (idF l.pack)).cell? ⟨w.heap.size + 1 + 1, k, none⟩ = w3.cell? ⟨w.heap.size + 1 + 1, k, none⟩ := fun k hk => World.cell?_setCells_out _ _ _ w3.drew ⟨w.heap.size + 1 + 1, k, none⟩ (fun _ _ => by rw [hln]; exact hk)
        have hd7 := (hout 7 (.inl (by omega))).trans hc7
        have hd8 := (hout 8 (.inl (by omega))).trans hc8
        have hd41 := (hout 41 (.inr (by omega))).trans hc41
        have hdf : ∀ k, (w3.drew.setCells (w.heap.size + 1 + 1) 9 (idF l.pack)).frozen? ⟨w.heap.size + 1 + 1, k, none⟩ = false := fun k => (World.frozen?_setCells _ _ _ w3.drew _).trans (hf k)
        clear hsx hw9 hpz hpo hout
        go_region_held3 (fun w' => w'.rangeAt w.heap.size 9 (idF l.pack) ∧ w'.cell? ⟨w.heap.size, 7, none⟩ = some (.int .i64 l.off) ∧ w'.cell? ⟨w.heap.size, 8, none⟩ = some (.int .i64 l.total) ∧ w'.cell? ⟨w.heap.size, 41, none⟩ = some (.slice s.da s.dn s.dc) ∧ w'.there (w.heap.size + 1 + 1) 9 32) (first | assumption | (with_reducible exact keep5d (by assumption)) | (with_reducible exact keep5 (by assumption) hne _ _) | (with_reducible exact keep5 (keep5d (by assumption)) hne _ _) | (with_reducible exact keep5c (by assumption) hne _ _)) (fail)
        have HC := Lib.hid (show ((((w3.drew.setCells (w.heap.size + 1 + 1) 9 (idF l.pack)).setCell ⟨w.heap.size + 1 + 1, 7, none⟩ (.int .i64 l.off)).setCell ⟨w.heap.size + 1 + 1, 8, none⟩ (.int .i64 l.total)).setCell ⟨w.heap.size + 1 + 1, 41, none⟩ (.slice s.da s.dn s.dc)).heap[w.heap.size + 1 + 1]? = some (.cells (letC (bareL l) (bareS l s)) 28 (0, 0)) from (heap_setCell_same _ _ 41 _ _ (.slice s.da s.dn s.dc) (heap_setCell_same _ _ 8 _ _ (.int .i64 l.total) (heap_setCell_same _ _ 7 _ _ (.int .i64 l.off) (heap_setCells (idF l.pack) 9 w3.drew _ HQ.out (by rw [idF_len HP.out, letC_size _ _ rfl]; omega))))).trans (by rw [content4 l s hk4 HP.out]))
        have hg9 : w3.grownBy ((((w3.drew.setCells (w.heap.size + 1 + 1) 9 (idF l.pack)).setCell ⟨w.heap.size + 1 + 1, 7, none⟩ (.int .i64 l.off)).setCell ⟨w.heap.size + 1 + 1, 8, none⟩ (.int .i64 l.total)).setCell ⟨w.heap.size + 1 + 1, 41, none⟩ (.slice s.da s.dn s.dc)) (some (w.heap.size + 1 + 1)) := grown_trans (show w3.grownBy w3.drew _ from ⟨rfl, rfl, rfl, Nat.le_refl _, fun _ _ _ => rfl⟩) (grown_trans (grown_setCells _ _ _ _) (grown_trans (grown_set _ _ _ _) (grown_trans (grown_set _ _ _ _) (grown_set _ _ _ _))))
        have HY9 := Lib.hid (show ((((w3.drew.setCells (w.heap.size + 1 + 1) 9 (idF l.pack)).setCell ⟨w.heap.size + 1 + 1, 7, none⟩ (.int .i64 l.off)).setCell ⟨w.heap.size + 1 + 1, 8, none⟩ (.int .i64 l.total)).setCell ⟨w.heap.size + 1 + 1, 41, none⟩ (.slice s.da s.dn s.dc)).heap[w.heap.size + 1]? = some (.cells (letC zeroL LS.none) 28 (0, 0)) from (hg9.block _ (blk_cell HY.out).2.2 (by simp)).trans HY.out)
        have HB9 := Lib.hid (show Below w.heap.size w ((((w3.drew.setCells (w.heap.size + 1 + 1) 9 (idF l.pack)).setCell ⟨w.heap.size + 1 + 1, 7, none⟩ (.int .i64 l.off)).setCell ⟨w.heap.size + 1 + 1, 8, none⟩ (.int .i64 l.total)).setCell ⟨w.heap.size + 1 + 1, 41, none⟩ (.slice s.da s.dn s.dc)) from hB.grown hg9 hB.size (fun k hk => by cases hk; omega))
        clear hg9
        have hq9 := seg_let HC.out HPB.out
        generalize (((w3.drew.setCells (w.heap.size + 1 + 1) 9 (idF l.pack)).setCell ⟨w.heap.size + 1 + 1, 7, none⟩ (.int .i64 l.off)).setCell ⟨w.heap.size + 1 + 1, 8, none⟩ (.int .i64 l.total)).setCell ⟨w.heap.size + 1 + 1, 41, none⟩ (.slice s.da s.dn s.dc) = W9 at *
        (repeat ((fail_if_success (with_reducible show wpList _ _ _ (Oper.mk _ (Op.store _ _ _) _ _ _ _ :: _) _ _)); first | go_values | go_skip | go_guarded | go_step | go_upon))
        refine wpList_store_seg rfl 28 _ _ rfl rfl (w.heap.size + 1) 0 rfl (letC (bareL l) (bareS l s)) rfl 28 (letC zeroL LS.none) HY9.out (by rw [letC_size _ _ HPB.out, letC_size _ _ rfl]; decide) (info_let' _ _ HPB.out) (letC_one _ _) (letC (bareL l) (bareS l s)) (put_whole _ _ (by rw [letC_size _ _ HPB.out, letC_size _ _ rfl])) ?_
        intro w5 hr hg5 _
        go_wp2_with fail
        refine bodyPost_ret (results_cell_row rfl _ _ _ 28 _ (0, 0) _ rfl hr Try.underlying28 rfl (info_let' _ _ HPB.out)) rfl ⟨rfl, ?_⟩
        exact HB9.out.grown hg5 HB9.out.size (fun k hk => by cases hk; omega)
      · have e4 : (l.kind == 4) = false := by simp [hk4]
        go_upto_region 9 with fail
        have HC := Lib.hid (show (w3).heap[w.heap.size + 1 + 1]? = some (.cells (letC (bareL l) (bareS l s)) 28 (0, 0)) from HQ.out.trans (by rw [content0 l s hk2 hk3 hk4]))
        have hg9 : w3.grownBy (w3) (some (w.heap.size + 1 + 1)) := grown_refl w3 _
        have HY9 := Lib.hid (show (w3).heap[w.heap.size + 1]? = some (.cells (letC zeroL LS.none) 28 (0, 0)) from (hg9.block _ (blk_cell HY.out).2.2 (by simp)).trans HY.out)
        have HB9 := Lib.hid (show Below w.heap.size w (w3) from hB.grown hg9 hB.size (fun k hk => by cases hk; omega))
        clear hg9
        have hq9 := seg_let HC.out HPB.out
        generalize w3 = W9 at *
        (repeat ((fail_if_success (with_reducible show wpList _ _ _ (Oper.mk _ (Op.store _ _ _) _ _ _ _ :: _) _ _)); first | go_values | go_skip | go_guarded | go_step | go_upon))
        refine wpList_store_seg rfl 28 _ _ rfl rfl (w.heap.size + 1) 0 rfl (letC (bareL l) (bareS l s)) rfl 28 (letC zeroL LS.none) HY9.out (by rw [letC_size _ _ HPB.out, letC_size _ _ rfl]; decide) (info_let' _ _ HPB.out) (letC_one _ _) (letC (bareL l) (bareS l s)) (put_whole _ _ (by rw [letC_size _ _ HPB.out, letC_size _ _ rfl])) ?_
        intro w5 hr hg5 _
        go_wp2_with fail
        refine bodyPost_ret (results_cell_row rfl _ _ _ 28 _ (0, 0) _ rfl hr Try.underlying28 rfl (info_let' _ _ HPB.out)) rfl ⟨rfl, ?_⟩
        exact HB9.out.grown hg5 HB9.out.size (fun k hk => by cases hk; omega)

end Go.Proofs.Ytfjbmgfkfeehnaa
