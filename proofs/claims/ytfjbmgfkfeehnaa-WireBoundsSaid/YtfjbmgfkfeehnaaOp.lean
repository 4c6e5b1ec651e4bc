/- Letters as cells; a piece of a block that is loaded as a whole. -/
import Derived.Test.YtfjbmgfkfeehnaaNames
import Derived.Test.YtfjbmgfkfeehnaaEqId
import Derived.Lib.QuietBelow
namespace Go.Proofs.Ytfjbmgfkfeehnaa
open Go.RowKit

theorem name_inj {a b : ByteArray} (h : (a.toList == b.toList) = true) : a = b := by
  rw [beq_iff_eq, ByteArray.toList_eq, ByteArray.toList_eq] at h
  cases a
  cases b
  congr
  exact Array.toList_inj.1 h

/-- A branch and its commit. -/
structure RfL where
  name : ByteArray
  id : List Int
def rfEq (a b : RfL) : Bool := (a.name.toList == b.name.toList) && decide (a.id = b.id)
theorem rfEq_iff (a b : RfL) : rfEq a b = true ↔ a = b := by
  constructor
  · intro h
    simp only [rfEq, Bool.and_eq_true, decide_eq_true_eq] at h
    have := name_inj h.1
    cases a; cases b; simp_all
  · rintro rfl; simp [rfEq]
instance : DecidableEq RfL := fun a b => decidable_of_iff _ (rfEq_iff a b)

/-- A letter. -/
structure LetL where
  kind : Int
  from_ : Int
  to_ : Int
  session : Int
  refs : List RfL
  wants : List (List Int)
  haves : List (List Int)
  off : Int
  total : Int
  pack : List Int
  data : List Int
deriving DecidableEq

/-- Rows of elements, k cells each. -/
def rowC {α : Type} (_k : Nat) (f : α → List Value) (l : List α) : List Value := l.flatMap f
theorem rowC_len {α : Type} {k : Nat} {f : α → List Value} : ∀ (l : List α), (∀ x ∈ l, (f x).length = k) → (rowC k f l).length = l.length * k
  | [], _ => by simp [rowC]
  | x :: l, h => by
    have ih := rowC_len (k := k) (f := f) l (fun y hy => h y (List.mem_cons_of_mem _ hy))
    have hx := h x (List.mem_cons_self ..)
    simp only [rowC, List.flatMap_cons, List.length_append, List.length_cons] at ih ⊢
    rw [ih, hx, Nat.succ_mul]
    omega
theorem rowC_at {α : Type} {k : Nat} {f : α → List Value} : ∀ (l : List α), (∀ x ∈ l, (f x).length = k) → ∀ (i : Nat) (h : i < l.length), ((rowC k f l).drop (i * k)).take k = f l[i]
  | [], _, i, h => by simp at h
  | x :: l, hl, 0, h => by
    have hx := hl x (List.mem_cons_self ..)
    simp [rowC, ← hx]
  | x :: l, hl, i + 1, h => by
    have ih := rowC_at (k := k) (f := f) l (fun y hy => hl y (List.mem_cons_of_mem _ hy)) i (by simpa using h)
    have hx := hl x (List.mem_cons_self ..)
    simp only [rowC, List.flatMap_cons, List.getElem_cons_succ] at ih ⊢
    rw [show (i + 1) * k = (f x).length + i * k by rw [Nat.succ_mul, hx]; omega, ← List.drop_drop, List.drop_left]
    exact ih
theorem rowC_snoc {α : Type} {k : Nat} {f : α → List Value} (l : List α) (x : α) : rowC k f (l ++ [x]) = rowC k f l ++ f x := by simp [rowC]

def idF (d : List Int) : List Value := d.map (Value.int .u8)
def rfF (r : RfL) : List Value := .string r.name :: r.id.map (Value.int .u8)
def rfC (r : RfL) : Array Value := ⟨rfF r⟩
theorem idC_eq (d : List Int) : idC d = ⟨idF d⟩ := rfl
theorem idF_len {d : List Int} (h : d.length = 32) : (idF d).length = 32 := by simp [idF, h]
theorem rfF_len {r : RfL} (h : r.id.length = 32) : (rfF r).length = 33 := by simp [rfF, h]

/-- A slice of IDs; of branches. -/
structure Ids (w : World) (a : Option Addr) (n c : Nat) (l : List (List Int)) : Prop where
  row : Sl w 32 a n c (rowC 32 idF l)
  all : ∀ d ∈ l, d.length = 32 ∧ IsBytes d
structure Rfs (w : World) (a : Option Addr) (n c : Nat) (l : List RfL) : Prop where
  row : Sl w 33 a n c (rowC 33 rfF l)
  all : ∀ r ∈ l, (r.id.length = 32 ∧ IsBytes r.id) ∧ r.name.size ≤ 9223372036854775807
theorem Ids.len {w : World} {a : Option Addr} {n c : Nat} {l : List (List Int)} (h : Ids w a n c l) : l.length = n := by
  have := h.row.len
  rw [rowC_len l (fun x hx => idF_len (h.all x hx).1)] at this
  omega
theorem Rfs.len {w : World} {a : Option Addr} {n c : Nat} {l : List RfL} (h : Rfs w a n c l) : l.length = n := by
  have := h.row.len
  rw [rowC_len l (fun x hx => rfF_len (h.all x hx).1.1)] at this
  omega
theorem Ids.below {w w' : World} {a : Option Addr} {n c : Nat} {l : List (List Int)} (h : Ids w a n c l) (hb : Below w.heap.size w w') : Ids w' a n c l := ⟨h.row.below hb, h.all⟩
theorem Rfs.below {w w' : World} {a : Option Addr} {n c : Nat} {l : List RfL} (h : Rfs w a n c l) (hb : Below w.heap.size w w') : Rfs w' a n c l := ⟨h.row.below hb, h.all⟩
theorem Ids.empty (w : World) : Ids w none 0 0 [] := ⟨Sl.empty _ _, fun _ h => by cases h⟩
theorem Rfs.empty (w : World) : Rfs w none 0 0 [] := ⟨Sl.empty _ _, fun _ h => by cases h⟩
theorem Bs.below {w w' : World} {a : Option Addr} {n c : Nat} {l : List Int} (h : Bs w a n c l) (hb : Below w.heap.size w w') : Bs w' a n c l := Sl.below h hb
theorem Bs.alloc {w : World} {a : Option Addr} {n c : Nat} {l : List Int} (h : Bs w a n c l) (o : Obj) : Bs (w.alloc o) a n c l := Sl.alloc h o
theorem Bs.drew {w : World} {a : Option Addr} {n c : Nat} {l : List Int} (h : Bs w a n c l) : Bs w.drew a n c l := Sl.drew h

/-! A piece of a block. -/
def isSeg (w : World) (g o n : Nat) : Bool := match w.heap[g]? with
  | some (.cells cs _ _) => decide (o + n ≤ cs.size)
  | _ => false
def segAt (w : World) (g o n : Nat) : Array Value := match w.heap[g]? with
  | some (.cells cs _ _) => cs.extract o (o + n)
  | _ => #[]
/-- The piece is X. -/
def SegIs (w : World) (g o n : Nat) (X : Array Value) : Prop := isSeg w g o n = true ∧ segAt w g o n = X
theorem seg_kept {W W' : World} {g o n : Nat} {X : Array Value} (h : isSeg W g o n = true ∧ segAt W g o n = X) (hb : W'.heap[g]? = W.heap[g]?) : isSeg W' g o n = true ∧ segAt W' g o n = X := by
  unfold isSeg segAt at *
  rw [hb]
  exact h
theorem seg_lt {W : World} {g o n : Nat} {X : Array Value} (h : isSeg W g o n = true ∧ segAt W g o n = X) : g < W.heap.size := by
  rcases Nat.lt_or_ge g W.heap.size with hl | hl
  · exact hl
  · have := h.1
    unfold isSeg at this
    rw [Array.getElem?_eq_none hl] at this
    cases this
theorem seg_below {W W' : World} {g o n : Nat} {X : Array Value} (h : isSeg W g o n = true ∧ segAt W g o n = X) (hb : Below W.heap.size W W') : isSeg W' g o n = true ∧ segAt W' g o n = X :=
  seg_kept h (hb.block _ (seg_lt h))
theorem seg_regrown {W : World} {g o n : Nat} {X : Array Value} (h : isSeg W g o n = true ∧ segAt W g o n = X) (d : Nat) (os : Array Obj) : isSeg (Sort.grow (redrawn W d) os) g o n = true ∧ segAt (Sort.grow (redrawn W d) os) g o n = X :=
  seg_below h (below_regrown _ _ _)
theorem seg_of {w : World} {g : Nat} {t : TypeId} {cs X : Array Value} {fr : Nat × Nat} (h : w.heap[g]? = some (.cells cs t fr)) (o n : Nat) (hn : o + n ≤ cs.size) (hX : cs.extract o (o + n) = X) : isSeg w g o n = true ∧ segAt w g o n = X := by
  unfold isSeg segAt
  rw [h]
  simp [hn, hX]
/-- Cells that are there are a piece. -/
theorem seg_cells {w : World} {g o n : Nat} {xs : List Value} (hl : xs.length = n) (hn : 0 < n) (h : ∀ j, j < n → w.cell? ⟨g, o + j, none⟩ = xs[j]?) : isSeg w g o n = true ∧ segAt w g o n = ⟨xs⟩ := by
  have h0 := h (n - 1) (by omega)
  rw [List.getElem?_eq_getElem (by omega)] at h0
  unfold World.cell? at h0
  simp only [] at h0
  cases hc : w.heap[g]? with
  | none => simp [hc] at h0
  | some ob =>
    cases ob with
    | cells cs t fr =>
      have hlt : o + (n - 1) < cs.size := by
        rcases Nat.lt_or_ge (o + (n - 1)) cs.size with hh | hh
        · exact hh
        · simp [hc, Array.getElem?_eq_none hh] at h0
      refine seg_of hc o n (by omega) ?_
      apply Array.ext'
      apply List.ext_getElem?
      intro j
      rw [Array.getElem?_toList, Array.getElem?_extract]
      by_cases hj : j < n
      · have := h j hj
        rw [cell_of_row w g (o + j) cs t fr hc] at this
        rw [if_pos (by omega), this]
      · rw [if_neg (by omega), List.getElem?_eq_none (by simp; omega)]
    | _ => simp [hc] at h0
theorem Sl.seg {w : World} {k : Nat} {a : Option Addr} {n c : Nat} {xs : List Value} (h : Sl w k a n c xs) (hn : 0 < n) (hk : 0 < k) :
    ∃ b off, a = some ⟨b, off, none⟩ ∧ ∀ i, i < n → isSeg w b (off + i * k) k = true ∧ segAt w b (off + i * k) k = ⟨(xs.drop (i * k)).take k⟩ := by
  obtain ⟨b, off, ha, hc⟩ := h.cells hn
  refine ⟨b, off, ha, fun i hi => ?_⟩
  have hl := h.len
  have hik : i * k + k ≤ n * k := by
    have := Nat.mul_le_mul_right k (show i + 1 ≤ n by omega)
    rw [Nat.succ_mul] at this
    omega
  refine seg_cells (by simp; omega) hk (fun j hj => ?_)
  rw [Nat.add_assoc, hc (i * k + j) (by omega), List.getElem?_take_of_lt hj, List.getElem?_drop]
theorem Ids.seg {w : World} {a : Option Addr} {n c : Nat} {l : List (List Int)} (h : Ids w a n c l) (hn : 0 < n) :
    ∃ b off, a = some ⟨b, off, none⟩ ∧ ∀ (i : Nat) (d : List Int), l[i]? = some d → (d.length = 32 ∧ IsBytes d) ∧ isSeg w b (off + i * 32) 32 = true ∧ segAt w b (off + i * 32) 32 = idC d := by
  obtain ⟨b, off, ha, hc⟩ := h.row.seg hn (by omega)
  refine ⟨b, off, ha, fun i d hd => ?_⟩
  obtain ⟨hi, rfl⟩ := List.getElem?_eq_some_iff.1 hd
  refine ⟨h.all _ (List.getElem_mem hi), ?_⟩
  have := hc i (by have := h.len; omega)
  rw [rowC_at l (fun x hx => idF_len (h.all x hx).1) i hi] at this
  exact this
theorem Rfs.seg {w : World} {a : Option Addr} {n c : Nat} {l : List RfL} (h : Rfs w a n c l) (hn : 0 < n) :
    ∃ b off, a = some ⟨b, off, none⟩ ∧ ∀ (i : Nat) (r : RfL), l[i]? = some r → ((r.id.length = 32 ∧ IsBytes r.id) ∧ r.name.size ≤ 9223372036854775807) ∧ isSeg w b (off + i * 33) 33 = true ∧ segAt w b (off + i * 33) 33 = rfC r := by
  obtain ⟨b, off, ha, hc⟩ := h.row.seg hn (by omega)
  refine ⟨b, off, ha, fun i r hr => ?_⟩
  obtain ⟨hi, rfl⟩ := List.getElem?_eq_some_iff.1 hr
  refine ⟨h.all _ (List.getElem_mem hi), ?_⟩
  have := hc i (by have := h.len; omega)
  rw [rowC_at l (fun x hx => rfF_len (h.all x hx).1.1) i hi] at this
  exact this

/-! Loads of what is kept whole. -/
theorem run_load_piece (w : World) (g o n : Nat) (t : TypeId) (hl : ∀ cs t' fr, w.heap[g]? = some (.cells cs t' fr) → o + n ≤ cs.size → (loadVar t ⟨g, o, none⟩).run Try.prog w = .ok (.agg (cs.extract o (o + n))) w) (h : isSeg w g o n = true) :
    (Instr.loadAt t (.pointer (some ⟨g, o, none⟩))).run Try.prog w = .ok (.agg (segAt w g o n)) w := by
  obtain ⟨cs, t', fr, hc, hn, he⟩ : ∃ cs t' fr, w.heap[g]? = some (.cells cs t' fr) ∧ o + n ≤ cs.size ∧ segAt w g o n = cs.extract o (o + n) := by
    unfold isSeg at h
    unfold segAt
    split at h
    · rename_i cs t' fr hc
      exact ⟨cs, t', fr, hc, of_decide_eq_true h, rfl⟩
    · cases h
  rw [he]
  have := hl cs t' fr hc hn
  simp only [Instr.loadAt, Instr.sureAddr, Sem.run_bind, Sem.run_pure, Result.andThen_ok, this]
theorem info_rf : (Try.prog.info? 52).map (·.size) = some 33 := by kernel_rfl
theorem info_let : (Try.prog.info? 28).map (·.size) = some 42 := by kernel_rfl
theorem size_arr : (Try.prog.info? 24).map (·.size) = some 32 := by kernel_rfl
def loadId (v : Value) : Sem Value := Instr.loadAt 25 v
def loadArr (v : Value) : Sem Value := Instr.loadAt 24 v
def loadRf (v : Value) : Sem Value := Instr.loadAt 52 v
def loadLet (v : Value) : Sem Value := Instr.loadAt 28 v
@[go_sem ↓ high] theorem loadAt_Id (v : Value) : Instr.loadAt 25 v = loadId v := rfl
@[go_sem ↓ high] theorem loadAt_Arr (v : Value) : Instr.loadAt 24 v = loadArr v := rfl
@[go_sem ↓ high] theorem loadAt_Rf (v : Value) : Instr.loadAt 52 v = loadRf v := rfl
@[go_sem ↓ high] theorem loadAt_Let (v : Value) : Instr.loadAt 28 v = loadLet v := rfl
@[go_sem] theorem run_loadId (w : World) (g o : Nat) (h : isSeg w g o 32 = true) : (loadId (.pointer (some ⟨g, o, none⟩))).run Try.prog w = .ok (.agg (segAt w g o 32)) w := run_load_piece w g o _ _ (fun cs t' fr hc hn => run_loadVar_seg w g o t' _ cs fr _ _ hc hn Try.underlying25 rfl size_id) h
@[go_sem] theorem run_loadArr (w : World) (g o : Nat) (h : isSeg w g o 32 = true) : (loadArr (.pointer (some ⟨g, o, none⟩))).run Try.prog w = .ok (.agg (segAt w g o 32)) w := run_load_piece w g o _ _ (fun cs t' fr hc hn => run_loadVar_seg w g o t' _ cs fr _ _ hc hn Try.underlying24 rfl size_arr) h
@[go_sem] theorem run_loadRf (w : World) (g o : Nat) (h : isSeg w g o 33 = true) : (loadRf (.pointer (some ⟨g, o, none⟩))).run Try.prog w = .ok (.agg (segAt w g o 33)) w := run_load_piece w g o _ _ (fun cs t' fr hc hn => run_loadVar_seg w g o t' _ cs fr _ _ hc hn Try.underlying52 rfl info_rf) h
@[go_sem] theorem run_loadLet (w : World) (g o : Nat) (h : isSeg w g o 42 = true) : (loadLet (.pointer (some ⟨g, o, none⟩))).run Try.prog w = .ok (.agg (segAt w g o 42)) w := run_load_piece w g o _ _ (fun cs t' fr hc hn => run_loadVar_seg w g o t' _ cs fr _ _ hc hn Try.underlying28 rfl info_let) h
@[go_sem] theorem isSeg_drew (w : World) (g o n : Nat) : isSeg w.drew g o n = isSeg w g o n := rfl
@[go_sem] theorem segAt_drew (w : World) (g o n : Nat) : segAt w.drew g o n = segAt w g o n := rfl

theorem eqItems_id' (d : Nat) (a b : List Int) (ha : a.length = 32) (hb : b.length = 32) (w : World) : ∀ is : List Nat, (∀ i ∈ is, i < 32) →
    (Op.eqItems (d + 1) 5 1 (idC a) (idC b) is).run Try.prog w = .ok (is.all fun i => a[i]? == b[i]?) w
  | [], _ => by simp [Op.eqItems]
  | i :: is, h => by
    have hi := h i (List.mem_cons_self ..)
    have ih := eqItems_id' d a b ha hb w is (fun j hj => h j (List.mem_cons_of_mem _ hj))
    have e1 := part_u8 a i (a[i]'(by omega)) (List.getElem?_eq_getElem (by omega)) w
    have e2 := part_u8 b i (b[i]'(by omega)) (List.getElem?_eq_getElem (by omega)) w
    have e3 : (Op.equalIn (d + 1) 5 (.int .u8 (a[i]'(by omega))) (.int .u8 (b[i]'(by omega)))).run Try.prog w = .ok (a[i]'(by omega) == b[i]'(by omega)) w := run_equalIn_int w d 5 .u8 .u8 _ _ Try.underlying5
    simp only [Op.eqItems, Nat.mul_one, Sem.run_bind, e1, e2, e3, Result.andThen_ok, List.all_cons]
    rw [List.getElem?_eq_getElem (show i < a.length by omega), List.getElem?_eq_getElem (show i < b.length by omega)]
    by_cases he : a[i]'(by omega) = b[i]'(by omega)
    · simp [he, ih]
    · have hf : (a[i]'(by omega) == b[i]'(by omega)) = false := by simpa using he
      simp [hf]
theorem equalIn_id' (d : Nat) (t : TypeId) (ht : Try.prog.underlying t = some (.array 32 5)) (a b : List Int) (ha : a.length = 32) (hb : b.length = 32) (w : World) :
    (Op.equalIn (d + 2) t (.agg (idC a)) (.agg (idC b))).run Try.prog w = .ok (decide (a = b)) w := by
  obtain ⟨i0, hi⟩ := info_u8'
  rw [run_equalIn_array w (d + 1) (idC a) (idC b) ht hi]
  have hc : Try.prog.cellsOf 5 = 1 := by kernel_rfl
  rw [hc, eqItems_id' d a b ha hb w _ (fun i hi => by simpa using hi), all_range a b 32 ha hb]
theorem part_str (r : RfL) (w : World) : (part 9 (rfC r) 0).run Try.prog w = .ok (.string r.name) w := by
  have ha : (isAgg 9).run Try.prog w = .ok false w := by
    unfold isAgg
    rw [Sem.run_bind, run_underlying Try.underlying9 w]
    simp
  unfold part
  rw [Sem.run_bind, ha]
  simp [rfC, rfF]
theorem part_agg (t : TypeId) (d : TypeDesc) (n : Nat) (hu : Try.prog.underlying t = some d) (hd : (match d with | .array _ _ => true | _ => false) = true) (hn : (Try.prog.info? t).map (·.size) = some n) (X : Array Value) (o : Nat) (w : World) :
    (part t X o).run Try.prog w = .ok (.agg (X.extract o (o + n))) w := by
  have hag : (isAgg t).run Try.prog w = .ok true w := by
    unfold isAgg
    rw [Sem.run_bind, run_underlying hu w]
    cases d <;> simp_all
  cases hq : Try.prog.info? t with
  | none => simp [hq] at hn
  | some i =>
    have hs : i.size = n := by simpa [hq] using hn
    unfold part
    rw [Sem.run_bind, hag]
    simp [sizeOf, typeInfo, hq, hs]
theorem rfC_id (r : RfL) (h : r.id.length = 32) : (rfC r).extract 1 33 = idC r.id := by
  apply Array.ext'
  simp only [rfC, rfF, idC, Array.toList_extract, List.extract]
  simp
  rw [List.take_of_length_le (by simp [h])]
@[go_sem ↓ high] theorem eql_rf (a b : RfL) (ha : a.id.length = 32) (hb : b.id.length = 32) (w : World) : (Op.equalIn 10000 52 (.agg (rfC a)) (.agg (rfC b))).run Try.prog w = .ok (decide (a = b)) w := by
  rw [run_equalIn_struct (P := Try.prog) w 9999 52 _ _ (by kernel_rfl) (by kernel_rfl)]
  rw [show Try.prog.fieldsOf 52 = _ from by unfold Program.fieldsOf; rw [Try.underlying52]]
  have e1 : ∀ w, (Op.equalIn 9999 9 (.string a.name) (.string b.name)).run Try.prog w = .ok (a.name.toList == b.name.toList) w := fun w => run_equalIn_string w 9998 9 _ _ Try.underlying9
  have e2 : ∀ w, (Op.equalIn 9999 25 (.agg (idC a.id)) (.agg (idC b.id))).run Try.prog w = .ok (decide (a.id = b.id)) w := equalIn_id' 9997 25 Try.underlying25 a.id b.id ha hb
  have p1 : ∀ (r : RfL), r.id.length = 32 → ∀ (w : World), (part 25 (rfC r) 1).run Try.prog w = .ok (.agg (idC r.id)) w := fun r hr w => by
    rw [part_agg 25 _ 32 Try.underlying25 rfl size_id, rfC_id r hr]
  have hd : decide (a = b) = ((a.name.toList == b.name.toList) && decide (a.id = b.id)) := by
    rw [Bool.eq_iff_iff, decide_eq_true_iff, ← rfEq_iff]; rfl
  rw [hd]
  generalize decide (a.id = b.id) = q at *
  simp only [Op.eqFields, ne_eq, String.reduceEq, not_false_eq_true, if_true, Sem.run_bind, part_str, e1, Result.andThen_ok]
  cases (a.name.toList == b.name.toList)
  · simp
  · cases q <;> simp [p1 a ha, p1 b hb, e2]

end Go.Proofs.Ytfjbmgfkfeehnaa
