/- Words for walks: what a call leaves; slices as lists of cells; pieces of blocks. -/
import Derived.Test.YtfjbmgfkfeehnaaRows
import Derived.Test.YtfjbmgfkfeehnaaSpec
import Derived.WalkKit
import Derived.WalkSpells
import Derived.WalkLawsBesides
import Derived.BigQuiet
import Derived.Deep.QuietTactic
import Derived.Deep.RegionHeld3
import Derived.Deep.LoopGhost
import Derived.Deep.Light
import Derived.Lib.Hide
import Derived.Lib.SliceRun
import Derived.Lib.AppendStr
import Derived.Laws.AppendOwnNone
namespace Go.Proofs.Ytfjbmgfkfeehnaa
open Go.RowKit

/-- Returned v; nothing that was there has turned. -/
def Ret (w : World) (v : Value) (e : Ending) (w' : World) : Prop := e = .returned v ∧ Below w.heap.size w w'
theorem Ret.mk {w w' : World} {v u : Value} (h : u = v) (hb : Below w.heap.size w w') : Ret w v (.returned u) w' := ⟨by rw [h], hb⟩

/-- A slice leads to these cells, k an element. -/
structure Sl (w : World) (k : Nat) (a : Option Addr) (n c : Nat) (xs : List Value) : Prop where
  len : xs.length = n * k
  le : n ≤ c
  cap : c ≤ maxLen
  nil : a = none → c = 0
  cells : 0 < n → ∃ b off, a = some ⟨b, off, none⟩ ∧ ∀ j, j < n * k → w.cell? ⟨b, off + j, none⟩ = xs[j]?

/-- A slice of bytes. -/
def Bs (w : World) (a : Option Addr) (n c : Nat) (l : List Int) : Prop := Sl w 1 a n c (l.map (Value.int .u8))
theorem Bs.length {w : World} {a : Option Addr} {n c : Nat} {l : List Int} (h : Bs w a n c l) : l.length = n := by have := h.len; simpa using this

theorem Sl.same {w w' : World} {k : Nat} {a : Option Addr} {n c : Nat} {xs : List Value} (h : Sl w k a n c xs)
    (hs : ∀ b o v, w.cell? ⟨b, o, none⟩ = some v → w'.cell? ⟨b, o, none⟩ = some v) : Sl w' k a n c xs := by
  refine ⟨h.len, h.le, h.cap, h.nil, fun hn => ?_⟩
  obtain ⟨b, off, ha, hc⟩ := h.cells hn
  refine ⟨b, off, ha, fun j hj => ?_⟩
  have hl := h.len
  rw [List.getElem?_eq_getElem (by omega)]
  exact hs _ _ _ ((hc j hj).trans (List.getElem?_eq_getElem (by omega)))
theorem cell_lt {w : World} {b o : Nat} {v : Value} (h : w.cell? ⟨b, o, none⟩ = some v) : b < w.heap.size := block_lt_of_cell (a := ⟨b, o, none⟩) h
theorem Below.old {B : Nat} {w w' : World} (hb : Below B w w') (hB : w.heap.size ≤ B) {b o : Nat} {v : Value} (h : w.cell? ⟨b, o, none⟩ = some v) : w'.cell? ⟨b, o, none⟩ = some v :=
  (hb.cell (p := ⟨b, o, none⟩) (Nat.lt_of_lt_of_le (cell_lt h) hB)).trans h
theorem Sl.below {w w' : World} {k : Nat} {a : Option Addr} {n c : Nat} {xs : List Value} (h : Sl w k a n c xs) (hb : Below w.heap.size w w') : Sl w' k a n c xs :=
  h.same fun _ _ _ hc => Below.old hb (Nat.le_refl _) hc
theorem Sl.alloc {w : World} {k : Nat} {a : Option Addr} {n c : Nat} {xs : List Value} (h : Sl w k a n c xs) (o : Obj) : Sl (w.alloc o) k a n c xs :=
  h.below ((Below.refl _ _).alloc (Nat.le_refl _) _)
theorem Sl.drew {w : World} {k : Nat} {a : Option Addr} {n c : Nat} {xs : List Value} (h : Sl w k a n c xs) : Sl w.drew k a n c xs :=
  h.below ((Below.refl _ _).drew)

theorem Sl.empty (w : World) (k : Nat) : Sl w k none 0 0 [] := ⟨by simp, Nat.le_refl _, by simp [maxLen], fun _ => rfl, fun h => absurd h (by omega)⟩

/-- What is owned is a slice. -/
theorem own_form {w : World} {base e k : Nat} {v : Value} {n : Nat} {xs : List Value} (h : w.ownsRow base e k v n xs) : ∃ a c, v = .slice a n c ∧ Sl w k a n c xs := by
  obtain ⟨hl, h | ⟨g, cap, cur, hv, hg, hh, hn, hc, hs, ht⟩⟩ := h
  · obtain ⟨rfl, rfl⟩ := h
    refine ⟨none, 0, rfl, ⟨hl, Nat.le_refl _, by simp [maxLen], fun _ => rfl, fun h => absurd h (by omega)⟩⟩
  · refine ⟨some ⟨g, 0, none⟩, cap, hv, ⟨hl, hn, hc, fun h => (by cases h), fun _ => ⟨g, 0, rfl, fun j hj => ?_⟩⟩⟩
    have := World.ownsRow.cellAt (w := w) (base := base) (e := e) (size := k) (n := n) (xs := xs) (g := g) (cap := cap) ⟨hl, .inr ⟨g, cap, cur, rfl, hg, hh, hn, hc, hs, ht⟩⟩ j hj
    simpa using this
theorem own_sl {w : World} {base e k : Nat} {a : Option Addr} {n c m : Nat} {xs : List Value} (h : w.ownsRow base e k (.slice a n c) m xs) : Sl w k a n c xs := by
  obtain ⟨a', c', hv, hs⟩ := own_form h
  cases hv
  exact hs
theorem own_base {w : World} {base base' e k : Nat} {v : Value} {n : Nat} {xs : List Value} (h : w.ownsRow base e k v n xs) (hb : base' ≤ base) : w.ownsRow base' e k v n xs := by
  obtain ⟨hl, h | ⟨g, cap, cur, hv, hg, r⟩⟩ := h
  · exact ⟨hl, .inl h⟩
  · exact ⟨hl, .inr ⟨g, cap, cur, hv, Nat.le_trans hb hg, r⟩⟩
theorem own_below {w w' : World} {base e k : Nat} {v : Value} {n : Nat} {xs : List Value} (h : w.ownsRow base e k v n xs) (hb : Below w.heap.size w w') : w'.ownsRow base e k v n xs := by
  obtain ⟨hl, h | ⟨g, cap, cur, hv, hg, hh, r⟩⟩ := h
  · exact ⟨hl, .inl h⟩
  · refine ⟨hl, .inr ⟨g, cap, cur, hv, hg, ?_, r⟩⟩
    have hlt : g < w.heap.size := by
      rcases Nat.lt_or_ge g w.heap.size with h | h
      · exact h
      · rw [Array.getElem?_eq_none h] at hh; cases hh
    rw [hb.block g hlt]; exact hh

/-- A new slice of elements of type e (k cells each) is handed back; nothing that was there has turned. -/
def RetOwn (w : World) (e k : Nat) (xs : List Value) (en : Ending) (w' : World) : Prop :=
  ∃ a n c, en = .returned (.slice a n c) ∧ Below w.heap.size w w' ∧ w'.ownsRow w.heap.size e k (.slice a n c) n xs
/-- New bytes are handed back. -/
def RetB (w : World) (l : List Int) : Ending → World → Prop := RetOwn w 5 1 (l.map (Value.int .u8))

theorem RetOwn.mk {w w' : World} {e k n : Nat} {xs : List Value} {v : Value} (hb : Below w.heap.size w w') (ho : w'.ownsRow w.heap.size e k v n xs) : RetOwn w e k xs (.returned v) w' := by
  obtain ⟨a, c, rfl, _⟩ := own_form ho
  exact ⟨a, n, c, rfl, hb, ho⟩
theorem RetB.mk {w w' : World} {l : List Int} {n : Nat} {xs : List Value} {v : Value} (hb : Below w.heap.size w w') (ho : w'.ownsRow w.heap.size 5 1 v n xs) (hx : xs = l.map (Value.int .u8)) : RetB w l (.returned v) w' := by
  subst hx
  exact RetOwn.mk hb ho
theorem own_bs {w : World} {base : Nat} {a : Option Addr} {n c m : Nat} {l : List Int} (h : w.ownsRow base 5 1 (.slice a n c) m (l.map (Value.int .u8))) : Bs w a n c l := own_sl h

/-! Old cells behind a call, as rules of a walk. -/
theorem bcell {W w1 : World} (hb : Below W.heap.size W w1) :
    (∀ b o, b < W.heap.size → w1.cell? ⟨b, o, none⟩ = W.cell? ⟨b, o, none⟩) ∧ (∀ b o, b < W.heap.size → w1.frozen? ⟨b, o, none⟩ = W.frozen? ⟨b, o, none⟩) ∧ W.heap.size ≤ w1.heap.size :=
  ⟨fun b o h => hb.cell (p := ⟨b, o, none⟩) h, fun b o h => hb.frozen (p := ⟨b, o, none⟩) h, hb.size⟩

theorem Below.grow1 {w w' : World} {o : Obj} (hb : Below (w.alloc o).heap.size (w.alloc o) w') : Below w.heap.size w w' :=
  ((Below.refl _ _).alloc (Nat.le_refl _) o).trans (hb.mono (by simp))
theorem Below.next {w w1 w2 : World} (h : Below w.heap.size w w1) (h' : Below w1.heap.size w1 w2) : Below w.heap.size w w2 := h.trans (h'.mono h.size)

@[go_sem] theorem eql_nil_u8 (w : World) (a : Option Addr) (n c n' c' : Nat) : (binOp .eql 26 (.slice a n c) (.slice none n' c')).run Try.prog w = .ok (.bool a.isNone) w := Lib.run_eql_slice_nil w _ _ a n c n' c' Try.underlying26

/-- min and max under names of their own: a walk doesn't part on them. -/
def mxI (a b : Int) : Int := if b > a then b else a
def mnI (a b : Int) : Int := if b < a then b else a
theorem mxI_eq (a b : Int) : mxI a b = max a b := by unfold mxI; omega
theorem mnI_eq (a b : Int) : mnI a b = min a b := by unfold mnI; omega
@[go_sem ↓ high] theorem run_max_I {P : Program} (w : World) (ts : Array TypeId) (t : TypeId) (k k' : IntKind) (x y : Int) : (Builtin.max_ ts t #[.int k x, .int k' y]).run P w = .ok (.int k (mxI x y)) w := by
  simp [Builtin.max_, Builtin.max2, mxI]
@[go_sem ↓ high] theorem run_min_I {P : Program} (w : World) (ts : Array TypeId) (t : TypeId) (k k' : IntKind) (x y : Int) : (Builtin.min_ ts t #[.int k x, .int k' y]).run P w = .ok (.int k (mnI x y)) w := by
  simp [Builtin.min_, Builtin.min2, mnI]

theorem or_shl (acc i : Nat) (x : Int) (hi : i ≤ 8) (ha : acc < 128 ^ i) (h0 : 0 ≤ x) (h1 : x < 128) : bits .or .u64 (acc : Int) (IntKind.u64.wrap (x * 2 ^ (7 * i))) = ((acc + x.toNat * 128 ^ i : Nat) : Int) := by
  have hp : (128 : Nat) ^ i = 2 ^ (7 * i) := by rw [Nat.pow_mul]
  have hpi : (128 : Nat) ^ i ≤ 72057594037927936 := Nat.le_trans (Nat.pow_le_pow_right (by omega) hi) (by decide)
  obtain ⟨y, rfl⟩ := Int.eq_ofNat_of_zero_le h0
  have hy : y ≤ 127 := by omega
  have hprod : y * 128 ^ i ≤ 127 * 72057594037927936 := Nat.mul_le_mul hy hpi
  have hs : IntKind.u64.wrap ((y : Int) * 2 ^ (7 * i)) = ((y * 128 ^ i : Nat) : Int) := by
    have e : (y : Int) * 2 ^ (7 * i) = ((y * 128 ^ i : Nat) : Int) := by rw [hp]; push_cast; rfl
    rw [e]
    exact IntWalk.u64_in _ ⟨by omega, by omega⟩
  rw [hs, bits_or_u64_nat _ _ (by omega) (by omega)]
  have := Nat.two_pow_add_eq_or_of_lt (i := 7 * i) (b := acc) (by rw [← hp]; exact ha) y
  simp only [Int.toNat_natCast]
  rw [Nat.or_comm, hp, Nat.mul_comm y, ← this]
  omega
theorem and_127 (b : Int) (h0 : 0 ≤ b) (h1 : b < 256) : bits .and .u8 b 127 = b % 128 := by
  obtain ⟨y, rfl⟩ := Int.eq_ofNat_of_zero_le h0
  rw [show (127 : Int) = ((127 : Nat) : Int) from rfl, u8_and_nat _ _ (by omega) (by omega)]
  have h : ∀ x : Fin 256, x.val &&& 127 = x.val % 128 := by decide +kernel
  have := h ⟨y, by omega⟩
  simp only [] at this
  rw [this]; omega

theorem info_u8 : (Try.prog.info? 5).map (fun i => (i.zero, i.size, i.bytes)) = some (some (.int .u8 0), 1, 1) := by kernel_rfl

/-- 'append(s, x)' of one byte, s the call's own. -/
theorem app_byte {ops : Array Oper} {rest : List Oper} {o : Oper} {a : Act} {w : World} {Q : Exit → Act → World → Prop} (hgd : o.guard = none) (s x : Operand)
    (ho : o.op = .call { callee := .builtin .append, args := #[s, x], argTypes := #[26, 26] })
    (base : Nat) (v : Value) (n : Nat) (xs : List Value) (hs : a.eval s = v) (hown : w.ownsRow base 5 1 v n xs) (g c : Nat) (u : Int) (hx : a.eval x = .slice (some ⟨g, 0, none⟩) 1 c)
    (hc : w.cell? ⟨g, 0, none⟩ = some (.int .u8 u)) (hn : n + 1 ≤ 140737488355328) (hbase : base ≤ w.heap.size)
    (h : ∀ v' w', w'.ownsRow base 5 1 v' (n + 1) (xs ++ [.int .u8 u]) → w.grownBy w' v.ownBlock → wpList Try.prog ops Q rest (a.put o.dst v') w') : wpList Try.prog ops Q (o :: rest) a w := by
  obtain ⟨i0, hi, hz0, hz1, hz2⟩ := info_parts info_u8
  exact wpList_append_own w hgd s x 26 ho base 5 i0 (.int .u8 0) 1 1 Try.underlying26 hi hz0 hz1 hz2 rfl (by decide) v n xs hs hown ⟨g, 0, none⟩ 1 c [.int .u8 u] hx rfl
    (fun j y hj => by
      match j, hj with
      | 0, hj => simp at hj; subst hj; simpa [Addr.add] using hc
      | _ + 1, hj => simp at hj)
    (fun y hy => by simp at hy; subst hy; rfl) (by unfold maxLen; omega) (by omega) hbase fun v' w' h1 h2 _ => h v' w' h1 h2

/-- 'append(s, xs...)' of bytes, s the call's own. -/
theorem app_bytes {ops : Array Oper} {rest : List Oper} {o : Oper} {a : Act} {w : World} {Q : Exit → Act → World → Prop} (hgd : o.guard = none) (s x : Operand)
    (ho : o.op = .call { callee := .builtin .append, args := #[s, x], argTypes := #[26, 26] })
    (base : Nat) (v : Value) (n : Nat) (xs : List Value) (hs : a.eval s = v) (hown : w.ownsRow base 5 1 v n xs) (ad : Addr) (m c : Nat) (l : List Int) (hx : a.eval x = .slice (some ad) m c)
    (hc : Bs w (some ad) m c l) (hn : n + m ≤ 140737488355328) (hbase : base ≤ w.heap.size)
    (h : ∀ v' w', w'.ownsRow base 5 1 v' (n + m) (xs ++ l.map (Value.int .u8)) → w.grownBy w' v.ownBlock → wpList Try.prog ops Q rest (a.put o.dst v') w') : wpList Try.prog ops Q (o :: rest) a w := by
  obtain ⟨i0, hi, hz0, hz1, hz2⟩ := info_parts info_u8
  refine wpList_append_own w hgd s x 26 ho base 5 i0 (.int .u8 0) 1 1 Try.underlying26 hi hz0 hz1 hz2 rfl (by decide) v n xs hs hown ad m c (l.map (Value.int .u8)) hx (by simp [hc.length])
    (fun j y hj => ?_) (fun y hy => by simp at hy; obtain ⟨z, _, rfl⟩ := hy; rfl) (by unfold maxLen; omega) (by omega) hbase fun v' w' h1 h2 _ => h v' w' h1 h2
  have hjl : j < l.length := by
    rcases Nat.lt_or_ge j l.length with hh | hh
    · exact hh
    · rw [List.getElem?_eq_none (by simpa using hh)] at hj; cases hj
  have hlm := hc.length
  obtain ⟨b, off, hx, hcc⟩ := hc.cells (by omega)
  cases hx
  have := hcc j (by omega)
  have e : (⟨b, off, none⟩ : Addr).add j = ⟨b, off + j, none⟩ := by unfold Addr.add; split <;> simp_all
  rw [e, this, hj]

theorem strCells_eq (s : ByteArray) : Lib.strCells s = (strB s).map (Value.int .u8) := by simp [Lib.strCells, strB]

/-- Bytes as a string. -/
def toS (l : List Int) : ByteArray := strOfNums l
theorem conv_bs {w : World} {a : Option Addr} {n c : Nat} {l : List Int} (h : Bs w a n c l) : (convert 26 9 (.slice a n c)).run Try.prog w = .ok (.string (toS l)) w := by
  have hl := h.length
  by_cases hn : n = 0
  · subst hn
    obtain rfl : l = [] := List.eq_nil_of_length_eq_zero hl
    rw [run_convert_bytes_string w _ _ _ a 0 c Try.underlying26 Try.underlying5 Try.underlying9]
    cases a with
    | none => simp [Conv.bytesToString]; rfl
    | some x => simp [Conv.bytesToString, loadCells, loadCellsFrom]; rfl
  · obtain ⟨b, off, rfl, hc⟩ := h.cells (by omega)
    refine run_convert_bytes_arg w _ _ Try.underlying26 Try.underlying5 b off n c l hl (fun i hi => ?_) _ Try.underlying9
    rw [hc i (by omega), List.getElem?_map, List.getElem?_eq_getElem (by omega)]
    simp [List.getD, List.getElem?_eq_getElem (show i < l.length by omega)]

/-- A piece of a block is read as a whole. -/
theorem run_loadVar_seg {P : Program} (w : World) (g o : Nat) (t ty : TypeId) (cs : Array Value) (fr : Nat × Nat) (d : TypeDesc) (n : Nat) (hg : w.heap[g]? = some (.cells cs t fr)) (hn : o + n ≤ cs.size)
    (hu : P.underlying ty = some d) (hd : (match d with | .struct _ | .array _ _ => true | _ => false) = true) (hi : (P.info? ty).map (·.size) = some n) :
    (loadVar ty ⟨g, o, none⟩).run P w = .ok (.agg (cs.extract o (o + n))) w := by
  have hlen : (cs.extract o (o + n)).toList.length = n := by simp; omega
  have hl : (loadCells ⟨g, o, none⟩ (cs.extract o (o + n)).toList.length).run P w = .ok (cs.extract o (o + n)).toList.toArray w :=
    run_loadCells_list (P := P) w ⟨g, o, none⟩ _ (fun j v hv => by
      have hadd : (⟨g, o, none⟩ : Addr).add j = ⟨g, o + j, none⟩ := by unfold Addr.add; split <;> simp_all
      rw [hadd, cell_of_row w g _ cs t fr hg]
      have hj : j < n := by
        rcases Nat.lt_or_ge j n with h | h
        · exact h
        · rw [List.getElem?_eq_none (by omega)] at hv; cases hv
      rw [Array.getElem?_toList, Array.getElem?_extract] at hv
      rw [if_pos (by omega)] at hv
      exact hv)
  rw [hlen] at hl
  simp only [Array.toArray_toList] at hl
  cases hq : P.info? ty with
  | none => simp [hq] at hi
  | some i =>
    have hs : i.size = n := by simpa [hq] using hi
    have hagg : (isAgg ty).run P w = .ok true w := by
      unfold isAgg
      rw [Sem.run_bind, run_underlying hu w]
      cases d <;> simp_all
    simp [loadVar, Sem.run_bind, hagg, sizeOf, typeInfo, hq, hs, hl]

theorem wp_load_seg {P : Program} {o : Oper} {a : Act} {w : World} {K : Act → World → Prop} {Q : Exit → Act → World → Prop} (ty : TypeId) (x : Operand) (ho : o.op = .load ty x)
    (g off : Nat) (hx : a.eval x = .pointer (some ⟨g, off, none⟩)) (t : TypeId) (cs : Array Value) (fr : Nat × Nat) (d : TypeDesc) (n : Nat) (hg : w.heap[g]? = some (.cells cs t fr)) (hn : off + n ≤ cs.size)
    (hu : P.underlying ty = some d) (hd : (match d with | .struct _ | .array _ _ => true | _ => false) = true) (hi : (P.info? ty).map (·.size) = some n) (ys : Array Value) (hy : cs.extract off (off + n) = ys)
    (h : K (a.put o.dst (.agg ys)) w) : o.wp P a w K Q := by
  unfold Oper.wp execOp
  simp only [ho, hx, Instr.loadAt, Instr.sureAddr, Sem.run_bind, Sem.run_pure, Result.andThen_ok, run_loadVar_seg w g off t ty cs fr d n hg hn hu hd hi, hy]
  exact h

theorem wpList_wanted {P : Program} {ops : Array Oper} {rest : List Oper} {o : Oper} {a : Act} {w : World} {Q : Exit → Act → World → Prop} (hw : Region.wanted o (yielded ops a.tmps) = true)
    (h : ∀ K : Act → World → Prop, (∀ a w, wpList P ops Q rest a w → K a w) → o.wp P a w K Q) : wpList P ops Q (o :: rest) a w :=
  wpList_step fun K hK => by rw [if_pos hw]; exact h K hK

/-- A piece of a block is read as a whole: in the straight walk, under a guard that says yes, too. -/
theorem wpList_load_seg {P : Program} {ops : Array Oper} {rest : List Oper} {o : Oper} {a : Act} {w : World} {Q : Exit → Act → World → Prop} (hw : Region.wanted o (yielded ops a.tmps) = true) (ty : TypeId) (x : Operand) (ho : o.op = .load ty x)
    (g off : Nat) (hx : a.eval x = .pointer (some ⟨g, off, none⟩)) (t : TypeId) (cs : Array Value) (fr : Nat × Nat) (d : TypeDesc) (n : Nat) (hg : w.heap[g]? = some (.cells cs t fr)) (hn : off + n ≤ cs.size)
    (hu : P.underlying ty = some d) (hd : (match d with | .struct _ | .array _ _ => true | _ => false) = true) (hi : (P.info? ty).map (·.size) = some n) (ys : Array Value) (hy : cs.extract off (off + n) = ys)
    (h : wpList P ops Q rest (a.put o.dst (.agg ys)) w) : wpList P ops Q (o :: rest) a w :=
  wpList_wanted hw fun _ hK => wp_load_seg ty x ho g off hx t cs fr d n hg hn hu hd hi ys hy (hK _ _ h)

/-- A piece of a block is written as a whole. -/
def put (cur : Array Value) (off : Nat) (cs : Array Value) : Array Value := (cur.toList.take off ++ cs.toList ++ cur.toList.drop (off + cs.size)).toArray
theorem wp_store_seg {P : Program} {o : Oper} {a : Act} {w : World} {K : Act → World → Prop} {Q : Exit → Act → World → Prop} (ty : TypeId) (x y : Operand) (ho : o.op = .store ty x y) (hdst : o.dst = none)
    (g off : Nat) (hx : a.eval x = .pointer (some ⟨g, off, none⟩)) (cs : Array Value) (hy : a.eval y = .agg cs) (t : TypeId) (cur : Array Value) (hg : w.heap[g]? = some (.cells cur t (0, 0))) (hn : off + cs.size ≤ cur.size)
    (hi : (P.info? ty).map (·.size) = some cs.size) (h1 : ∀ v ∈ cs.toList, v.oneCell' = true) (nw : Array Value) (hnw : put cur off cs = nw)
    (h : ∀ w', w'.heap[g]? = some (.cells nw t (0, 0)) → w.grownBy w' (some g) → w'.heap.size = w.heap.size → K a w') : o.wp P a w K Q := by
  have hst := run_storeCells_at P g off t cs.toList 0 cur w hg (by simpa using hn) h1
  cases hq : P.info? ty with
  | none => simp [hq] at hi
  | some i =>
    have hs : i.size = cs.size := by simpa [hq] using hi
    have hrun : (storeVar ty ⟨g, off, none⟩ (.agg cs)).run P w = .ok () (w.setRow g nw) := by
      simp only [Nat.add_zero, Array.length_toList] at hst
      rw [← hnw]
      simp [storeVar, Value.cells, sizeOf, typeInfo, hq, hs, hst, put]
    have hK := h (w.setRow g nw) (setRow_heap w g cur _ t _ hg) ⟨rfl, rfl, rfl, by simp, fun k _ hk => setRow_other w g k _ (fun e => hk (by rw [e]))⟩ (by simp)
    unfold Oper.wp execOp
    simp only [ho, hx, hy, Instr.storeAt, Instr.sureAddr, Sem.run_bind, Sem.run_pure, Result.andThen_ok, hrun]
    simp only [Oper.upon, Act.put, hdst]
    exact hK
theorem wpList_store_seg {P : Program} {ops : Array Oper} {rest : List Oper} {o : Oper} {a : Act} {w : World} {Q : Exit → Act → World → Prop} (hw : Region.wanted o (yielded ops a.tmps) = true) (ty : TypeId) (x y : Operand) (ho : o.op = .store ty x y) (hdst : o.dst = none)
    (g off : Nat) (hx : a.eval x = .pointer (some ⟨g, off, none⟩)) (cs : Array Value) (hy : a.eval y = .agg cs) (t : TypeId) (cur : Array Value) (hg : w.heap[g]? = some (.cells cur t (0, 0))) (hn : off + cs.size ≤ cur.size)
    (hi : (P.info? ty).map (·.size) = some cs.size) (h1 : ∀ v ∈ cs.toList, v.oneCell' = true) (nw : Array Value) (hnw : put cur off cs = nw)
    (h : ∀ w', w'.heap[g]? = some (.cells nw t (0, 0)) → w.grownBy w' (some g) → w'.heap.size = w.heap.size → wpList P ops Q rest a w') : wpList P ops Q (o :: rest) a w :=
  wpList_wanted hw fun _ hK => wp_store_seg ty x y ho hdst g off hx cs hy t cur hg hn hi h1 nw hnw (fun w' h2 h3 h4 => hK _ _ (h w' h2 h3 h4))
theorem put_whole (cur cs : Array Value) (h : cs.size = cur.size) : put cur 0 cs = cs := by
  have e : cur.toList.drop cs.size = [] := List.drop_eq_nil_of_le (by simp; omega)
  simp [put, e]

/-- A law of the straight walk, as one step of a region that draws. -/
theorem step_of_wp {P : Program} {ops : Array Oper} {o : Oper} {a : Act} {w : World} {K : Act → World → Prop} {Q : Exit → Act → World → Prop} {E : Prop}
    (hg : o.guard = none) (h : o.wp P a w K Q) : if Region.wanted o (yielded ops a.tmps) = true then Oper.wp P o a w K Q else E := by
  rw [if_pos (by simp [Region.wanted, hg])]; exact h

/-- 'append(s, xs...)' of bytes, s the call's own: a step of a region that draws. -/
theorem step_bytes {ops : Array Oper} {o : Oper} {a : Act} {w : World} {K : Act → World → Prop} {Q : Exit → Act → World → Prop} {E : Prop} (hgd : o.guard = none) (s x : Operand)
    (ho : o.op = .call { callee := .builtin .append, args := #[s, x], argTypes := #[26, 26] })
    (base : Nat) (v : Value) (n : Nat) (xs : List Value) (hs : a.eval s = v) (hown : w.ownsRow base 5 1 v n xs) (ad : Addr) (m c : Nat) (l : List Int) (hx : a.eval x = .slice (some ad) m c)
    (hc : Bs w (some ad) m c l) (hn : n + m ≤ 140737488355328) (hbase : base ≤ w.heap.size)
    (h : ∀ v' w', w'.ownsRow base 5 1 v' (n + m) (xs ++ l.map (Value.int .u8)) → w.grownBy w' v.ownBlock → K (a.put o.dst v') w') :
    if Region.wanted o (yielded ops a.tmps) = true then Oper.wp Try.prog o a w K Q else E := by
  obtain ⟨i0, hi, hz0, hz1, hz2⟩ := info_parts info_u8
  refine step_of_wp hgd (wp_append_own w s x 26 ho base 5 i0 (.int .u8 0) 1 1 Try.underlying26 hi hz0 hz1 hz2 rfl (by decide) v n xs hs hown ad m c (l.map (Value.int .u8)) hx (by simp [hc.length])
    (fun j y hj => ?_) (fun y hy => by simp at hy; obtain ⟨z, _, rfl⟩ := hy; rfl) (by unfold maxLen; omega) (by omega) hbase fun v' w' h1 h2 _ => h v' w' h1 h2)
  have hjl : j < l.length := by
    rcases Nat.lt_or_ge j l.length with hh | hh
    · exact hh
    · rw [List.getElem?_eq_none (by simpa using hh)] at hj; cases hj
  have hlm := hc.length
  obtain ⟨b, off, hx, hcc⟩ := hc.cells (by omega)
  cases hx
  have := hcc j (by omega)
  have e : (⟨b, off, none⟩ : Addr).add j = ⟨b, off + j, none⟩ := by unfold Addr.add; split <;> simp_all
  rw [e, this, hj]

/-- A row of a block of its own. -/
theorem Sl.row {w : World} {b : Nat} {cs : Array Value} {t : TypeId} {fr : Nat × Nat} (hb : w.heap[b]? = some (.cells cs t fr)) (k n : Nat) (hs : cs.size = n * k) (hn : n ≤ maxLen) : Sl w k (some ⟨b, 0, none⟩) n n cs.toList :=
  ⟨by simpa using hs, Nat.le_refl _, hn, fun h => (by cases h), fun _ => ⟨b, 0, rfl, fun j _ => by rw [cell_of_row w b _ cs t fr hb]; simp⟩⟩

end Go.Proofs.Ytfjbmgfkfeehnaa
