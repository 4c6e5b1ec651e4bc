/- Operations as cells; lists of stamps against each other. -/
import Derived.Test.YtdghnfihphlboaaNames
import Derived.Test.YtdghnfihphlboaaEqId
import Derived.Lib.QuietBelow
namespace Go.Proofs.Ytdghnfihphlboaa
open Go.RowKit

structure OpL where
  kind : Int
  at_ : St
  node : St
  parent : St
  name : ByteArray
  data : List Int
  over : List St

def stsC (l : List St) : List Value := l.flatMap fun s => [.int .i64 s.t, .int .i64 s.r]
theorem stsC_cons (s : St) (l : List St) : stsC (s :: l) = .int .i64 s.t :: .int .i64 s.r :: stsC l := rfl
theorem stsC_append (l m : List St) : stsC (l ++ m) = stsC l ++ stsC m := by simp [stsC]
theorem stsC_len (l : List St) : (stsC l).length = l.length * 2 := by
  induction l with
  | nil => rfl
  | cons s l ih => simp only [stsC_cons, List.length_cons, ih]; omega
theorem stsC_at (l : List St) : ∀ (i : Nat) (h : i < l.length), (stsC l)[i * 2]? = some (.int .i64 l[i].t) ∧ (stsC l)[i * 2 + 1]? = some (.int .i64 l[i].r) := by
  induction l with
  | nil => intro i h; simp at h
  | cons s l ih =>
    intro i h
    cases i with
    | zero => exact ⟨rfl, rfl⟩
    | succ i =>
      have := ih i (by simpa using h)
      rw [show (i + 1) * 2 = i * 2 + 1 + 1 from by omega, stsC_cons]
      simpa using this

/-- An operation's cells. -/
def opC (o : OpL) (v : Value) : Array Value :=
  ⟨[.int .i64 o.kind, .int .i64 o.at_.t, .int .i64 o.at_.r, .int .i64 o.node.t, .int .i64 o.node.r, .int .i64 o.parent.t, .int .i64 o.parent.r, .string o.name] ++ (o.data.map (Value.int .u8) ++ [v])⟩

/-- Cells of an operation, by number. -/
structure OpX (o : OpL) (v : Value) (X : Array Value) : Prop where
  size : X.size = 41
  x0 : X[0]? = some (.int .i64 o.kind)
  x1 : X[1]? = some (.int .i64 o.at_.t)
  x2 : X[2]? = some (.int .i64 o.at_.r)
  x3 : X[3]? = some (.int .i64 o.node.t)
  x4 : X[4]? = some (.int .i64 o.node.r)
  x5 : X[5]? = some (.int .i64 o.parent.t)
  x6 : X[6]? = some (.int .i64 o.parent.r)
  x7 : X[7]? = some (.string o.name)
  x40 : X[40]? = some v
  xd : X.extract 8 40 = idC o.data
  xa : X.extract 0 41 = X
theorem opC_x (o : OpL) (v : Value) (h : o.data.length = 32) : OpX o v (opC o v) := by
  refine ⟨by simp [opC, h], rfl, rfl, rfl, rfl, rfl, rfl, rfl, rfl, ?_, ?_, ?_⟩
  · simp [opC, h]
  · apply Array.ext'
    simp [opC, idC, h]
  · apply Array.ext'
    have : (o.data.map (Value.int .u8) ++ [v]).length = 33 := by simp [h]
    simp [opC]
    rw [List.take_of_length_le (by omega)]
theorem opC_one (o : OpL) (v : Value) (hv : v.oneCell' = true) : ∀ x ∈ (opC o v).toList, x.oneCell' = true := fun x hx => by
  simp only [opC, List.mem_append, List.mem_cons, List.mem_map, List.not_mem_nil, or_false] at hx
  rcases hx with (h | h | h | h | h | h | h | h) | (⟨y, _, h⟩ | h) <;> subst h <;> first | rfl | exact hv

/-- An operation as an argument. -/
structure OpA (w : World) (o : OpL) (a : Option Addr) (n c : Nat) : Prop where
  over : Sl w 2 a n c (stsC o.over)
  data : o.data.length = 32
  name : o.name.size ≤ 9223372036854775807
theorem OpA.len {w : World} {o : OpL} {a : Option Addr} {n c : Nat} (h : OpA w o a n c) : o.over.length = n := by
  have := h.over.len
  rw [stsC_len] at this
  omega
theorem OpA.below {w w' : World} {o : OpL} {a : Option Addr} {n c : Nat} (h : OpA w o a n c) (hb : Below w.heap.size w w') : OpA w' o a n c := ⟨h.over.below hb, h.data, h.name⟩
theorem OpA.alloc {w : World} {o : OpL} {a : Option Addr} {n c : Nat} (h : OpA w o a n c) (x : Obj) : OpA (w.alloc x) o a n c := ⟨h.over.alloc x, h.data, h.name⟩
theorem OpA.nonneg {w : World} {o : OpL} {a : Option Addr} {n c : Nat} (h : OpA w o a n c) : n ≤ 140737488355328 * 65536 := by
  have := h.over.le
  have := h.over.cap
  unfold maxLen at this
  omega

def stEqB (t r t' r' : Int) : Bool := decide (t = t' ∧ r = r')
@[go_sem ↓ high] theorem eql_st (t r t' r' : Int) (w : World) : (Op.equalIn 10000 23 (.agg #[.int .i64 t, .int .i64 r]) (.agg #[.int .i64 t', .int .i64 r'])).run Try.prog w = .ok (stEqB t r t' r') w := by
  rw [run_equalIn_struct (P := Try.prog) w 9999 23 _ _ (by kernel_rfl) (by kernel_rfl)]
  rw [show Try.prog.fieldsOf 23 = _ from by unfold Program.fieldsOf; rw [Try.underlying23]]
  simp [go_sem]
  unfold stEqB
  by_cases h1 : t = t' <;> by_cases h2 : r = r' <;> simp [h1, h2]
theorem stEq_iff (a b : St) : stEqB a.t a.r b.t b.r = decide (a = b) := by
  cases a; cases b; simp [stEqB]

/-- A stamp of a slice. -/
theorem Sl.st {w : World} {a : Option Addr} {n c : Nat} {l : List St} (h : Sl w 2 a n c (stsC l)) (hn : 0 < n) :
    ∃ b off, a = some ⟨b, off, none⟩ ∧ ∀ (i : Nat) (s : St), l[i]? = some s → w.cell? ⟨b, off + i * 2, none⟩ = some (.int .i64 s.t) ∧ w.cell? ⟨b, off + i * 2 + 1, none⟩ = some (.int .i64 s.r) := by
  obtain ⟨b, off, ha, hc⟩ := h.cells hn
  have hl := h.len
  rw [stsC_len] at hl
  refine ⟨b, off, ha, fun i s hs => ?_⟩
  obtain ⟨hi, rfl⟩ := List.getElem?_eq_some_iff.1 hs
  have h1 := hc (i * 2) (by omega)
  have h2 := hc (i * 2 + 1) (by omega)
  rw [(stsC_at l i hi).1] at h1
  rw [(stsC_at l i hi).2] at h2
  exact ⟨h1, by rw [Nat.add_assoc]; exact h2⟩

theorem equal_any (a : Option Addr) (n c : Nat) (l : List St) (a' : Option Addr) (n' c' : Nat) (l' : List St) (w : World) (h : Sl w 2 a n c (stsC l)) (h' : Sl w 2 a' n' c' (stsC l')) :
    Calls Try.prog 42 #[.slice a n c, .slice a' n' c'] w (Ret w (.bool (decide (l = l')))) := by
  have hl := h.len
  have hl' := h'.len
  rw [stsC_len] at hl hl'
  have hln : l.length = n := by omega
  have hln' : l'.length = n' := by omega
  have hcap := h.cap
  have hle := h.le
  unfold maxLen at hcap
  clear hl hl'
  by_cases hn : n = n'
  · subst hn
    by_cases h0 : n = 0
    · subst h0
      obtain rfl : l = [] := List.eq_nil_of_length_eq_zero hln
      obtain rfl : l' = [] := List.eq_nil_of_length_eq_zero hln'
      clear hln hln'
      go_enter Try.func42, Try.ntmps42
      go_wp2_with fail
      refine wp_loop_rounds 1 ?_
      rw [rounds_succ]
      go_wp2
      go_ret
      exact Ret.mk (by simp) (Below.refl _ _)
    · obtain ⟨b, off, rfl, hc⟩ := h.st (by omega)
      obtain ⟨b', off', rfl, hc'⟩ := h'.st (by omega)
      clear h h'
      go_enter Try.func42, Try.ntmps42
      go_wp2_with fail
      go_loopw [13] (fun i wr => ∃ k : Nat, k ≤ n ∧ i = .int .i64 k ∧ (∀ j, j < k → l[j]? = l'[j]?) ∧ Below w.heap.size w wr) (fun i _ => n - (intOf i).toNat)
      case atStart => exact ⟨0, Nat.zero_le _, rfl, fun j h => absurd h (by omega), Below.refl _ _⟩
      case round =>
        obtain ⟨k, hk, rfl, hall, hB⟩ := hrel
        have hW := hB.size
        by_cases hkn : k < n
        · obtain ⟨s1, hs1⟩ : ∃ s, l[k]? = some s := ⟨_, List.getElem?_eq_getElem (by omega)⟩
          obtain ⟨s2, hs2⟩ : ∃ s, l'[k]? = some s := ⟨_, List.getElem?_eq_getElem (by omega)⟩
          have G := hc k s1 hs1
          have G' := hc' k s2 hs2
          have g1 := Below.old hB (Nat.le_refl _) G.1
          have g2 := Below.old hB (Nat.le_refl _) G.2
          have g3 := Below.old hB (Nat.le_refl _) G'.1
          have g4 := Below.old hB (Nat.le_refl _) G'.2
          have HL := Lib.hid hln; have HL' := Lib.hid hln'; have HA := Lib.hid hall; have H1 := Lib.hid hs1; have H2 := Lib.hid hs2
          clear hc hc' hln hln' hall G G' hs1 hs2
          go_wp2_with fail
          cases hq : stEqB s1.t s1.r s2.t s2.r
          · go_quiet (fail)
            go_wp2_with fail
            go_ret
            refine Ret.mk ?_ ?_
            · show Value.bool false = Value.bool (decide (l = l'))
              rw [decide_eq_false]
              rintro rfl
              have e := H1.out.symm.trans H2.out
              cases e
              simp [stEqB] at hq
            · exact Below.next hB (below_drewN _ _)
          · go_quiet (fail)
            go_wp2_with fail
            go_roundw
            case rel =>
              refine ⟨k + 1, by omega, by go_num, fun j hj => ?_, Below.next hB (below_drewN _ _)⟩
              rcases Nat.lt_succ_iff_lt_or_eq.1 hj with hj | rfl
              · exact HA.out j hj
              · rw [H1.out, H2.out]
                rw [stEq_iff] at hq
                rw [of_decide_eq_true hq]
            case measure => simp [intOf]; omega
        · obtain rfl : k = n := by omega
          go_wp2_with fail
          go_ret
          refine Ret.mk (congrArg Value.bool (decide_eq_true ?_).symm) hB
          apply List.ext_getElem?
          intro j
          rcases Nat.lt_or_ge j k with h | h
          · exact hall j h
          · rw [List.getElem?_eq_none (by omega), List.getElem?_eq_none (by omega)]
  · go_enter Try.func42, Try.ntmps42
    go_wp2
    go_ret
    exact Ret.mk (by simp; intro e; subst e; omega) (Below.refl _ _)

end Go.Proofs.Ytdghnfihphlboaa
