/- Right operations: the document's function. -/
import Derived.Test.YtdghnfihphlboaaGoodS
import Derived.Deep.Cut
namespace Go.Proofs.Ytdghnfihphlboaa
open Go.RowKit

theorem setRow_same (w : World) (g : Nat) (cs : Array Value) (t : TypeId) (hg : w.heap[g]? = some (.cells cs t (0, 0))) : w.setRow g cs = w := by
  have h1 := setRow_heap w g cs cs t (0, 0) hg
  obtain ⟨heap, tape, drawn, os, output⟩ := w
  have : ∀ k, ((World.mk heap tape drawn os output).setRow g cs).heap[k]? = heap[k]? := fun k => by
    by_cases hk : k = g
    · subst hk; exact h1.trans hg.symm
    · exact setRow_other _ g k cs hk
  have e : ((World.mk heap tape drawn os output).setRow g cs).heap = heap := Array.ext_getElem? this
  have e2 : (World.mk heap tape drawn os output).setRow g cs = { (World.mk heap tape drawn os output) with heap := ((World.mk heap tape drawn os output).setRow g cs).heap } := rfl
  rw [e2, e]

/-- What is written was there already. -/
theorem wp_store_idle {P : Program} {o : Oper} {a : Act} {w : World} {K : Act → World → Prop} {Q : Exit → Act → World → Prop} (ty : TypeId) (x y : Operand) (ho : o.op = .store ty x y) (hdst : o.dst = none)
    (g : Nat) (hx : a.eval x = .pointer (some ⟨g, 0, none⟩)) (cs : Array Value) (hy : a.eval y = .agg cs) (t : TypeId) (hg : w.heap[g]? = some (.cells cs t (0, 0)))
    (hi : (P.info? ty).map (·.size) = some cs.size) (h1 : ∀ v ∈ cs.toList, v.oneCell' = true)
    (h : K a w) : o.wp P a w K Q := by
  have hst := run_storeCells_at P g 0 t cs.toList 0 cs w hg (by simp) h1
  cases hq : P.info? ty with
  | none => simp [hq] at hi
  | some i =>
    have hs : i.size = cs.size := by simpa [hq] using hi
    have hrun : (storeVar ty ⟨g, 0, none⟩ (.agg cs)).run P w = .ok () w := by
      have hp := put_whole cs cs rfl
      unfold put at hp
      simp only [Nat.add_zero, Array.length_toList, List.take_zero, List.nil_append] at hst hp
      simp [storeVar, Value.cells, sizeOf, typeInfo, hq, hs, hst]
      simp only [Nat.zero_add] at hp
      have := setRow_same w g cs t hg
      simpa [hp] using this
    unfold Oper.wp execOp
    simp only [ho, hx, hy, Instr.storeAt, Instr.sureAddr, Sem.run_bind, Sem.run_pure, Result.andThen_ok, hrun]
    simp only [Oper.upon, Act.put, hdst]
    exact h

theorem good_no {o : OpL} (h : 0 < stCmp o.node o.at_) : goodB o = false := by
  have h1 : moveB o = false := by simp only [moveB]; rw [decide_eq_false (by omega)]; simp
  have h2 : editB o = false := by simp only [editB, editH]; rw [decide_eq_false (by omega)]; simp
  simp [goodB, h1, h2]
theorem stCmp_zero {a b : St} (h : stCmp a b = 0) : a = b := by
  rcases Int.lt_trichotomy a.t b.t with h1 | h1 | h1
  · rw [stCmp_lt (.inl h1)] at h; omega
  · rcases Int.lt_trichotomy a.r b.r with h2 | h2 | h2
    · rw [stCmp_lt (.inr ⟨h1, h2⟩)] at h; omega
    · cases a; cases b; simp_all
    · rw [stCmp_gt (.inr ⟨h1, h2⟩)] at h; omega
  · rw [stCmp_gt (.inl h1)] at h; omega
theorem editH_alt {o : OpL} (h : stCmp o.node o.at_ ≤ 0) : editH o = (!stEqB o.node.t o.node.r o.at_.t o.at_.r && decide (o.parent.t = 0) && decide (o.parent.r = 0) && (o.name.toList == []) && !decide (o.data = zero32) && decide (o.over.length ≤ 64)) := by
  have h1 : decide (stCmp o.node o.at_ < 0) = !stEqB o.node.t o.node.r o.at_.t o.at_.r := by
    rw [stEq_iff]
    by_cases e : o.node = o.at_
    · rw [e, stCmp_self]; simp
    · have : stCmp o.node o.at_ ≠ 0 := fun h => e (stCmp_zero h)
      rw [decide_eq_true (by omega), decide_eq_false e]; rfl
  have h2 : stEqB o.parent.t o.parent.r 0 0 = (decide (o.parent.t = 0) && decide (o.parent.r = 0)) := by rw [Bool.eq_iff_iff]; simp [stEqB]
  unfold editH
  rw [h1, h2, ← Bool.and_assoc]
def litZ : Array Value := #[Value.int .u8 0, Value.int .u8 0, Value.int .u8 0, Value.int .u8 0, Value.int .u8 0, Value.int .u8 0, Value.int .u8 0, Value.int .u8 0, Value.int .u8 0, Value.int .u8 0, Value.int .u8 0, Value.int .u8 0, Value.int .u8 0, Value.int .u8 0, Value.int .u8 0, Value.int .u8 0, Value.int .u8 0, Value.int .u8 0, Value.int .u8 0, Value.int .u8 0, Value.int .u8 0, Value.int .u8 0, Value.int .u8 0, Value.int .u8 0, Value.int .u8 0, Value.int .u8 0, Value.int .u8 0, Value.int .u8 0, Value.int .u8 0, Value.int .u8 0, Value.int .u8 0, Value.int .u8 0]
theorem litZ_eq : litZ = idC zero32 := rfl
@[go_sem] theorem eql_lit (a : List Int) (ha : a.length = 32) (w : World) : (Op.equalIn 10000 30 (.agg (idC a)) (.agg litZ)).run Try.prog w = .ok (decide (a = zero32)) w := eql_id a zero32 ha rfl w
theorem litZ_x : litZ.extract 0 (0 + 32) = litZ := by apply Array.ext'; rfl
theorem litZ_n : 0 + 32 ≤ litZ.size := by simp [litZ]
theorem size_arr : (Try.prog.info? 29).map (·.size) = some 32 := by kernel_rfl

theorem rright_is {s : St} {b : Bool} (h : stRight s = b) (W : World) (d : Nat) (os : Array Obj) : Calls Try.prog 15 #[.agg #[.int .i64 s.t, .int .i64 s.r]] (Sort.grow (redrawn W d) os)
    fun e w'' => e = .returned (.bool b) ∧ ∃ p : Regrown, w'' = Sort.grow (redrawn W p.d) p.os := Calls.regrown_of (h ▸ rright_any s _)
theorem rcmp_is {s p : St} {z : Int} (h : stCmp s p = z) (W : World) (d : Nat) (os : Array Obj) : Calls Try.prog 13 #[.agg #[.int .i64 s.t, .int .i64 s.r], .agg #[.int .i64 p.t, .int .i64 p.r]] (Sort.grow (redrawn W d) os)
    fun e w'' => e = .returned (.int .i64 z) ∧ ∃ p : Regrown, w'' = Sort.grow (redrawn W p.d) p.os := Calls.regrown_of (h ▸ rcmp_any s p _)

set_option linter.unusedSimpArgs false in
set_option maxRecDepth 100000 in
set_option maxHeartbeats 4000000 in
theorem rgood_any (o : OpL) (a : Option Addr) (n c : Nat) (w : World) (h : OpA w o a n c) :
    Calls Try.prog 19 #[.agg (opC o (.slice a n c))] w (Ret w (.bool (goodB o))) := by
  obtain ⟨hsz, x0, x1, x2, x3, x4, x5, x6, x7, x40, xd, xa⟩ := opC_x o (.slice a n c) h.data
  have hd := h.data
  have hnm := h.name
  have hn := h.len
  revert hsz x0 x1 x2 x3 x4 x5 x6 x7 x40 xd xa
  generalize opC o (.slice a n c) = X
  intro hsz x0 x1 x2 x3 x4 x5 x6 x7 x40 xd xa
  have hx := blk0 w X 33
  have hcx := (blk_cell hx).1
  have hB0 : Below w.heap.size w (w.alloc (.cells X 33)) := (Below.refl _ _).alloc (Nat.le_refl _) _
  have hz0 : zero32.length = 32 := rfl
  have HD := Lib.hid xd; have HS := Lib.hid hsz; clear xd hsz
  go_enter Try.func19, Try.ntmps19
  go_upto_region 3 with (first
    | (go_at_call 13; (with_reducible refine (rcmp_any o.node o.at_ _).mono ?_); rintro e w1 ⟨rfl, hb⟩; have hB := Below.next (w := w) (by assumption) hb; have hx := (hb.block _ (blk_cell hx).2.2).trans hx; have hcx := (blk_cell hx).1; have hb := hb)
    | (go_at_call 15; (with_reducible refine (rright_any o.at_ _).mono ?_); rintro e w1 ⟨rfl, hb⟩; have hB := Below.next (w := w) (by assumption) hb; have hx := (hb.block _ (blk_cell hx).2.2).trans hx; have hcx := (blk_cell hx).1; have hb := hb)
    | (go_at_call 15; (with_reducible refine (rright_any o.node _).mono ?_); rintro e w1 ⟨rfl, hb⟩; have hB := Below.next (w := w) (by assumption) hb; have hx := (hb.block _ (blk_cell hx).2.2).trans hx; have hcx := (blk_cell hx).1; have hb := hb))
  all_goals first
    | (go_ret; refine Ret.mk (congrArg Value.bool ?_) (by assumption); rw [good_no (by assumption)]; done)
    | (go_ret; refine Ret.mk (congrArg Value.bool ?_) (by assumption); simp only [goodB]; (try simp only [Bool.not_eq_true', Bool.not_eq_false', beq_iff_eq, beq_eq_false_iff_ne, ne_eq] at *); rw [Bool.eq_iff_iff]; simp [*]; done)
    | skip
  iterate 8 (first | go_values | go_skip | go_guarded | go_step | go_upon)
  have hq1 : stRight o.at_ = true := by assumption
  have hq2 : stRight o.node = true := by assumption
  have hq3 : stCmp o.node o.at_ ≤ 0 := by assumption
  have hz := blk0 w1 litZ 29
  have hx := (Below.heap_alloc w1 (.cells litZ 29) _ (blk_cell hx).2.2).trans hx
  have hcx := (blk_cell hx).1
  have hB := hB.alloc hB.size (.cells litZ 29)
  refine wp_store_idle (w := w1.alloc (.cells litZ 29)) 29 _ _ rfl rfl w1.heap.size rfl litZ rfl 29 hz size_arr (cells_id zero32) ?_
  revert hz hx hcx hB
  generalize w1.alloc (.cells litZ 29) = W
  generalize w1.heap.size = q
  intro hz hx hcx hB
  by_cases hk : o.kind = 1
  · have hk' : (o.kind == 1) = true := by simpa using hk
    go_upto_region 6 with (first
      | (with_reducible show wpList _ _ _ _ _ _; refine wpList_load_seg ?hw 30 _ rfl w.heap.size 8 rfl 33 X (0, 0) _ 32 hx (by rw [HS.out]; omega) Try.underlying30 rfl size_id (idC o.data) HD.out ?_; (case hw => (simp [go_sem, *]; done)))
      | (with_reducible show wpList _ _ _ _ _ _; refine wpList_load_seg ?hw 29 _ rfl q 0 rfl 29 litZ (0, 0) _ 32 hz litZ_n Try.underlying29 rfl size_arr litZ litZ_x ?_; (case hw => (simp [go_sem, *]; done)))
      | (go_at_call 15; (with_reducible refine (rright_any o.parent _).mono ?_); rintro e w1 ⟨rfl, hb⟩; have hB := Below.next (w := w) (by assumption) hb; have hx := (hb.block _ (blk_cell hx).2.2).trans hx; have hz := (hb.block _ (blk_cell hz).2.2).trans hz; have hcx := (blk_cell hx).1; have hb := hb)
      | (go_at_call 17; (with_reducible refine (rname_any o.name _ hnm).mono ?_); rintro e w1 ⟨rfl, hb⟩; have hB := Below.next (w := w) (by assumption) hb; have hx := (hb.block _ (blk_cell hx).2.2).trans hx; have hz := (hb.block _ (blk_cell hz).2.2).trans hz; have hcx := (blk_cell hx).1; have hb := hb))
    all_goals go_wp2_with (first
      | (with_reducible show wpList _ _ _ _ _ _; refine wpList_load_seg ?hw 30 _ rfl w.heap.size 8 rfl 33 X (0, 0) _ 32 hx (by rw [HS.out]; omega) Try.underlying30 rfl size_id (idC o.data) HD.out ?_; (case hw => (simp [go_sem, *]; done)))
      | (with_reducible show wpList _ _ _ _ _ _; refine wpList_load_seg ?hw 29 _ rfl q 0 rfl 29 litZ (0, 0) _ 32 hz litZ_n Try.underlying29 rfl size_arr litZ litZ_x ?_; (case hw => (simp [go_sem, *]; done)))
      | (go_at_call 15; (with_reducible refine (rright_any o.parent _).mono ?_); rintro e w1 ⟨rfl, hb⟩; have hB := Below.next (w := w) (by assumption) hb; have hx := (hb.block _ (blk_cell hx).2.2).trans hx; have hz := (hb.block _ (blk_cell hz).2.2).trans hz; have hcx := (blk_cell hx).1; have hb := hb)
      | (go_at_call 17; (with_reducible refine (rname_any o.name _ hnm).mono ?_); rintro e w1 ⟨rfl, hb⟩; have hB := Below.next (w := w) (by assumption) hb; have hx := (hb.block _ (blk_cell hx).2.2).trans hx; have hz := (hb.block _ (blk_cell hz).2.2).trans hz; have hcx := (blk_cell hx).1; have hb := hb))
    all_goals
      go_ret
      refine Ret.mk (congrArg Value.bool ?_) (by assumption)
      rw [show goodB o = moveB o by simp [goodB, hq1, hq2, hk]]
      simp only [moveB, hq3, decide_true]
      (try simp only [Bool.not_eq_true', Bool.not_eq_false', beq_iff_eq, beq_eq_false_iff_ne, ne_eq] at *)
      rw [Bool.eq_iff_iff]
      simp [stFixed, *]
      try omega
  · have hk' : (o.kind == 1) = false := by simpa using hk
    go_upto_region 9 with (first
      | (with_reducible show wpList _ _ _ _ _ _; refine wpList_load_seg ?hw 30 _ rfl w.heap.size 8 rfl 33 X (0, 0) _ 32 hx (by rw [HS.out]; omega) Try.underlying30 rfl size_id (idC o.data) HD.out ?_; (case hw => (simp [go_sem, *]; done)))
      | (with_reducible show wpList _ _ _ _ _ _; refine wpList_load_seg ?hw 29 _ rfl q 0 rfl 29 litZ (0, 0) _ 32 hz litZ_n Try.underlying29 rfl size_arr litZ litZ_x ?_; (case hw => (simp [go_sem, *]; done)))
      | (go_at_call 15; (with_reducible refine (rright_any o.parent _).mono ?_); rintro e w1 ⟨rfl, hb⟩; have hB := Below.next (w := w) (by assumption) hb; have hx := (hb.block _ (blk_cell hx).2.2).trans hx; have hz := (hb.block _ (blk_cell hz).2.2).trans hz; have hcx := (blk_cell hx).1; have hb := hb)
      | (go_at_call 17; (with_reducible refine (rname_any o.name _ hnm).mono ?_); rintro e w1 ⟨rfl, hb⟩; have hB := Below.next (w := w) (by assumption) hb; have hx := (hb.block _ (blk_cell hx).2.2).trans hx; have hz := (hb.block _ (blk_cell hz).2.2).trans hz; have hcx := (blk_cell hx).1; have hb := hb))
    all_goals first
      | (go_ret; refine Ret.mk (congrArg Value.bool ?_) (by assumption); rw [show goodB o = (decide (o.kind = 2) && editB o) by simp [goodB, hq1, hq2, hk]]; simp only [editB, editH_alt hq3]; (try simp only [Bool.not_eq_true', Bool.not_eq_false', beq_iff_eq, beq_eq_false_iff_ne, ne_eq, bne_iff_ne, bne_eq_false_iff_eq] at *); rw [Bool.eq_iff_iff]; simp [*]; (try omega); done)
      | skip
    have hH : editH o = true := by
      rw [editH_alt hq3]
      (try simp only [Bool.not_eq_true', Bool.not_eq_false', beq_iff_eq, beq_eq_false_iff_ne, ne_eq, bne_iff_ne, bne_eq_false_iff_eq] at *)
      simp [*]
      try omega
    have hG : goodB o = editB o := by
      have hk2 : o.kind = 2 := by
        (try simp only [bne_iff_ne, bne_eq_false_iff_eq] at *)
        omega
      simp [goodB, hq1, hq2, hk2]
    have HG := Lib.hid hG; have HH := Lib.hid hH; have HN := Lib.hid hn; have HV := Lib.hid h.over
    clear hG hH hz hd hnm
    have hn64 : n ≤ 64 := by omega
    have hn0 := h.over.cap
    have hle := h.over.le
    unfold maxLen at hn0
    go_wp2_with fail
    go_loopw [5] (fun i wr => ∃ k : Nat, k ≤ n ∧ i = .int .i64 k ∧ (∀ j, j < k → overAt o.at_ o.over j = true) ∧ Below w.heap.size w wr ∧ wr.heap[w.heap.size]? = some (.cells X 33 (0, 0))) (fun i _ => n - (intOf i).toNat)
    case atStart => exact ⟨0, Nat.zero_le _, rfl, fun j h => absurd h (by omega), hB, hx⟩
    case round =>
      clear hcx hx hB
      obtain ⟨k, hkn', rfl, hall, hB, hx⟩ := hrel
      have hcx := (blk_cell hx).1
      by_cases hkn : k < n
      · have hlt := (blk_cell hx).2.2
        obtain ⟨b, off, rfl, hc⟩ := Sl.st HV.out (by omega)
        obtain ⟨s, hs⟩ : ∃ s, o.over[k]? = some s := ⟨_, List.getElem?_eq_getElem (by have := HN.out; omega)⟩
        have G := hc k s hs
        have k1 := cell_regrown ((hcx 1).trans x1)
        have k2 := cell_regrown ((hcx 2).trans x2)
        have k3 := cell_regrown ((hcx 40).trans x40)
        have k4 := cell_regrown (Below.old hB (Nat.le_refl _) G.1)
        have k5 := cell_regrown (Below.old hB (Nat.le_refl _) G.2)
        cases hq1 : stRight s with
        | false =>
          have HR := rright_is hq1
          clear hc G
          go_wp2_with fail
          (refine wp_region_quiet_below (by kernel_rfl) (by kernel_rfl) ?_; (repeat (go_big_quiet_step ((first | with_reducible exact HR _ _ _)))); refine wpQuiet_nil ?_; intro _ hw'; obtain ⟨⟨dq, osq⟩, hw''⟩ := hw'; subst hw'')
          go_wp2_with fail
          go_ret
          refine Ret.mk (congrArg Value.bool ?_) (Below.next hB (below_regrown _ _ _))
          have hno : overAt o.at_ o.over k = false := by simp [overAt, hs, hq1]
          have hlen := HN.out
          show false = goodB o
          rw [HG.out, editB, overOk_no (by omega) hno, Bool.and_false]
        | true =>
          have HR := rright_is hq1
          rcases stCmp_vals s o.at_ with hz | hz | hz
          · have HC1 := rcmp_is hz
            cases k with
            | zero =>
              simp only [Nat.zero_mul, Nat.add_zero] at k4 k5
              clear hc G
              go_wp2_with fail
              (refine wp_region_quiet_below (by kernel_rfl) (by kernel_rfl) ?_; (repeat (go_big_quiet_step ((first | with_reducible exact HR _ _ _ | with_reducible exact HC1 _ _ _)))); refine wpQuiet_nil ?_; intro _ hw'; obtain ⟨⟨dq, osq⟩, hw''⟩ := hw'; subst hw'')
              go_wp2_with fail
              go_roundw
              case rel =>
                refine ⟨0 + 1, by omega, by go_num, fun i hi => ?_, Below.next hB (below_regrown _ _ _), ((below_regrown _ _ _).block _ (by omega)).trans hx⟩
                rcases Nat.lt_succ_iff_lt_or_eq.1 hi with hi | rfl
                · exact hall i hi
                · simp [overAt_0 hs, hq1, hz]
              case measure => simp [intOf]; omega
            | succ j =>
              obtain ⟨p, hp⟩ : ∃ p, o.over[j]? = some p := ⟨_, List.getElem?_eq_getElem (by have := HN.out; omega)⟩
              have G' := hc j p hp
              have k6 := cell_regrown (Below.old hB (Nat.le_refl _) G'.1)
              have k7 := cell_regrown (Below.old hB (Nat.le_refl _) G'.2)
              rcases stCmp_vals p s with hy | hy | hy
              · have HC2 := rcmp_is hy
                clear hc G
                go_wp2_with fail
                (refine wp_region_quiet_below (by kernel_rfl) (by kernel_rfl) ?_; (repeat (go_big_quiet_step ((first | with_reducible exact HR _ _ _ | with_reducible exact HC1 _ _ _ | with_reducible exact HC2 _ _ _)))); refine wpQuiet_nil ?_; intro _ hw'; obtain ⟨⟨dq, osq⟩, hw''⟩ := hw'; subst hw'')
                go_wp2_with fail
                go_roundw
                case rel =>
                  refine ⟨(j + 1) + 1, by omega, by go_num, fun i hi => ?_, Below.next hB (below_regrown _ _ _), ((below_regrown _ _ _).block _ (by omega)).trans hx⟩
                  rcases Nat.lt_succ_iff_lt_or_eq.1 hi with hi | rfl
                  · exact hall i hi
                  · simp [overAt_s hs hp, hq1, hz, hy]
                case measure => simp [intOf]; omega
              · have HC2 := rcmp_is hy
                clear hc G
                go_wp2_with fail
                (refine wp_region_quiet_below (by kernel_rfl) (by kernel_rfl) ?_; (repeat (go_big_quiet_step ((first | with_reducible exact HR _ _ _ | with_reducible exact HC1 _ _ _ | with_reducible exact HC2 _ _ _)))); refine wpQuiet_nil ?_; intro _ hw'; obtain ⟨⟨dq, osq⟩, hw''⟩ := hw'; subst hw'')
                go_wp2_with fail
                go_ret
                refine Ret.mk (congrArg Value.bool ?_) (Below.next hB (below_regrown _ _ _))
                have hno : overAt o.at_ o.over (j + 1) = false := by simp [overAt_s hs hp, hq1, hz, hy]
                have hlen := HN.out
                show false = goodB o
                rw [HG.out, editB, overOk_no (by omega) hno, Bool.and_false]
              · have HC2 := rcmp_is hy
                clear hc G
                go_wp2_with fail
                (refine wp_region_quiet_below (by kernel_rfl) (by kernel_rfl) ?_; (repeat (go_big_quiet_step ((first | with_reducible exact HR _ _ _ | with_reducible exact HC1 _ _ _ | with_reducible exact HC2 _ _ _)))); refine wpQuiet_nil ?_; intro _ hw'; obtain ⟨⟨dq, osq⟩, hw''⟩ := hw'; subst hw'')
                go_wp2_with fail
                go_ret
                refine Ret.mk (congrArg Value.bool ?_) (Below.next hB (below_regrown _ _ _))
                have hno : overAt o.at_ o.over (j + 1) = false := by simp [overAt_s hs hp, hq1, hz, hy]
                have hlen := HN.out
                show false = goodB o
                rw [HG.out, editB, overOk_no (by omega) hno, Bool.and_false]
          · have HC1 := rcmp_is hz
            clear hc G
            go_wp2_with fail
            (refine wp_region_quiet_below (by kernel_rfl) (by kernel_rfl) ?_; (repeat (go_big_quiet_step ((first | with_reducible exact HR _ _ _ | with_reducible exact HC1 _ _ _)))); refine wpQuiet_nil ?_; intro _ hw'; obtain ⟨⟨dq, osq⟩, hw''⟩ := hw'; subst hw'')
            go_wp2_with fail
            go_ret
            refine Ret.mk (congrArg Value.bool ?_) (Below.next hB (below_regrown _ _ _))
            have hno : overAt o.at_ o.over k = false := by simp [overAt, hs, hq1, hz]
            have hlen := HN.out
            show false = goodB o
            rw [HG.out, editB, overOk_no (by omega) hno, Bool.and_false]
          · have HC1 := rcmp_is hz
            clear hc G
            go_wp2_with fail
            (refine wp_region_quiet_below (by kernel_rfl) (by kernel_rfl) ?_; (repeat (go_big_quiet_step ((first | with_reducible exact HR _ _ _ | with_reducible exact HC1 _ _ _)))); refine wpQuiet_nil ?_; intro _ hw'; obtain ⟨⟨dq, osq⟩, hw''⟩ := hw'; subst hw'')
            go_wp2_with fail
            go_ret
            refine Ret.mk (congrArg Value.bool ?_) (Below.next hB (below_regrown _ _ _))
            have hno : overAt o.at_ o.over k = false := by simp [overAt, hs, hq1, hz]
            have hlen := HN.out
            show false = goodB o
            rw [HG.out, editB, overOk_no (by omega) hno, Bool.and_false]
      · obtain rfl : k = n := by omega
        go_wp2_with fail
        go_ret
        refine Ret.mk (congrArg Value.bool ?_) hB
        have hlen := HN.out
        have : overOk o.at_ o.over = true := (overOk_iff _ _).2 (fun j hj => hall j (by omega))
        simp [HG.out, editB, HH.out, this]

end Go.Proofs.Ytdghnfihphlboaa
