/- A letter is read: the program's function. -/
import Derived.Test.YtfjbmgfkfeehnaaRd
namespace Go.Proofs.Ytfjbmgfkfeehnaa
open Go.RowKit

theorem setRow_same (w : World) (g : Nat) (cs : Array Value) (t : TypeId) (hg : w.heap[g]? = some (.cells cs t (0, 0))) : w.setRow g cs = w := by
  have h1 := setRow_heap w g cs cs t (0, 0) hg
  obtain ⟨heap, tape, drawn, os, output⟩ := w
  have : ∀ k, ((World.mk heap tape drawn os output).setRow g cs).heap[k]? = heap[k]? := fun k => by
    by_cases hk : k = g
    · subst hk; exact h1.trans hg.symm
    · exact setRow_other _ g k cs hk
  have e : ((World.mk heap tape drawn os output).setRow g cs).heap = heap := Array.ext_getElem? this
  have e2 : (World.mk heap tape drawn os output).setRow g cs = { (World.mk heap tape drawn os output) with heap := ((World.mk heap tape drawn os output).setRow g cs).heap } := rfl
  rw [e2, e]

/-- What is written was there already. -/
theorem wp_store_idle {P : Program} {o : Oper} {a : Act} {w : World} {K : Act → World → Prop} {Q : Exit → Act → World → Prop} (ty : TypeId) (x y : Operand) (ho : o.op = .store ty x y) (hdst : o.dst = none)
    (g : Nat) (hx : a.eval x = .pointer (some ⟨g, 0, none⟩)) (cs : Array Value) (hy : a.eval y = .agg cs) (t : TypeId) (hg : w.heap[g]? = some (.cells cs t (0, 0)))
    (hi : (P.info? ty).map (·.size) = some cs.size) (h1 : ∀ v ∈ cs.toList, v.oneCell' = true)
    (h : K a w) : o.wp P a w K Q := by
  have hst := run_storeCells_at P g 0 t cs.toList 0 cs w hg (by simp) h1
  cases hq : P.info? ty with
  | none => simp [hq] at hi
  | some i =>
    have hs : i.size = cs.size := by simpa [hq] using hi
    have hrun : (storeVar ty ⟨g, 0, none⟩ (.agg cs)).run P w = .ok () w := by
      have hp := put_whole cs cs rfl
      unfold put at hp
      simp only [Nat.add_zero, Array.length_toList, List.take_zero, List.nil_append] at hst hp
      simp [storeVar, Value.cells, sizeOf, typeInfo, hq, hs, hst]
      simp only [Nat.zero_add] at hp
      have := setRow_same w g cs t hg
      simpa [hp] using this
    unfold Oper.wp execOp
    simp only [ho, hx, hy, Instr.storeAt, Instr.sureAddr, Sem.run_bind, Sem.run_pure, Result.andThen_ok, hrun]
    simp only [Oper.upon, Act.put, hdst]
    exact h

theorem wpList_store_idle {P : Program} {ops : Array Oper} {rest : List Oper} {o : Oper} {a : Act} {w : World} {Q : Exit → Act → World → Prop} (hw : Region.wanted o (yielded ops a.tmps) = true) (ty : TypeId) (x y : Operand) (ho : o.op = .store ty x y) (hdst : o.dst = none)
    (g : Nat) (hx : a.eval x = .pointer (some ⟨g, 0, none⟩)) (cs : Array Value) (hy : a.eval y = .agg cs) (t : TypeId) (hg : w.heap[g]? = some (.cells cs t (0, 0)))
    (hi : (P.info? ty).map (·.size) = some cs.size) (h1 : ∀ v ∈ cs.toList, v.oneCell' = true)
    (h : wpList P ops Q rest a w) : wpList P ops Q (o :: rest) a w :=
  wpList_wanted hw fun _ hK => wp_store_idle ty x y ho hdst g hx cs hy t hg hi h1 (hK _ _ h)

/-- What Read hands back. -/
def RdPost (w : World) (b : List Int) (e : Ending) (w' : World) : Prop := match readL b with
  | none => e = .returned (.tuple #[.agg (letC zeroL LS.none), .int .i64 20]) ∧ Below w.heap.size w w'
  | some l => ∃ s, e = .returned (.tuple #[.agg (letC l s), .int .i64 0]) ∧ Below w.heap.size w w' ∧ LetA w' l s
theorem RdPost.no {w w' : World} {b : List Int} (h : readL b = none) (hb : Below w.heap.size w w') : RdPost w b (.returned (.tuple #[.agg (letC zeroL LS.none), .int .i64 20])) w' := by
  unfold RdPost
  rw [h]
  exact ⟨rfl, hb⟩
theorem RdPost.yes {w w' : World} {b : List Int} {l : LetL} {s : LS} (h : readL b = some l) (hb : Below w.heap.size w w') (ha : LetA w' l s) : RdPost w b (.returned (.tuple #[.agg (letC l s), .int .i64 0])) w' := by
  unfold RdPost
  rw [h]
  exact ⟨s, rfl, hb, ha⟩
theorem results_cell_tmp {P : Program} {fn : Func} {p q : Tmp} {ty : TypeId} (h : fn.results = #[.cell p ty, .tmp q]) (tmps : Array Value) (w : World) (g : Nat) (t : TypeId) (cs : Array Value) (fr : Nat × Nat) (d : TypeDesc) (v : Value)
    (hp : tmps.getD p undef = .pointer (some ⟨g, 0, none⟩)) (hq : tmps.getD q undef = v) (hg : w.heap[g]? = some (.cells cs t fr))
    (hu : P.underlying ty = some d) (hd : (match d with | .struct _ | .array _ _ => true | _ => false) = true) (hi : (P.info? ty).map (·.size) = some cs.size) :
    (results fn tmps).run P w = .ok (.tuple #[.agg cs, v]) w := by
  have hp' : tmps[p]?.getD undef = .pointer (some ⟨g, 0, none⟩) := by simpa using hp
  have hq' : tmps[q]?.getD undef = v := by simpa using hq
  simp [results, h, hp', hq', asAddr, run_loadVar_row w g t ty cs fr d hg hu hd hi]
theorem letC_zero : letC zeroL LS.none = #[Value.int .i64 0, Value.int .i64 0, Value.int .i64 0, Value.int .i64 0, Value.slice none 0 0, Value.slice none 0 0, Value.slice none 0 0, Value.int .i64 0, Value.int .i64 0, Value.int .u8 0, Value.int .u8 0, Value.int .u8 0, Value.int .u8 0, Value.int .u8 0, Value.int .u8 0, Value.int .u8 0, Value.int .u8 0, Value.int .u8 0, Value.int .u8 0, Value.int .u8 0, Value.int .u8 0, Value.int .u8 0, Value.int .u8 0, Value.int .u8 0, Value.int .u8 0, Value.int .u8 0, Value.int .u8 0, Value.int .u8 0, Value.int .u8 0, Value.int .u8 0, Value.int .u8 0, Value.int .u8 0, Value.int .u8 0, Value.int .u8 0, Value.int .u8 0, Value.int .u8 0, Value.int .u8 0, Value.int .u8 0, Value.int .u8 0, Value.int .u8 0, Value.int .u8 0, Value.slice none 0 0] := rfl
theorem readL_short {b : List Int} (h : b.length < 4) : readL b = none := by unfold readL; rw [if_pos (.inl h)]
theorem readL_long {b : List Int} (h : 65536 < b.length) : readL b = none := by unfold readL; rw [if_pos (.inr h)]
theorem readL_eq {b : List Int} {m : Nat} (hm : b.length - 4 = m) (h4 : 4 ≤ b.length) (h6 : b.length ≤ 65536) (h : unfour (b.drop m) = sumL (b.take m)) :
    readL b = if doneB (readRaw (some (b.take m))).2 && rightB (readRaw (some (b.take m))).1 then some (readRaw (some (b.take m))).1 else none := by
  unfold readL
  rw [hm, if_neg (by omega), if_pos h]
theorem readL_sum {b : List Int} (h : unfour (b.drop (b.length - 4)) ≠ sumL (b.take (b.length - 4))) : readL b = none := by
  unfold readL
  simp [h]

set_option maxRecDepth 100000 in
set_option maxHeartbeats 8000000 in
theorem wireread_any (a : Option Addr) (n c : Nat) (l : List Int) (w : World) (h : Bs w a n c l) (hb : IsBytes l) :
    Calls Try.prog 15 #[.slice a n c] w (RdPost w l) := by
  have hr0 := blk0 w (letC zeroL LS.none) 28
  have hB0 : Below w.heap.size w (w.alloc (.cells (letC zeroL LS.none) 28)) := grow1' _ _ _
  have hn := h.length
  have hcap := h.cap
  have hle := h.le
  unfold maxLen at hcap
  have HN := Lib.hid hn
  have hb_ := Lib.hid hb
  clear hb
  by_cases h4 : n < 4
  · have e4 : decide ((n : Int) < 4) = true := decide_eq_true (by omega)
    have HP := Lib.hid (readL_short (b := l) (by omega))
    clear hn h
    go_enter Try.func15, Try.ntmps15
    (repeat ((fail_if_success (with_reducible show wpList _ _ _ (Oper.mk _ (Op.store _ _ _) _ _ _ _ :: _) _ _)); first | go_values | go_skip | go_guarded | go_step | go_upon))
    refine wpList_store_idle rfl 28 _ _ rfl rfl w.heap.size rfl (letC zeroL LS.none) rfl 28 hr0 info_let (letC_one _ _) ?_
    go_wp2_with fail
    exact bodyPost_ret (results_cell_tmp rfl _ _ w.heap.size 28 (letC zeroL LS.none) (0, 0) _ (.int .i64 20) rfl rfl hr0 Try.underlying28 rfl info_let) rfl (RdPost.no HP.out hB0)
  · have e4 : decide ((n : Int) < 4) = false := decide_eq_false (by omega)
    by_cases h6 : 65536 < n
    · have e6 : decide ((65536 : Int) < (n : Int)) = true := decide_eq_true (by omega)
      have HP := Lib.hid (readL_long (b := l) (by omega))
      clear hn h
      go_enter Try.func15, Try.ntmps15
      (repeat ((fail_if_success (with_reducible show wpList _ _ _ (Oper.mk _ (Op.store _ _ _) _ _ _ _ :: _) _ _)); first | go_values | go_skip | go_guarded | go_step | go_upon))
      refine wpList_store_idle rfl 28 _ _ rfl rfl w.heap.size rfl (letC zeroL LS.none) rfl 28 hr0 info_let (letC_one _ _) ?_
      go_wp2_with fail
      exact bodyPost_ret (results_cell_tmp rfl _ _ w.heap.size 28 (letC zeroL LS.none) (0, 0) _ (.int .i64 20) rfl rfl hr0 Try.underlying28 rfl info_let) rfl (RdPost.no HP.out hB0)
    · have e6 : decide ((65536 : Int) < (n : Int)) = false := decide_eq_false (by omega)
      obtain ⟨m, hm⟩ : ∃ m, n = m + 4 := ⟨n - 4, by omega⟩
      have hw1 : IntKind.i64.wrap ((n : Int) - 4) = (m : Int) := by rw [IntWalk.i64_in _ (by omega)]; omega
      have hw2 : (n : Int) ≤ (c : Int) := by omega
      have hw6 : ¬ c = m := by omega
      have hw3 : (0 : Int) ≤ (m : Int) := by omega
      have hw4 : (m : Int) ≤ (c : Int) := by omega
      have hw5 : (m : Int) ≤ (n : Int) := by omega
      obtain ⟨b, off, rfl, hc⟩ := h.at (by omega)
      have HM := Lib.hid hm
      have hin := Lib.hid (show Bs w (some ⟨b, off, none⟩) m c (l.take m) from ⟨by simp; omega, by omega, h.cap, fun e => (by cases e), fun h0 => by
        obtain ⟨b', off', e, hc'⟩ := Sl.cells h (by omega)
        cases e
        refine ⟨b, off, rfl, fun j hj => ?_⟩
        rw [hc' j (by omega), List.map_take, List.getElem?_take_of_lt (by omega)]⟩)
      have htl := Lib.hid (show Bs w (some ⟨b, off + m, none⟩) (n - m) (c - m) (l.drop m) from by
        have := h.dropA (n := m) (by omega)
        rw [Addr.add_mid] at this
        exact this)
      have HH := Lib.hid h
      clear hn h hm hc
      go_enter Try.func15, Try.ntmps15
      go_upto_region 3 with fail
      rw [← letC_zero]
      have hr := hr0
      have hB := hB0
      clear hr0 hB0
      revert hr hB
      generalize w.alloc (.cells (letC zeroL LS.none) 28) = W0
      intro hr hB
      have HW0 := Lib.hid (show w.heap.size < W0.heap.size from (blk_cell hr).2.2)
      have hread := fun W (hb : Below w.heap.size w W) => read_any _ _ _ _ W (htl.out.below hb) (by have := HN.out; have := HM.out; simp; omega)
      have HRd := Lib.hid hread
      clear hread
      have hBd := hB.drew
      go_region_held3 (fun _ => True) (trivial)
        (first
          | (go_at_call 35; (with_reducible refine (HRd.out _ (by assumption)).mono ?_); rintro e w3 ⟨g1, rfl, hb3, hrd1, hgl1, hgs1⟩; have hB3 := Below.next (w := w) (by assumption) hb3))
      have hr := (hb3.block _ (blk_cell hr).2.2).trans hr
      have hB := hB3
      have hsum := fun W (hb : Below w.heap.size w W) => sum_any _ _ _ _ W (hin.out.below hb) (hb_.out.take m)
      have hfour := rdfour_any g1 g1 _ _ hrd1 (hb_.out.drop m) (by have := HN.out; have := HM.out; simp; omega)
      have HSm := Lib.hid hsum
      have HFr := Lib.hid hfour
      have HG1 := Lib.hid (show W0.heap.size ≤ g1 from hgl1)
      have HR := Lib.hid hr
      have hlm : l.length - 4 = m := by have := HN.out; have := HM.out; omega
      have ht4 : (l.drop m).take 4 = l.drop m := List.take_of_length_le (by have := HN.out; have := HM.out; simp; omega)
      rw [ht4] at HFr
      have HL := Lib.hid hlm
      clear hsum hfour hrd1 hgl1 hr hb3 hlm ht4 hBd hB3
      cases hq : (((unfour (l.drop m) : Nat) : Int) != ((sumL (l.take m) : Nat) : Int)) with
      | true =>
        have HP := Lib.hid (readL_sum (b := l) (by rw [HL.out]; intro e; rw [e] at hq; simp at hq))
        go_upto_region 5 with (first
          | (go_at_call 36; (with_reducible refine HFr.out.mono ?_); rintro e w4 ⟨rfl, hgr4⟩; have hB4 := hB.grown hgr4 hB.size (fun k hk => by cases hk; have := HG1.out; have := HW0.out; omega); have hr4 := (hgr4.block _ (blk_cell HR.out).2.2 (by have := HG1.out; have := HW0.out; simp; omega)).trans HR.out)
          | (go_at_call 24; (with_reducible refine (HSm.out _ (by assumption)).mono ?_); rintro e w5 ⟨rfl, hb5⟩; have hB5 := Below.next (w := w) (by assumption) hb5; have hr5 := (hb5.block _ (blk_cell hr4).2.2).trans hr4))
        (repeat ((fail_if_success (with_reducible show wpList _ _ _ (Oper.mk _ (Op.store _ _ _) _ _ _ _ :: _) _ _)); first | go_values | go_skip | go_guarded | go_step | go_upon))
        refine wpList_store_idle rfl 28 _ _ rfl rfl w.heap.size rfl (letC zeroL LS.none) rfl 28 hr5 info_let (letC_one _ _) ?_
        go_wp2_with fail
        exact bodyPost_ret (results_cell_tmp rfl _ _ w.heap.size 28 (letC zeroL LS.none) (0, 0) _ (.int .i64 20) rfl rfl hr5 Try.underlying28 rfl info_let) rfl (RdPost.no HP.out hB5)
      | false =>
        have HE := Lib.hid (show unfour (l.drop m) = sumL (l.take m) by simp at hq; omega)
        go_upto_region 6 with (first
          | (go_at_call 36; (with_reducible refine HFr.out.mono ?_); rintro e w4 ⟨rfl, hgr4⟩; have hB4 := hB.grown hgr4 hB.size (fun k hk => by cases hk; have := HG1.out; have := HW0.out; omega); have hr4 := (hgr4.block _ (blk_cell HR.out).2.2 (by have := HG1.out; have := HW0.out; simp; omega)).trans HR.out)
          | (go_at_call 24; (with_reducible refine (HSm.out _ (by assumption)).mono ?_); rintro e w5 ⟨rfl, hb5⟩; have hB5 := Below.next (w := w) (by assumption) hb5; have hr5 := (hb5.block _ (blk_cell hr4).2.2).trans hr4))
        clear hq hB4 hr4 hgr4 hb5 hB
        have hread := read_any _ _ _ _ w5 (hin.out.below hB5) (by have := HN.out; have := HM.out; simp; omega)
        go_upto_region 7 with (go_at_call 35; (with_reducible refine hread.mono ?_); rintro e w6 ⟨g, rfl, hb6, hrd6, hgl6, hgs6⟩)
        have hr6 := (hb6.block _ (blk_cell hr5).2.2).trans hr5
        have hB6 := Below.next hB5 hb6
        have hwg : w.heap.size < g := by have := (blk_cell hr5).2.2; omega
        have HSb := Lib.hid (show RdBytes (some (l.take m)) from fun x hx => by cases hx; exact hb_.out.take m)
        clear hread hb6 hgl6 hr5 hB5
        obtain ⟨S0, hS0⟩ : ∃ S0 : Rd, S0 = some (l.take m) := ⟨_, rfl⟩
        rw [← hS0] at hrd6 HSb
        have HS0 := Lib.hid hS0
        clear hS0
        go_wp2_with fail
        go_at_call 37
        refine (rdnum_any _ _ _ 4 _ hrd6 HSb.out).mono ?_
        rintro e w7 ⟨rfl, hgr7, hrd7⟩
        dsimp only
        (repeat ((fail_if_success (with_reducible show wpList _ _ _ (Oper.mk _ (Op.store _ _ _) _ _ _ _ :: _) _ _)); first | go_values | go_skip | go_guarded | go_step | go_upon))
        have hS : RS w (w7.alloc (.cells (letC zeroL LS.none) 28)) g g w7.heap.size zeroL LS.none (getNum 4 S0).2 := by
          have hz := hgr7.size
          have hl := hrd7.lt
          exact ⟨(hB6.grown hgr7 hB6.size (fun k hk => by cases hk; omega)).alloc (by have := hB6.size; omega) _, blk0 _ _ _, (Below.heap_alloc w7 _ _ (by have := hB6.size; omega)).trans ((hgr7.block _ (blk_cell hr6).2.2 (by simp; omega)).trans hr6), hrd7.alloc (Nat.le_of_lt hl) _, Nat.le_refl _, hwg, hl,
            World.ownsRow_nil _ _ _ _, World.ownsRow_nil _ _ _ _, World.ownsRow_nil _ _ _ _, DataAt.nil _ _, mk0_ok 0 0 0 0, HSb.out.getNum 4⟩
        obtain ⟨x1, hx1⟩ : ∃ x, getNum 4 S0 = x := ⟨_, rfl⟩
        rw [hx1] at hS
        simp only [hx1]
        have HX1 := Lib.hid hx1
        refine wpList_store_seg (w := w7.alloc (.cells (letC zeroL LS.none) 28)) rfl 28 _ _ rfl rfl w7.heap.size 0 rfl (letC (mk0 x1.1 0 0 0) LS.none) rfl 28 (letC zeroL LS.none) hS.hq (by rw [letC_size _ _ rfl, letC_size _ _ rfl]; decide) (info_let' _ _ rfl) (letC_one _ _) (letC (mk0 x1.1 0 0 0) LS.none) (put_whole _ _ (by rw [letC_size _ _ rfl, letC_size _ _ rfl])) ?_
        intro w8 hq8 hg8 _
        have hS := hS.store hg8 hq8 rfl rfl rfl rfl (mk0_ok _ _ _ _)
        clear hq8 hg8 hgr7 hrd7 hx1 hr6 hB6 hrd6
        generalize w7.heap.size = q at *
        go_upto_region 8 with fail
        obtain ⟨x2, hx2⟩ : ∃ x, getNum 65536 x1.2 = x := ⟨_, rfl⟩
        go_wp2_with fail
        go_at_call 37
        refine (rdnum_any _ _ _ 65536 _ hS.rd hS.sb).mono ?_
        rintro e w6 ⟨rfl, hgr, hrd⟩
        have hS := hS.call hgr hrd (hS.sb.getNum 65536)
        rw [hx2] at hS
        dsimp only
        simp only [hx2]
        have Hx2 := Lib.hid hx2
        clear hgr hrd hx2
        have c1 := show w6.cell? ⟨q, 1, none⟩ = some (.int .i64 0) from (blk_cell hS.hq).1 1
        have f1 := (blk_cell hS.hq).2.1 1
        go_upto_region 9 with fail
        have hS := hS.store (l' := mk0 x1.1 x2.1 0 0) (grown_set w6 q 1 (.int .i64 x2.1)) ((heap_setCell_same w6 q 1 _ _ (.int .i64 x2.1) hS.hq).trans rfl) rfl rfl rfl rfl (mk0_ok _ _ _ _)
        clear c1 f1
        generalize w6.setCell ⟨q, 1, none⟩ (.int .i64 x2.1) = w8 at *
        obtain ⟨x3, hx3⟩ : ∃ x, getNum 65536 x2.2 = x := ⟨_, rfl⟩
        go_wp2_with fail
        go_at_call 37
        refine (rdnum_any _ _ _ 65536 _ hS.rd hS.sb).mono ?_
        rintro e w6 ⟨rfl, hgr, hrd⟩
        have hS := hS.call hgr hrd (hS.sb.getNum 65536)
        rw [hx3] at hS
        dsimp only
        simp only [hx3]
        have Hx3 := Lib.hid hx3
        clear hgr hrd hx3
        have c1 := show w6.cell? ⟨q, 2, none⟩ = some (.int .i64 0) from (blk_cell hS.hq).1 2
        have f1 := (blk_cell hS.hq).2.1 2
        go_upto_region 10 with fail
        have hS := hS.store (l' := mk0 x1.1 x2.1 x3.1 0) (grown_set w6 q 2 (.int .i64 x3.1)) ((heap_setCell_same w6 q 2 _ _ (.int .i64 x3.1) hS.hq).trans rfl) rfl rfl rfl rfl (mk0_ok _ _ _ _)
        clear c1 f1
        generalize w6.setCell ⟨q, 2, none⟩ (.int .i64 x3.1) = w8 at *
        obtain ⟨x4, hx4⟩ : ∃ x, getNum 1099511627776 x3.2 = x := ⟨_, rfl⟩
        go_wp2_with fail
        go_at_call 37
        refine (rdnum_any _ _ _ 1099511627776 _ hS.rd hS.sb).mono ?_
        rintro e w6 ⟨rfl, hgr, hrd⟩
        have hS := hS.call hgr hrd (hS.sb.getNum 1099511627776)
        rw [hx4] at hS
        dsimp only
        simp only [hx4]
        have Hx4 := Lib.hid hx4
        clear hgr hrd hx4
        have c1 := show w6.cell? ⟨q, 3, none⟩ = some (.int .i64 0) from (blk_cell hS.hq).1 3
        have f1 := (blk_cell hS.hq).2.1 3
        go_upto_region 11 with fail
        have hS := hS.store (l' := mk0 x1.1 x2.1 x3.1 x4.1) (grown_set w6 q 3 (.int .i64 x4.1)) ((heap_setCell_same w6 q 3 _ _ (.int .i64 x4.1) hS.hq).trans rfl) rfl rfl rfl rfl (mk0_ok _ _ _ _)
        clear c1 f1
        generalize w6.setCell ⟨q, 3, none⟩ (.int .i64 x4.1) = w8 at *
        have HRd := Lib.hid (show readRaw S0 = readTail (mk0 x1.1 x2.1 x3.1 x4.1) x4.2 by
          simp only [readRaw, head4, head3, head2, head1, HX1.out, Hx2.out, Hx3.out, Hx4.out])
        have c0 := show w8.cell? ⟨q, 0, none⟩ = some (.int .i64 x1.1) from (blk_cell hS.hq).1 0
        by_cases hk2 : x1.1 = 2
        · have e2 : (x1.1 == 2) = true := by simp [hk2]
          go_upto_region 13 with fail
          clear c0
          go_wp2_with fail
          go_at_call 37
          refine (rdnum_any _ _ _ 100 _ hS.rd hS.sb).mono ?_
          rintro e w6 ⟨rfl, hgr, hrd⟩
          have hS := hS.call hgr hrd (hS.sb.getNum 100)
          clear hgr hrd
          dsimp only
          have HGr := Lib.hid (show getRefs x4.2 = getRefsN (getNum 100 x4.2).1.toNat (getNum 100 x4.2).2 from rfl)
          have hk0 := getNum_nonneg 100 x4.2
          have hk1 := getNum_le (s := x4.2) (most := 100) (by omega)
          revert hS HGr hk0 hk1
          generalize getNum 100 x4.2 = y
          obtain ⟨k', Sy⟩ := y
          intro hS HGr hk0 hk1
          simp only at hk0 hk1 HGr hS ⊢
          obtain ⟨k, rfl⟩ := Int.eq_ofNat_of_zero_le hk0
          simp only [Int.toNat_natCast] at HGr
          go_upto_region 14 with fail
          go_loopw [55] (fun i wr => ∃ (j : Nat) (a : Option Addr) (c : Nat), j ≤ k ∧ i = .int .i64 j ∧ RS w wr g g q { mk0 x1.1 x2.1 x3.1 x4.1 with refs := (getRefsN j Sy).1 } { LS.none with ra := a, rn := j, rc := c } (getRefsN j Sy).2) (fun i _ => k - (intOf i).toNat)
          case atStart => exact ⟨0, none, 0, Nat.zero_le _, rfl, hS⟩
          case round =>
            have HSy := Lib.hid hS.sb
            clear hS
            obtain ⟨j, a5, c5, hj, rfl, hS⟩ := hrel
            by_cases hjk : j < k
            · have HN1 := Lib.hid (show getRefsN (j + 1) Sy = ((getRefsN j Sy).1 ++ [(getRef (getRefsN j Sy).2).1], (getRef (getRefsN j Sy).2).2) from rfl)
              have hall := getRefsN_all HSy.out (j + 1)
              rw [HN1.out] at hall
              have hHall := Lib.hid hall
              clear hall
              go_wp2_with fail
              go_at_call 38
              refine (rdtext_any _ _ _ 60 _ hS.rd hS.sb).mono ?_
              rintro e w6 ⟨rfl, hgr, hrd⟩
              have hS := hS.call hgr hrd (hS.sb.getText 60).1
              clear hgr hrd
              dsimp only
              have htb := hS.sb
              generalize ht1 : (getText 60 (getRefsN j Sy).2) = t1 at *
              have HT1 := Lib.hid ht1
              clear ht1
              have hz := blk0 w6 (rfC rf0) 52
              (repeat ((fail_if_success (with_reducible show wpList _ _ _ (Oper.mk _ (Op.store _ _ _) _ _ _ _ :: _) _ _)); first | go_values | go_skip | go_guarded | go_step | go_upon))
              refine wpList_store_seg (w := w6.alloc (.cells (rfC rf0) 52)) rfl 52 _ _ rfl rfl w6.heap.size 0 rfl (rfC ⟨toS t1.1, zero32⟩) rfl 52 (rfC rf0) hz (by rw [rfC_size rfl]; decide) (info_rf' rfl) (one_rf _) (rfC ⟨toS t1.1, zero32⟩) (put_whole _ _ (by rw [rfC_size rfl]; rfl)) ?_
              intro w7 hq7 hg7 _
              have hB7 : Below w6.heap.size w6 w7 := (grow1' w6 (rfC rf0) 52).grown hg7 (by simp) (fun k hk => by cases hk; omega)
              have hS7 := hS.quiet hB7
              have hqr := hS.qlt
              have hgq := hS.gq
              clear hg7 hz
              generalize hr8 : w6.heap.size = r8 at *
              have HR8 := Lib.hid hr8
              clear hr8
              go_wp2_with fail
              go_at_call 39
              refine (rdid_any _ _ _ _ hS7.rd (by have := hS7.qlt; omega)).mono ?_
              rintro e w8 ⟨rfl, hgr8, hrd8⟩
              have hid := getId_bytes htb
              have hq8 := (hgr8.block r8 (blk_cell hq7).2.2 (by simp; omega)).trans hq7
              have hg68 : w6.grownBy w8 (some g) := grown_trans (grown_below (HR8.out ▸ hB7)) hgr8
              dsimp only
              generalize ht2 : getId t1.2 = t2 at *
              have HT2 := Lib.hid ht2
              clear ht2
              have c1 := segW_of hq8 1 32 (by rw [rfC_size rfl]; omega)
              have hsz := idC_size hid.1
              have hon := ones_id t2.1
              go_upto_region 17 with fail
              have hq9 := (heap_setSeg hq8 1 (idC t2.1)).trans (by rw [put_rfid _ _ hid.1])
              have hg69 := grown_new hg68 (grown_setSeg w8 r8 1 (idC t2.1)) (fun i hi => by cases hi; have := HR8.out; omega)
              have hrd9 : RdAt (setSeg w8 r8 1 (idC t2.1)) g g t2.2 := hrd8.grown' (grown_setSeg w8 r8 1 (idC t2.1)) (by omega) (by omega) (by have := hrd8.lt; omega)
              have hgr' : getRef (getRefsN j Sy).2 = (⟨toS t1.1, t2.1⟩, t2.2) := by unfold getRef; rw [HT1.out, HT2.out]
              rw [hgr'] at HN1 hHall
              have hS9 := hS.call hg69 hrd9 (HT2.out ▸ htb.getId)
              clear hS hS7 hq8 hg68 hg69 hrd8 hrd9 hgr8 c1 hsz hon hq7 hB7 hgr'
              generalize setSeg w8 r8 1 (idC t2.1) = w9 at *
              have c4 := show w9.cell? ⟨q, 4, none⟩ = some (.slice a5 j c5) from (blk_cell hS9.hq).1 4
              have hsr := seg_rf0 hq9 hid.1
              have hsz := rfC_size (r := ⟨toS t1.1, t2.1⟩) hid.1
              repeat ((fail_if_success at_builtin); first | go_values | go_skip | go_guarded | go_step | go_upon)
              at_builtin
              refine app_rf rfl _ _ rfl (q + 1) _ _ _ rfl (own_below hS9.refs (grow1' w9 (rfC ⟨toS t1.1, t2.1⟩) 52)) w9.heap.size 1 ⟨toS t1.1, t2.1⟩ rfl (blk0 w9 _ _) hid.1 (by show j + 1 ≤ _; omega) (by have := hS9.qlt; simp; omega) ?_
              intro v' w10 hown10 hgr10
              obtain ⟨a6, c6, rfl, _⟩ := own_form hown10
              have hq10 := (hgr10.block q (by have := hS9.qlt; simp; omega) (fun e => by have := ((World.ownsRow.lt hS9.refs) q e.symm).1; omega)).trans (hS9.quiet (grow1' w9 (rfC ⟨toS t1.1, t2.1⟩) 52)).hq
              have hS10 := (hS9.quiet (grow1' w9 (rfC ⟨toS t1.1, t2.1⟩) 52)).push rfl rfl rfl hgr10 (fun i hi => by have := ((World.ownsRow.lt hS9.refs) i hi).1; omega) (rs' := (getRefsN j Sy).1 ++ [⟨toS t1.1, t2.1⟩]) (by rw [rowC_snoc]; exact hown10) hHall.out
              have c4' := show w10.cell? ⟨q, 4, none⟩ = some (.slice a5 j c5) from (blk_cell hq10).1 4
              have f4 := (blk_cell hq10).2.1 4
              clear c4 hsr hsz hown10 hgr10 hq10 hS9 hq9
              go_wp2_with fail
              go_roundw
              case rel => exact ⟨j + 1, by omega, by go_num, a6, c6, by { rw [HN1.out]; have hS11 := hS10; rw [hk2] at hS11; exact hS11 }⟩
              case measure => simp [intOf]; omega
            · obtain rfl : j = k := by omega
              have HRaw := Lib.hid (show readRaw S0 = ({ mk0 x1.1 x2.1 x3.1 x4.1 with refs := (getRefsN j Sy).1 }, (getRefsN j Sy).2) by
                rw [HRd.out, readTail_2 hk2, HGr.out])
              obtain ⟨sO, hS⟩ : ∃ sO, RS w wr g g q { mk0 x1.1 x2.1 x3.1 x4.1 with refs := (getRefsN j Sy).1 } sO (getRefsN j Sy).2 := ⟨_, hS⟩
              go_upto_region 28 with fail
              revert hS HRaw
              generalize ({ mk0 x1.1 x2.1 x3.1 x4.1 with refs := (getRefsN j Sy).1 } : LetL) = O
              generalize (getRefsN j Sy).2 = SO
              intro HRaw hS
              have HRl := Lib.hid (readL_eq (b := l) (m := m) HL.out (by have := HN.out; omega) (by have := HN.out; omega) HE.out)
              have hdn := rddone_any g g _ _ hS.rd
              have HRi := Lib.hid (right_any _ _ _ hS.let)
              have hsl := seg_let hS.hq hS.ok.pack
              cases hd : doneB SO with
              | false =>
                have HP := Lib.hid (show readL l = none by rw [HRl.out, ← HS0.out, HRaw.out]; simp [hd])
                rw [hd] at hdn
                go_upto_region 29 with (go_at_call 41; refine hdn.mono ?_; rintro e w9 ⟨rfl, rfl⟩)
                (repeat ((fail_if_success (with_reducible show wpList _ _ _ (Oper.mk _ (Op.store _ _ _) _ _ _ _ :: _) _ _)); first | go_values | go_skip | go_guarded | go_step | go_upon))
                refine wpList_store_idle rfl 28 _ _ rfl rfl w.heap.size rfl (letC zeroL LS.none) rfl 28 hS.hr info_let (letC_one _ _) ?_
                go_wp2_with fail
                exact bodyPost_ret (results_cell_tmp rfl _ _ w.heap.size 28 (letC zeroL LS.none) (0, 0) _ (.int .i64 20) rfl rfl hS.hr Try.underlying28 rfl info_let) rfl (RdPost.no HP.out hS.B)
              | true =>
                rw [hd] at hdn
                cases hrt : rightB O with
                | false =>
                  have HP := Lib.hid (show readL l = none by rw [HRl.out, ← HS0.out, HRaw.out]; simp [hrt])
                  rw [hrt] at HRi
                  go_upto_region 29 with (first
                    | (go_at_call 41; refine hdn.mono ?_; rintro e w9 ⟨rfl, rfl⟩)
                    | (go_at_call 12; (with_reducible refine HRi.out.mono ?_); rintro e w9 ⟨rfl, hb9⟩; have hS := hS.quiet hb9))
                  (repeat ((fail_if_success (with_reducible show wpList _ _ _ (Oper.mk _ (Op.store _ _ _) _ _ _ _ :: _) _ _)); first | go_values | go_skip | go_guarded | go_step | go_upon))
                  refine wpList_store_idle rfl 28 _ _ rfl rfl w.heap.size rfl (letC zeroL LS.none) rfl 28 hS.hr info_let (letC_one _ _) ?_
                  go_wp2_with fail
                  exact bodyPost_ret (results_cell_tmp rfl _ _ w.heap.size 28 (letC zeroL LS.none) (0, 0) _ (.int .i64 20) rfl rfl hS.hr Try.underlying28 rfl info_let) rfl (RdPost.no HP.out hS.B)
                | true =>
                  have HP := Lib.hid (show readL l = some O by rw [HRl.out, ← HS0.out, HRaw.out]; simp [hd, hrt])
                  rw [hrt] at HRi
                  have HPk := Lib.hid hS.ok.pack
                  go_upto_region 30 with (first
                    | (go_at_call 41; refine hdn.mono ?_; rintro e w9 ⟨rfl, rfl⟩)
                    | (go_at_call 12; (with_reducible refine HRi.out.mono ?_); rintro e w9 ⟨rfl, hb9⟩; have hS := hS.quiet hb9; have hsl := seg_below hsl hb9))
                  (repeat ((fail_if_success (with_reducible show wpList _ _ _ (Oper.mk _ (Op.store _ _ _) _ _ _ _ :: _) _ _)); first | go_values | go_skip | go_guarded | go_step | go_upon))
                  refine wpList_store_seg rfl 28 _ _ rfl rfl w.heap.size 0 rfl (letC O sO) rfl 28 (letC zeroL LS.none) hS.hr (by rw [letC_size _ _ HPk.out, letC_size _ _ rfl]; decide) (info_let' _ _ HPk.out) (letC_one _ _) (letC O sO) (put_whole _ _ (by rw [letC_size _ _ HPk.out, letC_size _ _ rfl])) ?_
                  intro w10 hq10 hg10 _
                  go_wp2_with fail
                  refine bodyPost_ret (results_cell_tmp rfl _ _ w.heap.size 28 (letC O sO) (0, 0) _ (.int .i64 0) rfl rfl hq10 Try.underlying28 rfl (info_let' _ _ HPk.out)) rfl (RdPost.yes HP.out (hS.B.grown hg10 hS.B.size (fun k hk => by cases hk; omega)) ?_)
                  have hkeep : ∀ j, (some w.heap.size : Option Nat) = some j → j < q + 1 := fun j hj => by cases hj; have := hS.wg; have := hS.gq; omega
                  exact ⟨⟨own_sl (own_grown hS.refs hg10 hkeep), hS.ok.refs⟩, ⟨own_sl (own_grown hS.wants hg10 hkeep), hS.ok.wants⟩, ⟨own_sl (own_grown hS.haves hg10 hkeep), hS.ok.haves⟩, (hS.data.grown hg10 (by have := hS.wg; have := hS.gq; omega)).1, hS.ok.pack, hS.ok.data, hS.ok.packb⟩
        · have e2 : (x1.1 == 2) = false := by simp [hk2]
          by_cases hk3 : x1.1 = 3
          · have e3 : (x1.1 == 3) = true := by simp [hk3]
            go_upto_region 20 with fail
            clear c0
            go_wp2_with fail
            go_at_call 40
            refine (getids_any _ _ _ 100 _ hS.rd hS.sb (by omega) (by omega) (by have := hS.qlt; have := hS.gq; omega)).mono ?_
            rintro e w6 ⟨a6, n6, c6, rfl, hgr, hrd, hown⟩
            have hall := getIds_all hS.sb 100
            have hown := own_base (base' := q + 1) hown hS.qlt
            have hS := hS.call hgr hrd (hS.sb.getIds 100)
            clear hgr hrd
            dsimp only
            generalize hgx : getIds 100 x4.2 = y1 at hS hown hall
            have HXy1 := Lib.hid hgx
            clear hgx
            have c1 := show w6.cell? ⟨q, 5, none⟩ = some (.slice none 0 0) from (blk_cell hS.hq).1 5
            have f1 := (blk_cell hS.hq).2.1 5
            go_upto_region 21 with fail
            have hS := hS.setWants hown hall
            clear c1 f1 hown hall
            generalize w6.setCell ⟨q, 5, none⟩ (.slice a6 n6 c6) = w8 at *
            go_wp2_with fail
            go_at_call 40
            refine (getids_any _ _ _ 200 _ hS.rd hS.sb (by omega) (by omega) (by have := hS.qlt; have := hS.gq; omega)).mono ?_
            rintro e w6 ⟨a6, n6, c6, rfl, hgr, hrd, hown⟩
            have hall := getIds_all hS.sb 200
            have hown := own_base (base' := q + 1) hown hS.qlt
            have hS := hS.call hgr hrd (hS.sb.getIds 200)
            clear hgr hrd
            dsimp only
            generalize hgx : getIds 200 y1.2 = y2 at hS hown hall
            have HXy2 := Lib.hid hgx
            clear hgx
            have c1 := show w6.cell? ⟨q, 6, none⟩ = some (.slice none 0 0) from (blk_cell hS.hq).1 6
            have f1 := (blk_cell hS.hq).2.1 6
            go_upto_region 22 with fail
            have hS := hS.setHaves hown hall
            clear c1 f1 hown hall
            generalize w6.setCell ⟨q, 6, none⟩ (.slice a6 n6 c6) = w8 at *
            go_wp2_with fail
            go_at_call 37
            refine (rdnum_any _ _ _ 1048576 _ hS.rd hS.sb).mono ?_
            rintro e w6 ⟨rfl, hgr, hrd⟩
            have hS := hS.call hgr hrd (hS.sb.getNum 1048576)
            clear hgr hrd
            dsimp only
            generalize hgx : getNum 1048576 y2.2 = y3 at *
            have HXy3 := Lib.hid hgx
            clear hgx
            have c1 := show w6.cell? ⟨q, 7, none⟩ = some (.int .i64 0) from (blk_cell hS.hq).1 7
            have f1 := (blk_cell hS.hq).2.1 7
            go_upto_region 28 with fail
            have hS := hS.setOff y3.1
            clear c1 f1
            generalize w6.setCell ⟨q, 7, none⟩ (.int .i64 y3.1) = w8 at *
            have HRaw := Lib.hid (show readRaw S0 = ({ mk0 x1.1 x2.1 x3.1 x4.1 with wants := y1.1, haves := y2.1, off := y3.1 }, y3.2) by
              rw [HRd.out, readTail_3 hk3, HXy1.out, HXy2.out, HXy3.out])
            obtain ⟨sO, hS⟩ : ∃ sO, RS w w8 g g q { mk0 x1.1 x2.1 x3.1 x4.1 with wants := y1.1, haves := y2.1, off := y3.1 } sO y3.2 := ⟨_, hS⟩
            revert hS HRaw
            generalize ({ mk0 x1.1 x2.1 x3.1 x4.1 with wants := y1.1, haves := y2.1, off := y3.1 } : LetL) = O
            generalize y3.2 = SO
            intro HRaw hS
            have HRl := Lib.hid (readL_eq (b := l) (m := m) HL.out (by have := HN.out; omega) (by have := HN.out; omega) HE.out)
            have hdn := rddone_any g g _ _ hS.rd
            have HRi := Lib.hid (right_any _ _ _ hS.let)
            have hsl := seg_let hS.hq hS.ok.pack
            cases hd : doneB SO with
            | false =>
              have HP := Lib.hid (show readL l = none by rw [HRl.out, ← HS0.out, HRaw.out]; simp [hd])
              rw [hd] at hdn
              go_upto_region 29 with (go_at_call 41; refine hdn.mono ?_; rintro e w9 ⟨rfl, rfl⟩)
              (repeat ((fail_if_success (with_reducible show wpList _ _ _ (Oper.mk _ (Op.store _ _ _) _ _ _ _ :: _) _ _)); first | go_values | go_skip | go_guarded | go_step | go_upon))
              refine wpList_store_idle rfl 28 _ _ rfl rfl w.heap.size rfl (letC zeroL LS.none) rfl 28 hS.hr info_let (letC_one _ _) ?_
              go_wp2_with fail
              exact bodyPost_ret (results_cell_tmp rfl _ _ w.heap.size 28 (letC zeroL LS.none) (0, 0) _ (.int .i64 20) rfl rfl hS.hr Try.underlying28 rfl info_let) rfl (RdPost.no HP.out hS.B)
            | true =>
              rw [hd] at hdn
              cases hrt : rightB O with
              | false =>
                have HP := Lib.hid (show readL l = none by rw [HRl.out, ← HS0.out, HRaw.out]; simp [hrt])
                rw [hrt] at HRi
                go_upto_region 29 with (first
                  | (go_at_call 41; refine hdn.mono ?_; rintro e w9 ⟨rfl, rfl⟩)
                  | (go_at_call 12; (with_reducible refine HRi.out.mono ?_); rintro e w9 ⟨rfl, hb9⟩; have hS := hS.quiet hb9))
                (repeat ((fail_if_success (with_reducible show wpList _ _ _ (Oper.mk _ (Op.store _ _ _) _ _ _ _ :: _) _ _)); first | go_values | go_skip | go_guarded | go_step | go_upon))
                refine wpList_store_idle rfl 28 _ _ rfl rfl w.heap.size rfl (letC zeroL LS.none) rfl 28 hS.hr info_let (letC_one _ _) ?_
                go_wp2_with fail
                exact bodyPost_ret (results_cell_tmp rfl _ _ w.heap.size 28 (letC zeroL LS.none) (0, 0) _ (.int .i64 20) rfl rfl hS.hr Try.underlying28 rfl info_let) rfl (RdPost.no HP.out hS.B)
              | true =>
                have HP := Lib.hid (show readL l = some O by rw [HRl.out, ← HS0.out, HRaw.out]; simp [hd, hrt])
                rw [hrt] at HRi
                have HPk := Lib.hid hS.ok.pack
                go_upto_region 30 with (first
                  | (go_at_call 41; refine hdn.mono ?_; rintro e w9 ⟨rfl, rfl⟩)
                  | (go_at_call 12; (with_reducible refine HRi.out.mono ?_); rintro e w9 ⟨rfl, hb9⟩; have hS := hS.quiet hb9; have hsl := seg_below hsl hb9))
                (repeat ((fail_if_success (with_reducible show wpList _ _ _ (Oper.mk _ (Op.store _ _ _) _ _ _ _ :: _) _ _)); first | go_values | go_skip | go_guarded | go_step | go_upon))
                refine wpList_store_seg rfl 28 _ _ rfl rfl w.heap.size 0 rfl (letC O sO) rfl 28 (letC zeroL LS.none) hS.hr (by rw [letC_size _ _ HPk.out, letC_size _ _ rfl]; decide) (info_let' _ _ HPk.out) (letC_one _ _) (letC O sO) (put_whole _ _ (by rw [letC_size _ _ HPk.out, letC_size _ _ rfl])) ?_
                intro w10 hq10 hg10 _
                go_wp2_with fail
                refine bodyPost_ret (results_cell_tmp rfl _ _ w.heap.size 28 (letC O sO) (0, 0) _ (.int .i64 0) rfl rfl hq10 Try.underlying28 rfl (info_let' _ _ HPk.out)) rfl (RdPost.yes HP.out (hS.B.grown hg10 hS.B.size (fun k hk => by cases hk; omega)) ?_)
                have hkeep : ∀ j, (some w.heap.size : Option Nat) = some j → j < q + 1 := fun j hj => by cases hj; have := hS.wg; have := hS.gq; omega
                exact ⟨⟨own_sl (own_grown hS.refs hg10 hkeep), hS.ok.refs⟩, ⟨own_sl (own_grown hS.wants hg10 hkeep), hS.ok.wants⟩, ⟨own_sl (own_grown hS.haves hg10 hkeep), hS.ok.haves⟩, (hS.data.grown hg10 (by have := hS.wg; have := hS.gq; omega)).1, hS.ok.pack, hS.ok.data, hS.ok.packb⟩
          · have e3 : (x1.1 == 3) = false := by simp [hk3]
            by_cases hk4 : x1.1 = 4
            · have e4' : (x1.1 == 4) = true := by simp [hk4]
              go_upto_region 24 with fail
              clear c0
              go_wp2_with fail
              go_at_call 39
              refine (rdid_any _ _ _ _ hS.rd (by have := hS.qlt; have := hS.gq; omega)).mono ?_
              rintro e w6 ⟨rfl, hgr, hrd⟩
              have hall := getId_bytes hS.sb
              have hS := hS.call hgr hrd hS.sb.getId
              clear hgr hrd
              dsimp only
              generalize hgx : getId x4.2 = y1 at *
              have HXy1 := Lib.hid hgx
              clear hgx
              have c1 := segW_of hS.hq 9 32 (by rw [letC_size _ _ hS.ok.pack]; omega)
              have hsz := idC_size hall.1
              have hon := ones_id y1.1
              go_upto_region 25 with fail
              have hS := hS.setPack y1.1 hall
              clear c1 hsz hon hall
              generalize setSeg w6 q 9 (idC y1.1) = w8 at *
              go_wp2_with fail
              go_at_call 37
              refine (rdnum_any _ _ _ 1048576 _ hS.rd hS.sb).mono ?_
              rintro e w6 ⟨rfl, hgr, hrd⟩
              have hS := hS.call hgr hrd (hS.sb.getNum 1048576)
              clear hgr hrd
              dsimp only
              generalize hgx : getNum 1048576 y1.2 = y2 at *
              have HXy2 := Lib.hid hgx
              clear hgx
              have c1 := show w6.cell? ⟨q, 7, none⟩ = some (.int .i64 0) from (blk_cell hS.hq).1 7
              have f1 := (blk_cell hS.hq).2.1 7
              go_upto_region 26 with fail
              have hS := hS.setOff y2.1
              clear c1 f1
              generalize w6.setCell ⟨q, 7, none⟩ (.int .i64 y2.1) = w8 at *
              go_wp2_with fail
              go_at_call 37
              refine (rdnum_any _ _ _ 1048576 _ hS.rd hS.sb).mono ?_
              rintro e w6 ⟨rfl, hgr, hrd⟩
              have hS := hS.call hgr hrd (hS.sb.getNum 1048576)
              clear hgr hrd
              dsimp only
              generalize hgx : getNum 1048576 y2.2 = y3 at *
              have HXy3 := Lib.hid hgx
              clear hgx
              have c1 := show w6.cell? ⟨q, 8, none⟩ = some (.int .i64 0) from (blk_cell hS.hq).1 8
              have f1 := (blk_cell hS.hq).2.1 8
              go_upto_region 27 with fail
              have hS := hS.setTotal y3.1
              clear c1 f1
              generalize w6.setCell ⟨q, 8, none⟩ (.int .i64 y3.1) = w8 at *
              go_wp2_with fail
              go_at_call 38
              refine (rdtext_any _ _ _ 500 _ hS.rd hS.sb).mono ?_
              rintro e w6 ⟨rfl, hgr, hrd⟩
              have hall := (hS.sb.getText 500).2
              have hS := hS.call hgr hrd (hS.sb.getText 500).1
              clear hgr hrd
              dsimp only
              generalize hgx : getText 500 y3.2 = y4 at *
              have HXy4 := Lib.hid hgx
              have htl := getText_len (s := y3.2) 500 (by omega)
              rw [hgx] at htl
              clear hgx
              obtain ⟨W9, c9, hcv, hcb, hcs⟩ := conv_str (toS y4.1) w6 (by rw [toS_size]; omega)
              rw [strB_toS hall] at hcs
              have hlt9 := hS.qlt
              have hS9 := hS.quiet hcb
              have hd9 : DataAt W9 q (some ⟨w6.heap.size, 0, none⟩) (toS y4.1).size c9 y4.1 := ⟨hcs, fun x hx => by cases hx; exact hlt9⟩
              have c1 : W9.cell? ⟨q, 41, none⟩ = some (.slice none 0 0) := ((blk_cell hS9.hq).1 41).trans (letC_x _ _ hS9.ok.pack).x41
              have f1 := (blk_cell hS9.hq).2.1 41
              clear hcs hcb hlt9 htl
              go_upto_region 28 with fail
              have hS := hS9.setData hd9 hall
              clear c1 f1 hall hd9 hS9 hcv
              have HRaw := Lib.hid (show readRaw S0 = ({ mk0 x1.1 x2.1 x3.1 x4.1 with pack := y1.1, off := y2.1, total := y3.1, data := y4.1 }, y4.2) by
                rw [HRd.out, readTail_4 hk4, HXy1.out, HXy2.out, HXy3.out, HXy4.out])
              generalize W9.setCell ⟨q, 41, none⟩ (.slice (some ⟨w6.heap.size, 0, none⟩) (toS y4.1).size c9) = w8 at *
              obtain ⟨sO, hS⟩ : ∃ sO, RS w w8 g g q { mk0 x1.1 x2.1 x3.1 x4.1 with pack := y1.1, off := y2.1, total := y3.1, data := y4.1 } sO y4.2 := ⟨_, hS⟩
              revert hS HRaw
              generalize ({ mk0 x1.1 x2.1 x3.1 x4.1 with pack := y1.1, off := y2.1, total := y3.1, data := y4.1 } : LetL) = O
              generalize y4.2 = SO
              intro HRaw hS
              have HRl := Lib.hid (readL_eq (b := l) (m := m) HL.out (by have := HN.out; omega) (by have := HN.out; omega) HE.out)
              have hdn := rddone_any g g _ _ hS.rd
              have HRi := Lib.hid (right_any _ _ _ hS.let)
              have hsl := seg_let hS.hq hS.ok.pack
              cases hd : doneB SO with
              | false =>
                have HP := Lib.hid (show readL l = none by rw [HRl.out, ← HS0.out, HRaw.out]; simp [hd])
                rw [hd] at hdn
                go_upto_region 29 with (go_at_call 41; refine hdn.mono ?_; rintro e w9 ⟨rfl, rfl⟩)
                (repeat ((fail_if_success (with_reducible show wpList _ _ _ (Oper.mk _ (Op.store _ _ _) _ _ _ _ :: _) _ _)); first | go_values | go_skip | go_guarded | go_step | go_upon))
                refine wpList_store_idle rfl 28 _ _ rfl rfl w.heap.size rfl (letC zeroL LS.none) rfl 28 hS.hr info_let (letC_one _ _) ?_
                go_wp2_with fail
                exact bodyPost_ret (results_cell_tmp rfl _ _ w.heap.size 28 (letC zeroL LS.none) (0, 0) _ (.int .i64 20) rfl rfl hS.hr Try.underlying28 rfl info_let) rfl (RdPost.no HP.out hS.B)
              | true =>
                rw [hd] at hdn
                cases hrt : rightB O with
                | false =>
                  have HP := Lib.hid (show readL l = none by rw [HRl.out, ← HS0.out, HRaw.out]; simp [hrt])
                  rw [hrt] at HRi
                  go_upto_region 29 with (first
                    | (go_at_call 41; refine hdn.mono ?_; rintro e w9 ⟨rfl, rfl⟩)
                    | (go_at_call 12; (with_reducible refine HRi.out.mono ?_); rintro e w9 ⟨rfl, hb9⟩; have hS := hS.quiet hb9))
                  (repeat ((fail_if_success (with_reducible show wpList _ _ _ (Oper.mk _ (Op.store _ _ _) _ _ _ _ :: _) _ _)); first | go_values | go_skip | go_guarded | go_step | go_upon))
                  refine wpList_store_idle rfl 28 _ _ rfl rfl w.heap.size rfl (letC zeroL LS.none) rfl 28 hS.hr info_let (letC_one _ _) ?_
                  go_wp2_with fail
                  exact bodyPost_ret (results_cell_tmp rfl _ _ w.heap.size 28 (letC zeroL LS.none) (0, 0) _ (.int .i64 20) rfl rfl hS.hr Try.underlying28 rfl info_let) rfl (RdPost.no HP.out hS.B)
                | true =>
                  have HP := Lib.hid (show readL l = some O by rw [HRl.out, ← HS0.out, HRaw.out]; simp [hd, hrt])
                  rw [hrt] at HRi
                  have HPk := Lib.hid hS.ok.pack
                  go_upto_region 30 with (first
                    | (go_at_call 41; refine hdn.mono ?_; rintro e w9 ⟨rfl, rfl⟩)
                    | (go_at_call 12; (with_reducible refine HRi.out.mono ?_); rintro e w9 ⟨rfl, hb9⟩; have hS := hS.quiet hb9; have hsl := seg_below hsl hb9))
                  (repeat ((fail_if_success (with_reducible show wpList _ _ _ (Oper.mk _ (Op.store _ _ _) _ _ _ _ :: _) _ _)); first | go_values | go_skip | go_guarded | go_step | go_upon))
                  refine wpList_store_seg rfl 28 _ _ rfl rfl w.heap.size 0 rfl (letC O sO) rfl 28 (letC zeroL LS.none) hS.hr (by rw [letC_size _ _ HPk.out, letC_size _ _ rfl]; decide) (info_let' _ _ HPk.out) (letC_one _ _) (letC O sO) (put_whole _ _ (by rw [letC_size _ _ HPk.out, letC_size _ _ rfl])) ?_
                  intro w10 hq10 hg10 _
                  go_wp2_with fail
                  refine bodyPost_ret (results_cell_tmp rfl _ _ w.heap.size 28 (letC O sO) (0, 0) _ (.int .i64 0) rfl rfl hq10 Try.underlying28 rfl (info_let' _ _ HPk.out)) rfl (RdPost.yes HP.out (hS.B.grown hg10 hS.B.size (fun k hk => by cases hk; omega)) ?_)
                  have hkeep : ∀ j, (some w.heap.size : Option Nat) = some j → j < q + 1 := fun j hj => by cases hj; have := hS.wg; have := hS.gq; omega
                  exact ⟨⟨own_sl (own_grown hS.refs hg10 hkeep), hS.ok.refs⟩, ⟨own_sl (own_grown hS.wants hg10 hkeep), hS.ok.wants⟩, ⟨own_sl (own_grown hS.haves hg10 hkeep), hS.ok.haves⟩, (hS.data.grown hg10 (by have := hS.wg; have := hS.gq; omega)).1, hS.ok.pack, hS.ok.data, hS.ok.packb⟩
            · have e4' : (x1.1 == 4) = false := by simp [hk4]
              have HRaw := Lib.hid (show readRaw S0 = (mk0 x1.1 x2.1 x3.1 x4.1, x4.2) by rw [HRd.out, readTail_0 hk2 hk3 hk4])
              go_upto_region 28 with fail
              revert hS HRaw
              generalize mk0 x1.1 x2.1 x3.1 x4.1 = O
              generalize LS.none = sO
              generalize x4.2 = SO
              intro hS HRaw
              have HRl := Lib.hid (readL_eq (b := l) (m := m) HL.out (by have := HN.out; omega) (by have := HN.out; omega) HE.out)
              have hdn := rddone_any g g _ _ hS.rd
              have HRi := Lib.hid (right_any _ _ _ hS.let)
              have hsl := seg_let hS.hq hS.ok.pack
              cases hd : doneB SO with
              | false =>
                have HP := Lib.hid (show readL l = none by rw [HRl.out, ← HS0.out, HRaw.out]; simp [hd])
                rw [hd] at hdn
                go_upto_region 29 with (go_at_call 41; refine hdn.mono ?_; rintro e w9 ⟨rfl, rfl⟩)
                (repeat ((fail_if_success (with_reducible show wpList _ _ _ (Oper.mk _ (Op.store _ _ _) _ _ _ _ :: _) _ _)); first | go_values | go_skip | go_guarded | go_step | go_upon))
                refine wpList_store_idle rfl 28 _ _ rfl rfl w.heap.size rfl (letC zeroL LS.none) rfl 28 hS.hr info_let (letC_one _ _) ?_
                go_wp2_with fail
                exact bodyPost_ret (results_cell_tmp rfl _ _ w.heap.size 28 (letC zeroL LS.none) (0, 0) _ (.int .i64 20) rfl rfl hS.hr Try.underlying28 rfl info_let) rfl (RdPost.no HP.out hS.B)
              | true =>
                rw [hd] at hdn
                cases hrt : rightB O with
                | false =>
                  have HP := Lib.hid (show readL l = none by rw [HRl.out, ← HS0.out, HRaw.out]; simp [hrt])
                  rw [hrt] at HRi
                  go_upto_region 29 with (first
                    | (go_at_call 41; refine hdn.mono ?_; rintro e w9 ⟨rfl, rfl⟩)
                    | (go_at_call 12; (with_reducible refine HRi.out.mono ?_); rintro e w9 ⟨rfl, hb9⟩; have hS := hS.quiet hb9))
                  (repeat ((fail_if_success (with_reducible show wpList _ _ _ (Oper.mk _ (Op.store _ _ _) _ _ _ _ :: _) _ _)); first | go_values | go_skip | go_guarded | go_step | go_upon))
                  refine wpList_store_idle rfl 28 _ _ rfl rfl w.heap.size rfl (letC zeroL LS.none) rfl 28 hS.hr info_let (letC_one _ _) ?_
                  go_wp2_with fail
                  exact bodyPost_ret (results_cell_tmp rfl _ _ w.heap.size 28 (letC zeroL LS.none) (0, 0) _ (.int .i64 20) rfl rfl hS.hr Try.underlying28 rfl info_let) rfl (RdPost.no HP.out hS.B)
                | true =>
                  have HP := Lib.hid (show readL l = some O by rw [HRl.out, ← HS0.out, HRaw.out]; simp [hd, hrt])
                  rw [hrt] at HRi
                  have HPk := Lib.hid hS.ok.pack
                  go_upto_region 30 with (first
                    | (go_at_call 41; refine hdn.mono ?_; rintro e w9 ⟨rfl, rfl⟩)
                    | (go_at_call 12; (with_reducible refine HRi.out.mono ?_); rintro e w9 ⟨rfl, hb9⟩; have hS := hS.quiet hb9; have hsl := seg_below hsl hb9))
                  (repeat ((fail_if_success (with_reducible show wpList _ _ _ (Oper.mk _ (Op.store _ _ _) _ _ _ _ :: _) _ _)); first | go_values | go_skip | go_guarded | go_step | go_upon))
                  refine wpList_store_seg rfl 28 _ _ rfl rfl w.heap.size 0 rfl (letC O sO) rfl 28 (letC zeroL LS.none) hS.hr (by rw [letC_size _ _ HPk.out, letC_size _ _ rfl]; decide) (info_let' _ _ HPk.out) (letC_one _ _) (letC O sO) (put_whole _ _ (by rw [letC_size _ _ HPk.out, letC_size _ _ rfl])) ?_
                  intro w10 hq10 hg10 _
                  go_wp2_with fail
                  refine bodyPost_ret (results_cell_tmp rfl _ _ w.heap.size 28 (letC O sO) (0, 0) _ (.int .i64 0) rfl rfl hq10 Try.underlying28 rfl (info_let' _ _ HPk.out)) rfl (RdPost.yes HP.out (hS.B.grown hg10 hS.B.size (fun k hk => by cases hk; omega)) ?_)
                  have hkeep : ∀ j, (some w.heap.size : Option Nat) = some j → j < q + 1 := fun j hj => by cases hj; have := hS.wg; have := hS.gq; omega
                  exact ⟨⟨own_sl (own_grown hS.refs hg10 hkeep), hS.ok.refs⟩, ⟨own_sl (own_grown hS.wants hg10 hkeep), hS.ok.wants⟩, ⟨own_sl (own_grown hS.haves hg10 hkeep), hS.ok.haves⟩, (hS.data.grown hg10 (by have := hS.wg; have := hS.gq; omega)).1, hS.ok.pack, hS.ok.data, hS.ok.packb⟩

end Go.Proofs.Ytfjbmgfkfeehnaa
