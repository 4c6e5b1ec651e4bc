/- Two right letters have the same bytes just if they are the same; a letter with a field that its kind doesn't name is refused: the walk. -/
import Derived.Test.YtfjbmgfkfeehnaaAliveW
import Derived.Test.YtfjbmgfkfeehnaaRnd
namespace Go.Proofs.Ytfjbmgfkfeehnaa
open Go.RowKit

def WrYes (w : World) (L : List Int) (e : Ending) (w' : World) : Prop := ∃ a n c, e = .returned (.tuple #[.slice a n c, .int .i64 0]) ∧ Below w.heap.size w w' ∧ Bs w' a n c L
def WrNo (w : World) (e : Ending) (w' : World) : Prop := e = .returned (.tuple #[.slice none 0 0, .int .i64 1]) ∧ Below w.heap.size w w'
theorem wr_yes {l : LetL} {args : Array Value} {W : World} (hr : rightB l = true) (h : Calls Try.prog 9 args W (WrPost W l)) : Calls Try.prog 9 args W (WrYes W (wireL l)) :=
  h.mono fun e w' he => by
    unfold WrPost at he
    rw [if_pos hr] at he
    obtain ⟨a, n, c, rfl, hb, ho⟩ := he
    exact ⟨a, n, c, rfl, hb, own_bs ho⟩
theorem wr_no {l : LetL} {args : Array Value} {W : World} (hr : rightB l = false) (h : Calls Try.prog 9 args W (WrPost W l)) : Calls Try.prog 9 args W (WrNo W) :=
  h.mono fun e w' he => by
    unfold WrPost at he
    rw [if_neg (by rw [hr]; decide)] at he
    exact he
theorem grow_below (W : World) (d : Nat) (os : Array Obj) : Below W.heap.size W (Sort.grow (redrawn W d) os) := below_regrown W d os
def id1 : List Int := 1 :: List.replicate 31 0
theorem id1_bytes : IsBytes id1 := .cons (by omega) (by omega) (fun x hx => by rw [List.eq_of_mem_replicate hx]; omega)
theorem turned_off {l : LetL} (hk : l.kind = 1 ∨ l.kind = 2) : rightB { l with off := 1 } = false := by
  cases h : rightB { l with off := 1 } with
  | false => rfl
  | true =>
    have := (right_head h).2.2.2
    unfold bareL at this
    have h3 : ¬ l.kind = 3 := by omega
    have h4 : ¬ l.kind = 4 := by omega
    simp only [if_neg h3, if_neg h4] at this
    split at this <;> exact absurd (congrArg LetL.off this) (by show ¬ (1 : Int) = 0; decide)
theorem turned_total {l : LetL} (hk : l.kind = 3) : rightB { l with total := 1 } = false := by
  cases h : rightB { l with total := 1 } with
  | false => rfl
  | true =>
    have := (right_head h).2.2.2
    unfold bareL at this
    have h2 : ¬ l.kind = 2 := by omega
    simp only [if_neg h2, if_pos hk] at this
    exact absurd (congrArg LetL.total this) (by show ¬ (1 : Int) = 0; decide)
theorem turned_wants {l : LetL} (hk : l.kind = 4) : rightB { l with wants := [id1] } = false := by
  cases h : rightB { l with wants := [id1] } with
  | false => rfl
  | true =>
    have := (right_head h).2.2.2
    unfold bareL at this
    have h2 : ¬ l.kind = 2 := by omega
    have h3 : ¬ l.kind = 3 := by omega
    simp only [if_neg h2, if_neg h3, if_pos hk] at this
    exact absurd (congrArg LetL.wants this) (by show ¬ [id1] = []; simp)

set_option maxRecDepth 100000 in
set_option maxHeartbeats 8000000 in
theorem one_any (l l' : LetL) (s s' : LS) (w : World) (h : LetA w l s) (h' : LetA w l' s') :
    Calls Try.prog 7 #[.agg (letC l s), .agg (letC l' s')] w (Ret w (.bool true)) := by
  have hX1 := letC_one l s
  have hsz := letC_size l s h.pack
  have hk0 : (letC l s)[0]? = some (.int .i64 l.kind) := rfl
  have hk5 : (letC l s)[5]? = some (.slice s.wa s.wn s.wc) := rfl
  have hk7 : (letC l s)[7]? = some (.int .i64 l.off) := rfl
  have hk8 : (letC l s)[8]? = some (.int .i64 l.total) := rfl
  have hB : Below w.heap.size w ((w.alloc (.cells (letC l s) 28)).alloc (.cells (letC l' s') 28)) := ((Below.refl _ _).alloc (Nat.le_refl _) _).alloc (by simp) _
  have hx : ((w.alloc (.cells (letC l s) 28)).alloc (.cells (letC l' s') 28)).heap[w.heap.size]? = some (.cells (letC l s) 28 (0, 0)) := (Below.heap_alloc _ _ _ (by simp)).trans (blk0 w _ _)
  have hy : ((w.alloc (.cells (letC l s) 28)).alloc (.cells (letC l' s') 28)).heap[w.heap.size + 1]? = some (.cells (letC l' s') 28 (0, 0)) := by
    have := blk0 (w.alloc (.cells (letC l s) 28)) (letC l' s') 28
    simpa using this
  have hsx := seg_let hx h.pack
  have hsy := seg_let hy h'.pack
  have HSg := Lib.hid (fun (W : World) (q : Nat) (hq : W.heap[q]? = some (.cells (letC l s) 28 (0, 0))) => seg_let hq h.pack)
  have HE7 := Lib.hid (fun (W : World) (q : Nat) (hq : W.heap[q]? = some (.cells (letC l s) 28 (0, 0))) => seg_let (l := { l with off := 1 }) (s := s) (((heap_setCell_same W q 7 _ _ (.int .i64 1) hq).trans rfl : (W.setCell ⟨q, 7, none⟩ (.int .i64 1)).heap[q]? = some (.cells (letC { l with off := 1 } s) 28 (0, 0)))) h.pack)
  have HE8 := Lib.hid (fun (W : World) (q : Nat) (hq : W.heap[q]? = some (.cells (letC l s) 28 (0, 0))) => seg_let (l := { l with total := 1 }) (s := s) (((heap_setCell_same W q 8 _ _ (.int .i64 1) hq).trans rfl : (W.setCell ⟨q, 8, none⟩ (.int .i64 1)).heap[q]? = some (.cells (letC { l with total := 1 } s) 28 (0, 0)))) h.pack)
  have HE5 := Lib.hid (fun (W : World) (q : Nat) (a : Option Addr) (hq : W.heap[q]? = some (.cells (letC l s) 28 (0, 0))) => seg_let (l := { l with wants := [id1] }) (s := { s with wa := a, wn := 1, wc := 1 }) (((heap_setCell_same W q 5 _ _ (.slice a 1 1) hq).trans rfl : (W.setCell ⟨q, 5, none⟩ (.slice a 1 1)).heap[q]? = some (.cells (letC { l with wants := [id1] } { s with wa := a, wn := 1, wc := 1 }) 28 (0, 0)))) h.pack)
  have HT7 := Lib.hid (fun (W : World) (hb : Below w.heap.size w W) => wirewrite_any { l with off := 1 } s W ⟨(h.below hb).refs, (h.below hb).wants, (h.below hb).haves, (h.below hb).data, h.pack, h.bytes, h.packb⟩)
  have HT8 := Lib.hid (fun (W : World) (hb : Below w.heap.size w W) => wirewrite_any { l with total := 1 } s W ⟨(h.below hb).refs, (h.below hb).wants, (h.below hb).haves, (h.below hb).data, h.pack, h.bytes, h.packb⟩)
  have HT5 := Lib.hid (fun (W : World) (a : Option Addr) (hb : Below w.heap.size w W) (hi : Ids W a 1 1 [id1]) => wirewrite_any { l with wants := [id1] } { s with wa := a, wn := 1, wc := 1 } W ⟨(h.below hb).refs, hi, (h.below hb).haves, (h.below hb).data, h.pack, h.bytes, h.packb⟩)
  have HR1 := Lib.hid (fun (W : World) (hb : Below w.heap.size w W) => right_any l s W (h.below hb))
  have HS1 := Lib.hid (fun (W : World) (hb : Below w.heap.size w W) => same_any l l' s s' W (h.below hb) (h'.below hb))
  have HS0 := Lib.hid (fun (W : World) (hb : Below w.heap.size w W) => (show decide (l = l) = true from by simp) ▸ same_any l l s s W (h.below hb) (h.below hb))
  have HW1 := Lib.hid (fun (W : World) (hb : Below w.heap.size w W) => wirewrite_any l s W (h.below hb))
  have HW2 := Lib.hid (fun (W : World) (hb : Below w.heap.size w W) => wirewrite_any l' s' W (h'.below hb))
  have HO := Lib.hid h.ok
  have HO' := Lib.hid h'.ok
  have HX1 := Lib.hid hX1
  have HX := Lib.hid hsz
  clear h h' hX1 hsz
  generalize letC l s = X at *
  generalize letC l' s' = Y at *
  cases hl : rightB l with
  | false =>
    have Hl := Lib.hid hl
    rw [hl] at HR1
    clear hl hk0 hk5 hk7 hk8
    cases hl' : rightB l' with
    | false =>
      have Hl' := Lib.hid hl'
      clear hl'
      go_enter Try.func7, Try.ntmps7
      go_upto_region 5 with (first
        | (go_at_call 8; refine (alive_any _).mono ?_; rintro e w1 ⟨rfl, hb1⟩; have hx := (hb1.block _ (blk_cell hx).2.2).trans hx; have hsx := seg_below hsx hb1; have hsy := seg_below hsy hb1; have hB := Below.next hB hb1)
        | (go_at_call 9; (with_reducible refine (wr_no Hl.out (HW1.out _ hB)).mono ?_); rintro e w2 ⟨rfl, hb2⟩; have hx := (hb2.block _ (blk_cell hx).2.2).trans hx; have hsx := seg_below hsx hb2; have hsy := seg_below hsy hb2; have hB := Below.next hB hb2)
        | (go_at_call 9; (with_reducible refine (wr_no Hl'.out (HW2.out _ hB)).mono ?_); rintro e w3 ⟨rfl, hb3⟩; have hx := (hb3.block _ (blk_cell hx).2.2).trans hx; have hsx := seg_below hsx hb3; have hsy := seg_below hsy hb3; have hB := Below.next hB hb3))
      have hC := fun (d : Nat) (os : Array Obj) => grow_below w3 d os
      have q1 := fun (d : Nat) (os : Array Obj) => seg_regrown hsx d os
      have q2 := fun (d : Nat) (os : Array Obj) => seg_regrown hsy d os
      (refine wp_region_quiet_below (by kernel_rfl) (by kernel_rfl) ?_; (repeat (go_big_quiet_step (fail))); refine wpQuiet_nil ?_; intro _ hw'; obtain ⟨⟨dq, osq⟩, hw''⟩ := hw'; subst hw'')
      have hB := Below.next hB (hC dq osq)
      have hx := ((hC dq osq).block _ (blk_cell hx).2.2).trans hx
      have hsx := q1 dq osq
      clear hC q1 q2
      generalize Sort.grow (redrawn w3 dq) osq = w9 at *
      go_wp2_with (go_at_call 12; refine (HR1.out _ hB).mono ?_; rintro e w7 ⟨rfl, hb7⟩)
      go_ret
      exact Ret.mk rfl (Below.next hB hb7)
    | true =>
      have Hl' := Lib.hid hl'
      clear hl'
      go_enter Try.func7, Try.ntmps7
      go_upto_region 5 with (first
        | (go_at_call 8; refine (alive_any _).mono ?_; rintro e w1 ⟨rfl, hb1⟩; have hx := (hb1.block _ (blk_cell hx).2.2).trans hx; have hsx := seg_below hsx hb1; have hsy := seg_below hsy hb1; have hB := Below.next hB hb1)
        | (go_at_call 9; (with_reducible refine (wr_no Hl.out (HW1.out _ hB)).mono ?_); rintro e w2 ⟨rfl, hb2⟩; have hx := (hb2.block _ (blk_cell hx).2.2).trans hx; have hsx := seg_below hsx hb2; have hsy := seg_below hsy hb2; have hB := Below.next hB hb2)
        | (go_at_call 9; (with_reducible refine (wr_yes Hl'.out (HW2.out _ hB)).mono ?_); rintro e w3 ⟨a2, n2, c2, rfl, hb3, hs2⟩; have hx := (hb3.block _ (blk_cell hx).2.2).trans hx; have hsx := seg_below hsx hb3; have hsy := seg_below hsy hb3; have hB := Below.next hB hb3))
      have hC := fun (d : Nat) (os : Array Obj) => grow_below w3 d os
      have q1 := fun (d : Nat) (os : Array Obj) => seg_regrown hsx d os
      have q2 := fun (d : Nat) (os : Array Obj) => seg_regrown hsy d os
      (refine wp_region_quiet_below (by kernel_rfl) (by kernel_rfl) ?_; (repeat (go_big_quiet_step (fail))); refine wpQuiet_nil ?_; intro _ hw'; obtain ⟨⟨dq, osq⟩, hw''⟩ := hw'; subst hw'')
      have hB := Below.next hB (hC dq osq)
      have hx := ((hC dq osq).block _ (blk_cell hx).2.2).trans hx
      have hsx := q1 dq osq
      clear hC q1 q2
      generalize Sort.grow (redrawn w3 dq) osq = w9 at *
      go_wp2_with (go_at_call 12; refine (HR1.out _ hB).mono ?_; rintro e w7 ⟨rfl, hb7⟩)
      go_ret
      exact Ret.mk rfl (Below.next hB hb7)
  | true =>
    have Hl := Lib.hid hl
    clear hl
    cases hl' : rightB l' with
    | false =>
      have Hl' := Lib.hid hl'
      clear hl'
      go_enter Try.func7, Try.ntmps7
      go_upto_region 5 with (first
        | (go_at_call 8; refine (alive_any _).mono ?_; rintro e w1 ⟨rfl, hb1⟩; have hx := (hb1.block _ (blk_cell hx).2.2).trans hx; have hsx := seg_below hsx hb1; have hsy := seg_below hsy hb1; have hB := Below.next hB hb1)
        | (go_at_call 9; (with_reducible refine (wr_yes Hl.out (HW1.out _ hB)).mono ?_); rintro e w2 ⟨a1, n1, c1, rfl, hb2, hs1⟩; have hx := (hb2.block _ (blk_cell hx).2.2).trans hx; have hsx := seg_below hsx hb2; have hsy := seg_below hsy hb2; have hB := Below.next hB hb2)
        | (go_at_call 9; (with_reducible refine (wr_no Hl'.out (HW2.out _ hB)).mono ?_); rintro e w3 ⟨rfl, hb3⟩; have hx := (hb3.block _ (blk_cell hx).2.2).trans hx; have hsx := seg_below hsx hb3; have hsy := seg_below hsy hb3; have hB := Below.next hB hb3))
      have hC := fun (d : Nat) (os : Array Obj) => grow_below w3 d os
      have q1 := fun (d : Nat) (os : Array Obj) => seg_regrown hsx d os
      have q2 := fun (d : Nat) (os : Array Obj) => seg_regrown hsy d os
      (refine wp_region_quiet_below (by kernel_rfl) (by kernel_rfl) ?_; (repeat (go_big_quiet_step (fail))); refine wpQuiet_nil ?_; intro _ hw'; obtain ⟨⟨dq, osq⟩, hw''⟩ := hw'; subst hw'')
      have hB := Below.next hB (hC dq osq)
      have hx := ((hC dq osq).block _ (blk_cell hx).2.2).trans hx
      have hsx := q1 dq osq
      clear hC q1 q2
      generalize Sort.grow (redrawn w3 dq) osq = w9 at *
      by_cases hk12 : l.kind = 1 ∨ l.kind = 2
      · have HK := Lib.hid hk12
        have e12 : (l.kind == 1) = true ∨ (l.kind == 1) = false ∧ (l.kind == 2) = true := by
          rcases hk12 with h | h <;> simp [h]
        clear hk12
        rcases e12 with e1 | ⟨e1, e2⟩
        all_goals
          have hc0 := ((blk_cell hx).1 0).trans hk0
          (repeat ((fail_if_success (with_reducible show wpList _ _ _ (Oper.mk _ (Op.store _ _ _) _ _ _ _ :: _) _ _)); first | go_values | go_skip | go_guarded | go_step | go_upon))
          have hz := blk0 w9 (letC zeroL LS.none) 28
          refine wpList_store_seg (w := w9.alloc (.cells (letC zeroL LS.none) 28)) rfl 28 _ _ rfl rfl w9.heap.size 0 rfl X rfl 28 (letC zeroL LS.none) hz (by rw [HX.out, letC_size _ _ rfl]; decide) (by rw [HX.out]; exact info_let) HX1.out X (put_whole _ _ (by rw [HX.out, letC_size _ _ rfl])) ?_
          intro w4 hq4 hg4 h4s
          clear h4s
          have hB4 : Below w9.heap.size w9 w4 := (grow1' w9 (letC zeroL LS.none) 28).grown hg4 (by simp) (fun k hk => by cases hk; omega)
          have hB := Below.next hB hB4
          have hx := (hB4.block _ (blk_cell hx).2.2).trans hx
          have hc0 := ((blk_cell hx).1 0).trans hk0
          have hsx := seg_below hsx hB4
          have hq0 : w.heap.size < w9.heap.size := (blk_cell (by assumption)).2.2
          clear hg4 hB4 hz
          generalize w9.heap.size = q at *
          have hql := (blk_cell hq4).2.2
          have hc7 := ((blk_cell hq4).1 7).trans hk7
          have hf7 := (blk_cell hq4).2.1 7
          have he := HE7.out w4 q hq4
          have hqq : w.heap.size ≤ q := by omega
          have hB5 : Below w.heap.size w (w4.setCell ⟨q, 7, none⟩ (.int .i64 1)) := hB.grown (grown_set _ _ _ _) hB.size (fun k hk => by cases hk; exact hqq)
          have hx5 := ((grown_set w4 q 7 (.int .i64 1)).block w.heap.size (by have := hB.size; have := (blk_cell hx).2.2; omega) (by simp; omega)).trans hx
          have hsx5 := HSg.out _ _ hx5
          have HT := Lib.hid (wr_no (turned_off HK.out) (HT7.out _ hB5))
          have hcl : True := trivial
          clear hsx hx hq4 hq0 hql hqq
          go_wp2_with (first
            | (go_at_call 9; refine HT.out.mono ?_; rintro e w6 ⟨rfl, hb6⟩; have hsx5 := seg_below hsx5 hb6; have hB6 := Below.next hB5 hb6)
            | (go_at_call 13; refine (HS0.out _ hB6).mono ?_; rintro e w7 ⟨rfl, hb7⟩))
          go_ret
          exact Ret.mk rfl (Below.next hB6 hb7)
      · have e1 : (l.kind == 1) = false := by simp; omega
        have e2 : (l.kind == 2) = false := by simp; omega
        by_cases hk3 : l.kind = 3
        · have HK := Lib.hid hk3
          have e3 : (l.kind == 3) = true := by simp [hk3]
          clear hk3 hk12
          have hc0 := ((blk_cell hx).1 0).trans hk0
          (repeat ((fail_if_success (with_reducible show wpList _ _ _ (Oper.mk _ (Op.store _ _ _) _ _ _ _ :: _) _ _)); first | go_values | go_skip | go_guarded | go_step | go_upon))
          have hz := blk0 w9 (letC zeroL LS.none) 28
          refine wpList_store_seg (w := w9.alloc (.cells (letC zeroL LS.none) 28)) rfl 28 _ _ rfl rfl w9.heap.size 0 rfl X rfl 28 (letC zeroL LS.none) hz (by rw [HX.out, letC_size _ _ rfl]; decide) (by rw [HX.out]; exact info_let) HX1.out X (put_whole _ _ (by rw [HX.out, letC_size _ _ rfl])) ?_
          intro w4 hq4 hg4 h4s
          clear h4s
          have hB4 : Below w9.heap.size w9 w4 := (grow1' w9 (letC zeroL LS.none) 28).grown hg4 (by simp) (fun k hk => by cases hk; omega)
          have hB := Below.next hB hB4
          have hx := (hB4.block _ (blk_cell hx).2.2).trans hx
          have hc0 := ((blk_cell hx).1 0).trans hk0
          have hsx := seg_below hsx hB4
          have hq0 : w.heap.size < w9.heap.size := (blk_cell (by assumption)).2.2
          clear hg4 hB4 hz
          generalize w9.heap.size = q at *
          have hql := (blk_cell hq4).2.2
          have hc7 := ((blk_cell hq4).1 8).trans hk8
          have hf7 := (blk_cell hq4).2.1 8
          have he := HE8.out w4 q hq4
          have hqq : w.heap.size ≤ q := by omega
          have hB5 : Below w.heap.size w (w4.setCell ⟨q, 8, none⟩ (.int .i64 1)) := hB.grown (grown_set _ _ _ _) hB.size (fun k hk => by cases hk; exact hqq)
          have hx5 := ((grown_set w4 q 8 (.int .i64 1)).block w.heap.size (by have := hB.size; have := (blk_cell hx).2.2; omega) (by simp; omega)).trans hx
          have hsx5 := HSg.out _ _ hx5
          have HT := Lib.hid (wr_no (turned_total HK.out) (HT8.out _ hB5))
          have hcl : True := trivial
          clear hsx hx hq4 hq0 hql hqq
          go_wp2_with (first
            | (go_at_call 9; refine HT.out.mono ?_; rintro e w6 ⟨rfl, hb6⟩; have hsx5 := seg_below hsx5 hb6; have hB6 := Below.next hB5 hb6)
            | (go_at_call 13; refine (HS0.out _ hB6).mono ?_; rintro e w7 ⟨rfl, hb7⟩))
          go_ret
          exact Ret.mk rfl (Below.next hB6 hb7)
        · have e3 : (l.kind == 3) = false := by simp [hk3]
          have HK := Lib.hid (show l.kind = 4 from by have := right_vals Hl.out; omega)
          clear hk3 hk12
          have hc0 := ((blk_cell hx).1 0).trans hk0
          (repeat ((fail_if_success (with_reducible show wpList _ _ _ (Oper.mk _ (Op.store _ _ _) _ _ _ _ :: _) _ _)); first | go_values | go_skip | go_guarded | go_step | go_upon))
          have hz := blk0 w9 (letC zeroL LS.none) 28
          refine wpList_store_seg (w := w9.alloc (.cells (letC zeroL LS.none) 28)) rfl 28 _ _ rfl rfl w9.heap.size 0 rfl X rfl 28 (letC zeroL LS.none) hz (by rw [HX.out, letC_size _ _ rfl]; decide) (by rw [HX.out]; exact info_let) HX1.out X (put_whole _ _ (by rw [HX.out, letC_size _ _ rfl])) ?_
          intro w4 hq4 hg4 h4s
          clear h4s
          have hB4 : Below w9.heap.size w9 w4 := (grow1' w9 (letC zeroL LS.none) 28).grown hg4 (by simp) (fun k hk => by cases hk; omega)
          have hB := Below.next hB hB4
          have hx := (hB4.block _ (blk_cell hx).2.2).trans hx
          have hc0 := ((blk_cell hx).1 0).trans hk0
          have hsx := seg_below hsx hB4
          have hq0 : w.heap.size < w9.heap.size := (blk_cell (by assumption)).2.2
          clear hg4 hB4 hz
          generalize w9.heap.size = q at *
          have hql := (blk_cell hq4).2.2
          have hid : (id1.map (Value.int .u8)).toArray = #[.int .u8 1, .int .u8 0, .int .u8 0, .int .u8 0, .int .u8 0, .int .u8 0, .int .u8 0, .int .u8 0, .int .u8 0, .int .u8 0, .int .u8 0, .int .u8 0, .int .u8 0, .int .u8 0, .int .u8 0, .int .u8 0, .int .u8 0, .int .u8 0, .int .u8 0, .int .u8 0, .int .u8 0, .int .u8 0, .int .u8 0, .int .u8 0, .int .u8 0, .int .u8 0, .int .u8 0, .int .u8 0, .int .u8 0, .int .u8 0, .int .u8 0, .int .u8 0] := rfl
          obtain ⟨w5, hw5⟩ : ∃ w5, w4.alloc (.cells #[.int .u8 1, .int .u8 0, .int .u8 0, .int .u8 0, .int .u8 0, .int .u8 0, .int .u8 0, .int .u8 0, .int .u8 0, .int .u8 0, .int .u8 0, .int .u8 0, .int .u8 0, .int .u8 0, .int .u8 0, .int .u8 0, .int .u8 0, .int .u8 0, .int .u8 0, .int .u8 0, .int .u8 0, .int .u8 0, .int .u8 0, .int .u8 0, .int .u8 0, .int .u8 0, .int .u8 0, .int .u8 0, .int .u8 0, .int .u8 0, .int .u8 0, .int .u8 0] 25) = w5 := ⟨_, rfl⟩
          have hq5 : w5.heap[q]? = some (.cells X 28 (0, 0)) := by rw [← hw5]; exact (Below.heap_alloc _ _ _ hql).trans hq4
          have hn5 : w5.heap[w4.heap.size]? = some (.cells #[.int .u8 1, .int .u8 0, .int .u8 0, .int .u8 0, .int .u8 0, .int .u8 0, .int .u8 0, .int .u8 0, .int .u8 0, .int .u8 0, .int .u8 0, .int .u8 0, .int .u8 0, .int .u8 0, .int .u8 0, .int .u8 0, .int .u8 0, .int .u8 0, .int .u8 0, .int .u8 0, .int .u8 0, .int .u8 0, .int .u8 0, .int .u8 0, .int .u8 0, .int .u8 0, .int .u8 0, .int .u8 0, .int .u8 0, .int .u8 0, .int .u8 0, .int .u8 0] 25 (0, 0)) := by rw [← hw5]; exact blk0 w4 _ _
          have hB5 : Below w.heap.size w w5 := by rw [← hw5]; exact hB.alloc hB.size _
          have hx5 : w5.heap[w.heap.size]? = some (.cells X 28 (0, 0)) := by rw [← hw5]; exact (Below.heap_alloc _ _ _ (blk_cell hx).2.2).trans hx
          have hids : Ids w5 (some ⟨w4.heap.size, 0, none⟩) 1 1 [id1] := ⟨by
            have := Sl.row hn5 32 1 rfl (by simp [maxLen])
            exact this, fun d hd => by
              rw [List.mem_singleton] at hd
              subst hd
              exact ⟨rfl, id1_bytes⟩⟩
          have hneq : ¬ w4.heap.size = q := by omega
          have hc7 := ((blk_cell hq5).1 5).trans hk5
          have hf7 := (blk_cell hq5).2.1 5
          have he := HE5.out w5 q (some ⟨w4.heap.size, 0, none⟩) hq5
          have hqq : w.heap.size ≤ q := by omega
          have hB6 : Below w.heap.size w (w5.setCell ⟨q, 5, none⟩ (.slice (some ⟨w4.heap.size, 0, none⟩) 1 1)) := hB5.grown (grown_set _ _ _ _) hB5.size (fun k hk => by cases hk; exact hqq)
          have hx6 := ((grown_set w5 q 5 (.slice (some ⟨w4.heap.size, 0, none⟩) 1 1)).block w.heap.size (blk_cell hx5).2.2 (by simp; omega)).trans hx5
          have hsx6 := HSg.out _ _ hx6
          have hids6 : Ids (w5.setCell ⟨q, 5, none⟩ (.slice (some ⟨w4.heap.size, 0, none⟩) 1 1)) (some ⟨w4.heap.size, 0, none⟩) 1 1 [id1] := ⟨by
            have := Sl.row (((grown_set w5 q 5 (.slice (some ⟨w4.heap.size, 0, none⟩) 1 1)).block w4.heap.size (blk_cell hn5).2.2 (by simp; omega)).trans hn5) 32 1 rfl (by simp [maxLen])
            exact this, hids.all⟩
          have HT := Lib.hid (wr_no (turned_wants HK.out) (HT5.out _ _ hB6 hids6))
          have HW5 := Lib.hid hw5
          clear hsx hx hq4 hq0 hql hqq hids hids6 hw5 hneq hx5 hx6 hn5 hq5 hid
          (repeat ((fail_if_success (with_reducible show wpList _ _ _ (Oper.mk _ (Op.store _ _ _) _ _ _ _ :: _) _ _)); first | go_values | go_skip | go_guarded | go_step | go_upon))
          rw [HW5.out]
          go_wp2_with (first
            | (go_at_call 9; refine HT.out.mono ?_; rintro e w6 ⟨rfl, hb6⟩; have hsx5 := seg_below hsx6 hb6; have hB6 := Below.next hB6 hb6)
            | (go_at_call 13; refine (HS0.out _ hB6).mono ?_; rintro e w7 ⟨rfl, hb7⟩))
          go_ret
          exact Ret.mk rfl (Below.next hB6 hb7)
    | true =>
      have Hl' := Lib.hid hl'
      have hinj : decide (wireL l = wireL l') = decide (l = l') := by
        rw [Bool.eq_iff_iff]
        simp only [decide_eq_true_eq]
        exact ⟨wire_inj Hl.out hl' HO.out HO'.out, fun h => h ▸ rfl⟩
      have HI := Lib.hid hinj
      have HL1 := Lib.hid (rfl : wireL l = wireL l)
      clear hl' hinj
      go_enter Try.func7, Try.ntmps7
      go_upto_region 5 with (first
        | (go_at_call 8; refine (alive_any _).mono ?_; rintro e w1 ⟨rfl, hb1⟩; have hx := (hb1.block _ (blk_cell hx).2.2).trans hx; have hsx := seg_below hsx hb1; have hsy := seg_below hsy hb1; have hB := Below.next hB hb1)
        | (go_at_call 9; (with_reducible refine (wr_yes Hl.out (HW1.out _ hB)).mono ?_); rintro e w2 ⟨a1, n1, c1, rfl, hb2, hs1⟩; have hx := (hb2.block _ (blk_cell hx).2.2).trans hx; have hsx := seg_below hsx hb2; have hsy := seg_below hsy hb2; have hB := Below.next hB hb2)
        | (go_at_call 9; (with_reducible refine (wr_yes Hl'.out (HW2.out _ hB)).mono ?_); rintro e w3 ⟨a2, n2, c2, rfl, hb3, hs2⟩; have hs1 := hs1.below hb3; have hx := (hb3.block _ (blk_cell hx).2.2).trans hx; have hsx := seg_below hsx hb3; have hsy := seg_below hsy hb3; have hB := Below.next hB hb3))
      have A1 := fun (d : Nat) (os : Array Obj) => Calls.regrown_of (HI.out ▸ samebytes_any a1 n1 c1 (wireL l) a2 n2 c2 (wireL l') (Sort.grow (redrawn w3 d) os) (hs1.below (grow_below _ _ _)) (hs2.below (grow_below _ _ _)))
      have A2 := fun (d : Nat) (os : Array Obj) => Calls.regrown_of (HS1.out _ (Below.next hB (grow_below w3 d os)))
      generalize decide (l = l') = b at *
      have hC := fun (d : Nat) (os : Array Obj) => grow_below w3 d os
      have q1 := fun (d : Nat) (os : Array Obj) => seg_regrown hsx d os
      have q2 := fun (d : Nat) (os : Array Obj) => seg_regrown hsy d os
      (refine wp_region_quiet_below (by kernel_rfl) (by kernel_rfl) ?_; (repeat (go_big_quiet_step ((first | with_reducible exact A1 _ _ | with_reducible exact A2 _ _)))); refine wpQuiet_nil ?_; intro _ hw'; obtain ⟨⟨dq, osq⟩, hw''⟩ := hw'; subst hw'')
      have hB := Below.next hB (hC dq osq)
      have hx := ((hC dq osq).block _ (blk_cell hx).2.2).trans hx
      have hsx := q1 dq osq
      clear hC q1 q2 A1 A2 hs1 hs2
      generalize Sort.grow (redrawn w3 dq) osq = w9 at *
      by_cases hk12 : l.kind = 1 ∨ l.kind = 2
      · have HK := Lib.hid hk12
        have e12 : (l.kind == 1) = true ∨ (l.kind == 1) = false ∧ (l.kind == 2) = true := by
          rcases hk12 with h | h <;> simp [h]
        clear hk12
        rcases e12 with e1 | ⟨e1, e2⟩
        all_goals
          have hc0 := ((blk_cell hx).1 0).trans hk0
          (repeat ((fail_if_success (with_reducible show wpList _ _ _ (Oper.mk _ (Op.store _ _ _) _ _ _ _ :: _) _ _)); first | go_values | go_skip | go_guarded | go_step | go_upon))
          have hz := blk0 w9 (letC zeroL LS.none) 28
          refine wpList_store_seg (w := w9.alloc (.cells (letC zeroL LS.none) 28)) rfl 28 _ _ rfl rfl w9.heap.size 0 rfl X rfl 28 (letC zeroL LS.none) hz (by rw [HX.out, letC_size _ _ rfl]; decide) (by rw [HX.out]; exact info_let) HX1.out X (put_whole _ _ (by rw [HX.out, letC_size _ _ rfl])) ?_
          intro w4 hq4 hg4 h4s
          clear h4s
          have hB4 : Below w9.heap.size w9 w4 := (grow1' w9 (letC zeroL LS.none) 28).grown hg4 (by simp) (fun k hk => by cases hk; omega)
          have hB := Below.next hB hB4
          have hx := (hB4.block _ (blk_cell hx).2.2).trans hx
          have hc0 := ((blk_cell hx).1 0).trans hk0
          have hsx := seg_below hsx hB4
          have hq0 : w.heap.size < w9.heap.size := (blk_cell (by assumption)).2.2
          clear hg4 hB4 hz
          generalize w9.heap.size = q at *
          have hql := (blk_cell hq4).2.2
          have hc7 := ((blk_cell hq4).1 7).trans hk7
          have hf7 := (blk_cell hq4).2.1 7
          have he := HE7.out w4 q hq4
          have hqq : w.heap.size ≤ q := by omega
          have hB5 : Below w.heap.size w (w4.setCell ⟨q, 7, none⟩ (.int .i64 1)) := hB.grown (grown_set _ _ _ _) hB.size (fun k hk => by cases hk; exact hqq)
          have hx5 := ((grown_set w4 q 7 (.int .i64 1)).block w.heap.size (by have := hB.size; have := (blk_cell hx).2.2; omega) (by simp; omega)).trans hx
          have hsx5 := HSg.out _ _ hx5
          have HT := Lib.hid (wr_no (turned_off HK.out) (HT7.out _ hB5))
          have hcl : True := trivial
          clear hsx hx hq4 hq0 hql hqq
          go_wp2_with (first
            | (go_at_call 9; refine HT.out.mono ?_; rintro e w6 ⟨rfl, hb6⟩; have hsx5 := seg_below hsx5 hb6; have hB6 := Below.next hB5 hb6)
            | (go_at_call 13; refine (HS0.out _ hB6).mono ?_; rintro e w7 ⟨rfl, hb7⟩))
          go_ret
          exact Ret.mk rfl (Below.next hB6 hb7)
      · have e1 : (l.kind == 1) = false := by simp; omega
        have e2 : (l.kind == 2) = false := by simp; omega
        by_cases hk3 : l.kind = 3
        · have HK := Lib.hid hk3
          have e3 : (l.kind == 3) = true := by simp [hk3]
          clear hk3 hk12
          have hc0 := ((blk_cell hx).1 0).trans hk0
          (repeat ((fail_if_success (with_reducible show wpList _ _ _ (Oper.mk _ (Op.store _ _ _) _ _ _ _ :: _) _ _)); first | go_values | go_skip | go_guarded | go_step | go_upon))
          have hz := blk0 w9 (letC zeroL LS.none) 28
          refine wpList_store_seg (w := w9.alloc (.cells (letC zeroL LS.none) 28)) rfl 28 _ _ rfl rfl w9.heap.size 0 rfl X rfl 28 (letC zeroL LS.none) hz (by rw [HX.out, letC_size _ _ rfl]; decide) (by rw [HX.out]; exact info_let) HX1.out X (put_whole _ _ (by rw [HX.out, letC_size _ _ rfl])) ?_
          intro w4 hq4 hg4 h4s
          clear h4s
          have hB4 : Below w9.heap.size w9 w4 := (grow1' w9 (letC zeroL LS.none) 28).grown hg4 (by simp) (fun k hk => by cases hk; omega)
          have hB := Below.next hB hB4
          have hx := (hB4.block _ (blk_cell hx).2.2).trans hx
          have hc0 := ((blk_cell hx).1 0).trans hk0
          have hsx := seg_below hsx hB4
          have hq0 : w.heap.size < w9.heap.size := (blk_cell (by assumption)).2.2
          clear hg4 hB4 hz
          generalize w9.heap.size = q at *
          have hql := (blk_cell hq4).2.2
          have hc7 := ((blk_cell hq4).1 8).trans hk8
          have hf7 := (blk_cell hq4).2.1 8
          have he := HE8.out w4 q hq4
          have hqq : w.heap.size ≤ q := by omega
          have hB5 : Below w.heap.size w (w4.setCell ⟨q, 8, none⟩ (.int .i64 1)) := hB.grown (grown_set _ _ _ _) hB.size (fun k hk => by cases hk; exact hqq)
          have hx5 := ((grown_set w4 q 8 (.int .i64 1)).block w.heap.size (by have := hB.size; have := (blk_cell hx).2.2; omega) (by simp; omega)).trans hx
          have hsx5 := HSg.out _ _ hx5
          have HT := Lib.hid (wr_no (turned_total HK.out) (HT8.out _ hB5))
          have hcl : True := trivial
          clear hsx hx hq4 hq0 hql hqq
          go_wp2_with (first
            | (go_at_call 9; refine HT.out.mono ?_; rintro e w6 ⟨rfl, hb6⟩; have hsx5 := seg_below hsx5 hb6; have hB6 := Below.next hB5 hb6)
            | (go_at_call 13; refine (HS0.out _ hB6).mono ?_; rintro e w7 ⟨rfl, hb7⟩))
          go_ret
          exact Ret.mk rfl (Below.next hB6 hb7)
        · have e3 : (l.kind == 3) = false := by simp [hk3]
          have HK := Lib.hid (show l.kind = 4 from by have := right_vals Hl.out; omega)
          clear hk3 hk12
          have hc0 := ((blk_cell hx).1 0).trans hk0
          (repeat ((fail_if_success (with_reducible show wpList _ _ _ (Oper.mk _ (Op.store _ _ _) _ _ _ _ :: _) _ _)); first | go_values | go_skip | go_guarded | go_step | go_upon))
          have hz := blk0 w9 (letC zeroL LS.none) 28
          refine wpList_store_seg (w := w9.alloc (.cells (letC zeroL LS.none) 28)) rfl 28 _ _ rfl rfl w9.heap.size 0 rfl X rfl 28 (letC zeroL LS.none) hz (by rw [HX.out, letC_size _ _ rfl]; decide) (by rw [HX.out]; exact info_let) HX1.out X (put_whole _ _ (by rw [HX.out, letC_size _ _ rfl])) ?_
          intro w4 hq4 hg4 h4s
          clear h4s
          have hB4 : Below w9.heap.size w9 w4 := (grow1' w9 (letC zeroL LS.none) 28).grown hg4 (by simp) (fun k hk => by cases hk; omega)
          have hB := Below.next hB hB4
          have hx := (hB4.block _ (blk_cell hx).2.2).trans hx
          have hc0 := ((blk_cell hx).1 0).trans hk0
          have hsx := seg_below hsx hB4
          have hq0 : w.heap.size < w9.heap.size := (blk_cell (by assumption)).2.2
          clear hg4 hB4 hz
          generalize w9.heap.size = q at *
          have hql := (blk_cell hq4).2.2
          have hid : (id1.map (Value.int .u8)).toArray = #[.int .u8 1, .int .u8 0, .int .u8 0, .int .u8 0, .int .u8 0, .int .u8 0, .int .u8 0, .int .u8 0, .int .u8 0, .int .u8 0, .int .u8 0, .int .u8 0, .int .u8 0, .int .u8 0, .int .u8 0, .int .u8 0, .int .u8 0, .int .u8 0, .int .u8 0, .int .u8 0, .int .u8 0, .int .u8 0, .int .u8 0, .int .u8 0, .int .u8 0, .int .u8 0, .int .u8 0, .int .u8 0, .int .u8 0, .int .u8 0, .int .u8 0, .int .u8 0] := rfl
          obtain ⟨w5, hw5⟩ : ∃ w5, w4.alloc (.cells #[.int .u8 1, .int .u8 0, .int .u8 0, .int .u8 0, .int .u8 0, .int .u8 0, .int .u8 0, .int .u8 0, .int .u8 0, .int .u8 0, .int .u8 0, .int .u8 0, .int .u8 0, .int .u8 0, .int .u8 0, .int .u8 0, .int .u8 0, .int .u8 0, .int .u8 0, .int .u8 0, .int .u8 0, .int .u8 0, .int .u8 0, .int .u8 0, .int .u8 0, .int .u8 0, .int .u8 0, .int .u8 0, .int .u8 0, .int .u8 0, .int .u8 0, .int .u8 0] 25) = w5 := ⟨_, rfl⟩
          have hq5 : w5.heap[q]? = some (.cells X 28 (0, 0)) := by rw [← hw5]; exact (Below.heap_alloc _ _ _ hql).trans hq4
          have hn5 : w5.heap[w4.heap.size]? = some (.cells #[.int .u8 1, .int .u8 0, .int .u8 0, .int .u8 0, .int .u8 0, .int .u8 0, .int .u8 0, .int .u8 0, .int .u8 0, .int .u8 0, .int .u8 0, .int .u8 0, .int .u8 0, .int .u8 0, .int .u8 0, .int .u8 0, .int .u8 0, .int .u8 0, .int .u8 0, .int .u8 0, .int .u8 0, .int .u8 0, .int .u8 0, .int .u8 0, .int .u8 0, .int .u8 0, .int .u8 0, .int .u8 0, .int .u8 0, .int .u8 0, .int .u8 0, .int .u8 0] 25 (0, 0)) := by rw [← hw5]; exact blk0 w4 _ _
          have hB5 : Below w.heap.size w w5 := by rw [← hw5]; exact hB.alloc hB.size _
          have hx5 : w5.heap[w.heap.size]? = some (.cells X 28 (0, 0)) := by rw [← hw5]; exact (Below.heap_alloc _ _ _ (blk_cell hx).2.2).trans hx
          have hids : Ids w5 (some ⟨w4.heap.size, 0, none⟩) 1 1 [id1] := ⟨by
            have := Sl.row hn5 32 1 rfl (by simp [maxLen])
            exact this, fun d hd => by
              rw [List.mem_singleton] at hd
              subst hd
              exact ⟨rfl, id1_bytes⟩⟩
          have hneq : ¬ w4.heap.size = q := by omega
          have hc7 := ((blk_cell hq5).1 5).trans hk5
          have hf7 := (blk_cell hq5).2.1 5
          have he := HE5.out w5 q (some ⟨w4.heap.size, 0, none⟩) hq5
          have hqq : w.heap.size ≤ q := by omega
          have hB6 : Below w.heap.size w (w5.setCell ⟨q, 5, none⟩ (.slice (some ⟨w4.heap.size, 0, none⟩) 1 1)) := hB5.grown (grown_set _ _ _ _) hB5.size (fun k hk => by cases hk; exact hqq)
          have hx6 := ((grown_set w5 q 5 (.slice (some ⟨w4.heap.size, 0, none⟩) 1 1)).block w.heap.size (blk_cell hx5).2.2 (by simp; omega)).trans hx5
          have hsx6 := HSg.out _ _ hx6
          have hids6 : Ids (w5.setCell ⟨q, 5, none⟩ (.slice (some ⟨w4.heap.size, 0, none⟩) 1 1)) (some ⟨w4.heap.size, 0, none⟩) 1 1 [id1] := ⟨by
            have := Sl.row (((grown_set w5 q 5 (.slice (some ⟨w4.heap.size, 0, none⟩) 1 1)).block w4.heap.size (blk_cell hn5).2.2 (by simp; omega)).trans hn5) 32 1 rfl (by simp [maxLen])
            exact this, hids.all⟩
          have HT := Lib.hid (wr_no (turned_wants HK.out) (HT5.out _ _ hB6 hids6))
          have HW5 := Lib.hid hw5
          clear hsx hx hq4 hq0 hql hqq hids hids6 hw5 hneq hx5 hx6 hn5 hq5 hid
          (repeat ((fail_if_success (with_reducible show wpList _ _ _ (Oper.mk _ (Op.store _ _ _) _ _ _ _ :: _) _ _)); first | go_values | go_skip | go_guarded | go_step | go_upon))
          rw [HW5.out]
          go_wp2_with (first
            | (go_at_call 9; refine HT.out.mono ?_; rintro e w6 ⟨rfl, hb6⟩; have hsx5 := seg_below hsx6 hb6; have hB6 := Below.next hB6 hb6)
            | (go_at_call 13; refine (HS0.out _ hB6).mono ?_; rintro e w7 ⟨rfl, hb7⟩))
          go_ret
          exact Ret.mk rfl (Below.next hB6 hb7)

end Go.Proofs.Ytfjbmgfkfeehnaa
