/- Right letters: the program's function. -/
import Derived.Test.YtfjbmgfkfeehnaaBare
namespace Go.Proofs.Ytfjbmgfkfeehnaa
open Go.RowKit

def headB (l : LetL) : Bool := decide (1 ≤ l.from_ ∧ l.from_ ≤ 65536) && decide (1 ≤ l.to_ ∧ l.to_ ≤ 65536) && !(l.from_ == l.to_) && !decide (l.session < 1) && !decide (1099511627776 < l.session) && decide (l = bareL l)
def kindB (l : LetL) : Bool :=
  if l.kind = 1 then true
  else if l.kind = 2 then rfsB l.refs
  else if l.kind = 3 then decide (1 ≤ l.wants.length ∧ l.wants.length ≤ 100) && decide (l.haves.length ≤ 200) && risesB zero32 l.wants && risesB zero32 l.haves && decide (0 ≤ l.off ∧ l.off ≤ 1048576)
  else if l.kind = 4 then !decide (l.pack = zero32) && decide (0 ≤ l.off ∧ l.off ≤ 1048576) && decide (0 ≤ l.total ∧ l.total ≤ 1048576) && decide (l.data.length ≤ 500) && decide (l.off ≤ l.total - l.data.length) && (decide (0 < l.data.length) || decide (l.off = l.total))
  else false
def rightB (l : LetL) : Bool := headB l && kindB l

set_option linter.unusedSimpArgs false in
set_option maxRecDepth 100000 in
set_option maxHeartbeats 4000000 in
theorem right_any (l : LetL) (s : LS) (w : World) (h : LetA w l s) :
    Calls Try.prog 12 #[.agg (letC l s)] w (Ret w (.bool (rightB l))) := by
  obtain ⟨hsz, x0, x1, x2, x3, x4, x5, x6, x7, x8, x41, xp, xa⟩ := letC_x l s h.pack
  have hx := blk0 w (letC l s) 28
  have hB0 : Below w.heap.size w (w.alloc (.cells (letC l s) 28)) := (Below.refl _ _).alloc (Nat.le_refl _) _
  have hcx := (blk_cell hx).1
  have hp := h.pack
  have kks := seg_regrown (seg_let hx hp)
  have hsx := seg_of hx 9 32 (by omega) xp
  have A1 := fun (q : Nat) (os : Array Obj) => Calls.regrown_of (within_any l.from_ 1 65536 (Sort.grow (redrawn (w.alloc (.cells (letC l s) 28)) q) os))
  have A2 := fun (q : Nat) (os : Array Obj) => Calls.regrown_of (within_any l.to_ 1 65536 (Sort.grow (redrawn (w.alloc (.cells (letC l s) 28)) q) os))
  have A3 := fun (q : Nat) (os : Array Obj) => Calls.regrown_of (bare_any l s (Sort.grow (redrawn (w.alloc (.cells (letC l s) 28)) q) os) (h.below (Below.next hB0 (below_regrown _ _ _))))
  have A4 := fun (q : Nat) (os : Array Obj) => Calls.regrown_of (same_any l (bareL l) s (bareS l s) (Sort.grow (redrawn (w.alloc (.cells (letC l s) 28)) q) os) (h.below (Below.next hB0 (below_regrown _ _ _))) (h.bare.below (Below.next hB0 (below_regrown _ _ _))))
  have kk1 := cell_regrown ((hcx 1).trans x1)
  have kk2 := cell_regrown ((hcx 2).trans x2)
  have kk3 := cell_regrown ((hcx 3).trans x3)
  have HA := Lib.hid h
  have HS := Lib.hid hsz
  clear h xa xp hsz
  revert x0 x1 x2 x3 x4 x5 x6 x7 x8 x41
  generalize letC l s = X at *
  intro x0 x1 x2 x3 x4 x5 x6 x7 x8 x41
  go_enter Try.func12, Try.ntmps12
  cases h1 : decide (1 ≤ l.from_ ∧ l.from_ ≤ 65536) with
  | false =>
    rw [h1] at A1
    have HF := Lib.hid (show headB l = false by simp [headB, *])
    go_upto_region 1 with fail
    (refine wp_region_quiet_below (by kernel_rfl) (by kernel_rfl) ?_; (repeat (go_big_quiet_step ((first | with_reducible exact A1 _ _)))); refine wpQuiet_nil ?_; intro _ hw'; obtain ⟨⟨dq, osq⟩, hw''⟩ := hw'; subst hw'')
    go_wp2_with fail
    go_ret
    exact Ret.mk (congrArg Value.bool (by rw [rightB, HF.out]; rfl)) (Below.next hB0 (below_regrown _ _ _))
  | true =>
    rw [h1] at A1
    cases h2 : decide (1 ≤ l.to_ ∧ l.to_ ≤ 65536) with
    | false =>
      rw [h2] at A2
      have HF := Lib.hid (show headB l = false by simp [headB, *])
      go_upto_region 1 with fail
      (refine wp_region_quiet_below (by kernel_rfl) (by kernel_rfl) ?_; (repeat (go_big_quiet_step ((first | with_reducible exact A1 _ _ | with_reducible exact A2 _ _)))); refine wpQuiet_nil ?_; intro _ hw'; obtain ⟨⟨dq, osq⟩, hw''⟩ := hw'; subst hw'')
      go_wp2_with fail
      go_ret
      exact Ret.mk (congrArg Value.bool (by rw [rightB, HF.out]; rfl)) (Below.next hB0 (below_regrown _ _ _))
    | true =>
      rw [h2] at A2
      cases h3 : l.from_ == l.to_ with
      | true =>
        have HF := Lib.hid (show headB l = false by simp [headB, *])
        go_upto_region 1 with fail
        (refine wp_region_quiet_below (by kernel_rfl) (by kernel_rfl) ?_; (repeat (go_big_quiet_step ((first | with_reducible exact A1 _ _ | with_reducible exact A2 _ _)))); refine wpQuiet_nil ?_; intro _ hw'; obtain ⟨⟨dq, osq⟩, hw''⟩ := hw'; subst hw'')
        go_wp2_with fail
        go_ret
        exact Ret.mk (congrArg Value.bool (by rw [rightB, HF.out]; rfl)) (Below.next hB0 (below_regrown _ _ _))
      | false =>
        cases h4 : decide (l.session < 1) with
        | true =>
          have HF := Lib.hid (show headB l = false by simp [headB, *])
          go_upto_region 1 with fail
          (refine wp_region_quiet_below (by kernel_rfl) (by kernel_rfl) ?_; (repeat (go_big_quiet_step ((first | with_reducible exact A1 _ _ | with_reducible exact A2 _ _)))); refine wpQuiet_nil ?_; intro _ hw'; obtain ⟨⟨dq, osq⟩, hw''⟩ := hw'; subst hw'')
          go_wp2_with fail
          go_ret
          exact Ret.mk (congrArg Value.bool (by rw [rightB, HF.out]; rfl)) (Below.next hB0 (below_regrown _ _ _))
        | false =>
          cases h5 : decide (1099511627776 < l.session) with
          | true =>
            have HF := Lib.hid (show headB l = false by simp [headB, *])
            go_upto_region 1 with fail
            (refine wp_region_quiet_below (by kernel_rfl) (by kernel_rfl) ?_; (repeat (go_big_quiet_step ((first | with_reducible exact A1 _ _ | with_reducible exact A2 _ _)))); refine wpQuiet_nil ?_; intro _ hw'; obtain ⟨⟨dq, osq⟩, hw''⟩ := hw'; subst hw'')
            go_wp2_with fail
            go_ret
            exact Ret.mk (congrArg Value.bool (by rw [rightB, HF.out]; rfl)) (Below.next hB0 (below_regrown _ _ _))
          | false =>
            cases h6 : decide (l = bareL l) with
            | false =>
              rw [h6] at A4
              have HF := Lib.hid (show headB l = false by simp [headB, *])
              go_upto_region 1 with fail
              (refine wp_region_quiet_below (by kernel_rfl) (by kernel_rfl) ?_; (repeat (go_big_quiet_step ((first | with_reducible exact A1 _ _ | with_reducible exact A2 _ _ | with_reducible exact A3 _ _ | with_reducible exact A4 _ _)))); refine wpQuiet_nil ?_; intro _ hw'; obtain ⟨⟨dq, osq⟩, hw''⟩ := hw'; subst hw'')
              go_wp2_with fail
              go_ret
              exact Ret.mk (congrArg Value.bool (by rw [rightB, HF.out]; rfl)) (Below.next hB0 (below_regrown _ _ _))
            | true =>
              rw [h6] at A4
              have HT := Lib.hid (show headB l = true by simp [headB, *])
              go_upto_region 1 with fail
              (refine wp_region_quiet_below (by kernel_rfl) (by kernel_rfl) ?_; (repeat (go_big_quiet_step ((first | with_reducible exact A1 _ _ | with_reducible exact A2 _ _ | with_reducible exact A3 _ _ | with_reducible exact A4 _ _)))); refine wpQuiet_nil ?_; intro _ hw'; obtain ⟨⟨dq, osq⟩, hw''⟩ := hw'; subst hw'')
              have hx := ((below_regrown _ dq osq).block _ (blk_cell hx).2.2).trans hx
              have hsx := seg_below hsx (below_regrown _ dq osq)
              have hB := Below.next hB0 (below_regrown _ dq osq)
              clear hB0 A1 A2 A3 A4 kk1 kk2 kk3 kks h1 h2 h3 h4 h5 h6 hcx
              generalize Sort.grow (redrawn (w.alloc (.cells X 28)) dq) osq = W at *
              have hcx := (blk_cell hx).1
              have hR : rightB l = kindB l := by rw [rightB, HT.out, Bool.true_and]
              have HR := Lib.hid hR
              clear hR
              have hdl := Lib.hid HA.out.data.length
              have hwl := Lib.hid HA.out.wants.len
              have hhl := Lib.hid HA.out.haves.len
              go_wp2_with (first
                | (go_at_call 27; (with_reducible refine (within_any _ _ _ _).mono ?_); rintro e w1 ⟨rfl, hb⟩; have hB := Below.next (w := w) (by assumption) hb; have hx := (hb.block _ (blk_cell hx).2.2).trans hx; have hcx := (blk_cell hx).1; have hb := hb)
                | (go_at_call 29; (with_reducible refine (rightrefs_any _ _ _ _ _ (HA.out.below (by assumption)).refs).mono ?_); rintro e w1 ⟨rfl, hb⟩; have hB := Below.next (w := w) (by assumption) hb; have hx := (hb.block _ (blk_cell hx).2.2).trans hx; have hcx := (blk_cell hx).1; have hb := hb)
                | (go_at_call 30; (with_reducible refine (rising_any _ _ _ _ _ (HA.out.below (by assumption)).wants).mono ?_); rintro e w1 ⟨rfl, hb⟩; have hB := Below.next (w := w) (by assumption) hb; have hx := (hb.block _ (blk_cell hx).2.2).trans hx; have hcx := (blk_cell hx).1; have hb := hb)
                | (go_at_call 30; (with_reducible refine (rising_any _ _ _ _ _ (HA.out.below (by assumption)).haves).mono ?_); rintro e w1 ⟨rfl, hb⟩; have hB := Below.next (w := w) (by assumption) hb; have hx := (hb.block _ (blk_cell hx).2.2).trans hx; have hcx := (blk_cell hx).1; have hb := hb))
              all_goals
                go_ret
                refine Ret.mk (congrArg Value.bool ?_) (by assumption)
                rw [HR.out]
                simp only [kindB, hdl.out, hwl.out, hhl.out]
                (try simp only [Bool.not_eq_true', Bool.not_eq_false', beq_iff_eq, beq_eq_false_iff_ne, ne_eq, decide_eq_true_eq, decide_eq_false_iff_not] at *)
                rw [Bool.eq_iff_iff]
                simp [*]
                try omega

end Go.Proofs.Ytfjbmgfkfeehnaa
