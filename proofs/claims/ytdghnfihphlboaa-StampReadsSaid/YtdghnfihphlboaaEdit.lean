/- Right edits. -/
import Derived.Test.YtdghnfihphlboaaGood
namespace Go.Proofs.Ytdghnfihphlboaa
open Go.RowKit

/-- One stamp of a list is right, below 'at', and above the one before it. -/
def overAt (at_ : St) (l : List St) (k : Nat) : Bool := match l[k]? with
  | none => true
  | some s => stRight s && decide (stCmp s at_ < 0) && (match k with
    | 0 => true
    | j + 1 => match l[j]? with
      | none => true
      | some p => decide (stCmp p s < 0))
def overOk (at_ : St) (l : List St) : Bool := (List.range l.length).all (overAt at_ l)
theorem overOk_iff (at_ : St) (l : List St) : overOk at_ l = true ↔ ∀ k, k < l.length → overAt at_ l k = true := by simp [overOk]
theorem overOk_no {at_ : St} {l : List St} {k : Nat} (hk : k < l.length) (h : overAt at_ l k = false) : overOk at_ l = false := by
  cases hq : overOk at_ l
  · rfl
  · rw [overOk_iff] at hq
    rw [hq k hk] at h
    cases h
theorem overAt_0 {at_ : St} {l : List St} {s : St} (h : l[0]? = some s) : overAt at_ l 0 = (stRight s && decide (stCmp s at_ < 0)) := by simp [overAt, h]
theorem overAt_s {at_ : St} {l : List St} {j : Nat} {s p : St} (h : l[j + 1]? = some s) (hp : l[j]? = some p) : overAt at_ l (j + 1) = (stRight s && decide (stCmp s at_ < 0) && decide (stCmp p s < 0)) := by simp [overAt, h, hp]

theorem stCmp_vals (a b : St) : stCmp a b = -1 ∨ stCmp a b = 0 ∨ stCmp a b = 1 := by
  rcases Int.lt_trichotomy a.t b.t with h1 | h1 | h1
  · exact .inl (by unfold stCmp orZ cmpZ; (repeat' split) <;> omega)
  · rcases Int.lt_trichotomy a.r b.r with h2 | h2 | h2
    · exact .inl (by unfold stCmp orZ cmpZ; (repeat' split) <;> omega)
    · exact .inr (.inl (by unfold stCmp orZ cmpZ; (repeat' split) <;> omega))
    · exact .inr (.inr (by unfold stCmp orZ cmpZ; (repeat' split) <;> omega))
  · exact .inr (.inr (by unfold stCmp orZ cmpZ; (repeat' split) <;> omega))
/-- What two functions answer, to be decided ahead of a walk; in whatever world of a class. -/
theorem right_is {s : St} {b : Bool} (h : stRight s = b) (W : World) (d : Nat) (os : Array Obj) : Calls Try.prog 14 #[.agg #[.int .i64 s.t, .int .i64 s.r]] (Sort.grow (redrawn W d) os)
    fun e w'' => e = .returned (.bool b) ∧ ∃ p : Regrown, w'' = Sort.grow (redrawn W p.d) p.os := Calls.regrown_of (h ▸ stright_any s _)
theorem cmp_is {s p : St} {z : Int} (h : stCmp s p = z) (W : World) (d : Nat) (os : Array Obj) : Calls Try.prog 12 #[.agg #[.int .i64 s.t, .int .i64 s.r], .agg #[.int .i64 p.t, .int .i64 p.r]] (Sort.grow (redrawn W d) os)
    fun e w'' => e = .returned (.int .i64 z) ∧ ∃ p : Regrown, w'' = Sort.grow (redrawn W p.d) p.os := Calls.regrown_of (h ▸ stcmp_any s p _)

/-- An edit's head is right. -/
def editH (o : OpL) : Bool := decide (stCmp o.node o.at_ < 0) && stEqB o.parent.t o.parent.r 0 0 && (o.name.toList == []) && !decide (o.data = zero32) && decide (o.over.length ≤ 64)
def editB (o : OpL) : Bool := editH o && overOk o.at_ o.over

set_option maxRecDepth 100000 in
set_option maxHeartbeats 1000000 in
theorem edit_any (o : OpL) (a : Option Addr) (n c : Nat) (w : World) (h : OpA w o a n c) :
    Calls Try.prog 41 #[.agg (opC o (.slice a n c))] w (Ret w (.bool (editB o))) := by
  obtain ⟨hsz, x0, x1, x2, x3, x4, x5, x6, x7, x40, xd, xa⟩ := opC_x o (.slice a n c) h.data
  have hd := h.data
  have hnm := h.name
  have hn := h.len
  revert hsz x0 x1 x2 x3 x4 x5 x6 x7 x40 xd xa
  generalize opC o (.slice a n c) = X
  intro hsz x0 x1 x2 x3 x4 x5 x6 x7 x40 xd xa
  have hx := blk0 w X 33
  have hcx := (blk_cell hx).1
  have hB0 : Below w.heap.size w (w.alloc (.cells X 33)) := (Below.refl _ _).alloc (Nat.le_refl _) _
  have HD := Lib.hid xd; have HS := Lib.hid hsz; clear xd hsz
  go_enter Try.func41, Try.ntmps41
  go_wp2_with (first
    | (with_reducible show wpList _ _ _ _ _ _; refine wpList_load_seg ?hw 30 _ rfl w.heap.size 8 rfl 33 X (0, 0) _ 32 hx (by rw [HS.out]; omega) Try.underlying30 rfl size_id (idC o.data) HD.out ?_; (case hw => (simp [go_sem, *]; done)))
    | (go_at_call 12; (with_reducible refine (stcmp_any o.node o.at_ _).mono ?_); rintro e w1 ⟨rfl, hb⟩; have hB := Below.next (w := w) (by assumption) hb; have hx := (hb.block _ (blk_cell hx).2.2).trans hx; have hcx := (blk_cell hx).1; have hb := hb))
  all_goals first
    | (go_ret; refine Ret.mk (congrArg Value.bool ?_) (by assumption); simp only [editB, editH]; rw [Bool.eq_iff_iff]; simp [*]; (try omega); done)
    | skip
  have hH : editH o = true := by simp only [editH]; simp [*]; omega
  have hB : Below w.heap.size w w1 := hB
  have HH := Lib.hid hH; have HN := Lib.hid hn; have HV := Lib.hid h.over
  have hE : editB o = overOk o.at_ o.over := by simp [editB, hH]
  clear hE hH hd hnm
  have hn64 : n ≤ 64 := by omega
  have hn0 := h.over.cap
  have hle := h.over.le
  unfold maxLen at hn0
  go_loopw [37] (fun i wr => ∃ k : Nat, k ≤ n ∧ i = .int .i64 k ∧ (∀ j, j < k → overAt o.at_ o.over j = true) ∧ Below w.heap.size w wr ∧ wr.heap[w.heap.size]? = some (.cells X 33 (0, 0))) (fun i _ => n - (intOf i).toNat)
  case atStart => exact ⟨0, Nat.zero_le _, rfl, fun j h => absurd h (by omega), hB, hx⟩
  case round =>
    clear hcx hx hB
    obtain ⟨k, hk, rfl, hall, hB, hx⟩ := hrel
    have hcx := (blk_cell hx).1
    by_cases hkn : k < n
    · have hlt := (blk_cell hx).2.2
      have hne : wr.heap.size ≠ w.heap.size := by omega
      obtain ⟨b, off, rfl, hc⟩ := Sl.st HV.out (by omega)
      obtain ⟨s, hs⟩ : ∃ s, o.over[k]? = some s := ⟨_, List.getElem?_eq_getElem (by have := HN.out; omega)⟩
      have G := hc k s hs
      have g1 := Below.old hB (Nat.le_refl _) G.1
      have g2 := Below.old hB (Nat.le_refl _) G.2
      have hB1 : Below w.heap.size w (wr.alloc (.cells #[.int .i64 s.t, .int .i64 s.r] 23)) := hB.alloc hB.size _
      have hx1 := (Below.heap_alloc wr (.cells #[.int .i64 s.t, .int .i64 s.r] 23) _ hlt).trans hx
      have hcx1 := (blk_cell hx1).1
      have k1 := cell_regrown ((hcx1 1).trans x1)
      have k2 := cell_regrown ((hcx1 2).trans x2)
      have k3 := cell_regrown ((hcx1 40).trans x40)
      have k4 := cell_regrown (show (wr.alloc (.cells #[.int .i64 s.t, .int .i64 s.r] 23)).cell? ⟨wr.heap.size, 0, none⟩ = some (.int .i64 s.t) by simp [go_sem])
      have k5 := cell_regrown (show (wr.alloc (.cells #[.int .i64 s.t, .int .i64 s.r] 23)).cell? ⟨wr.heap.size, 1, none⟩ = some (.int .i64 s.r) by simp [go_sem])
      cases hq1 : stRight s with
      | false =>
        have HR := right_is hq1
        clear hc G hx1 hcx1
        go_wp2_with fail
        (refine wp_region_quiet_below (by kernel_rfl) (by kernel_rfl) ?_; (repeat (go_big_quiet_step ((first | with_reducible exact HR _ _ _)))); refine wpQuiet_nil ?_; intro _ hw'; obtain ⟨⟨dq, osq⟩, hw''⟩ := hw'; subst hw'')
        go_wp2_with fail
        go_ret
        refine Ret.mk (congrArg Value.bool ?_) (Below.next hB1 (below_regrown _ _ _))
        have hno : overAt o.at_ o.over k = false := by simp [overAt, hs, hq1]
        have hlen := HN.out
        show false = editB o
        rw [editB, overOk_no (by omega) hno, Bool.and_false]
      | true =>
        have HR := right_is hq1
        rcases stCmp_vals s o.at_ with hz | hz | hz
        · have HC1 := cmp_is hz
          cases k with
          | zero =>
            simp only [Nat.zero_mul, Nat.add_zero] at g1 g2
            clear hc G hcx1
            go_wp2_with fail
            (refine wp_region_quiet_below (by kernel_rfl) (by kernel_rfl) ?_; (repeat (go_big_quiet_step ((first | with_reducible exact HR _ _ _ | with_reducible exact HC1 _ _ _)))); refine wpQuiet_nil ?_; intro _ hw'; obtain ⟨⟨dq, osq⟩, hw''⟩ := hw'; subst hw'')
            go_wp2_with fail
            go_roundw
            case rel =>
              refine ⟨0 + 1, by omega, by go_num, fun i hi => ?_, Below.next hB1 (below_regrown _ _ _), ((below_regrown _ _ _).block _ (by simp; omega)).trans hx1⟩
              rcases Nat.lt_succ_iff_lt_or_eq.1 hi with hi | rfl
              · exact hall i hi
              · simp [overAt_0 hs, hq1, hz]
            case measure => simp [intOf]; omega
          | succ j =>
            obtain ⟨p, hp⟩ : ∃ p, o.over[j]? = some p := ⟨_, List.getElem?_eq_getElem (by have := HN.out; omega)⟩
            have G' := hc j p hp
            have k6 := cell_regrown (Below.old hB1 (Nat.le_refl _) G'.1)
            have k7 := cell_regrown (Below.old hB1 (Nat.le_refl _) G'.2)
            rcases stCmp_vals p s with hy | hy | hy
            · have HC2 := cmp_is hy
              clear hc G hcx1
              go_wp2_with fail
              (refine wp_region_quiet_below (by kernel_rfl) (by kernel_rfl) ?_; (repeat (go_big_quiet_step ((first | with_reducible exact HR _ _ _ | with_reducible exact HC1 _ _ _ | with_reducible exact HC2 _ _ _)))); refine wpQuiet_nil ?_; intro _ hw'; obtain ⟨⟨dq, osq⟩, hw''⟩ := hw'; subst hw'')
              go_wp2_with fail
              go_roundw
              case rel =>
                refine ⟨(j + 1) + 1, by omega, by go_num, fun i hi => ?_, Below.next hB1 (below_regrown _ _ _), ((below_regrown _ _ _).block _ (by simp; omega)).trans hx1⟩
                rcases Nat.lt_succ_iff_lt_or_eq.1 hi with hi | rfl
                · exact hall i hi
                · simp [overAt_s hs hp, hq1, hz, hy]
              case measure => simp [intOf]; omega
            · have HC2 := cmp_is hy
              clear hc G hx1 hcx1
              go_wp2_with fail
              (refine wp_region_quiet_below (by kernel_rfl) (by kernel_rfl) ?_; (repeat (go_big_quiet_step ((first | with_reducible exact HR _ _ _ | with_reducible exact HC1 _ _ _ | with_reducible exact HC2 _ _ _)))); refine wpQuiet_nil ?_; intro _ hw'; obtain ⟨⟨dq, osq⟩, hw''⟩ := hw'; subst hw'')
              go_wp2_with fail
              go_ret
              refine Ret.mk (congrArg Value.bool ?_) (Below.next hB1 (below_regrown _ _ _))
              have hno : overAt o.at_ o.over (j + 1) = false := by simp [overAt_s hs hp, hq1, hz, hy]
              have hlen := HN.out
              show false = editB o
              rw [editB, overOk_no (by omega) hno, Bool.and_false]
            · have HC2 := cmp_is hy
              clear hc G hx1 hcx1
              go_wp2_with fail
              (refine wp_region_quiet_below (by kernel_rfl) (by kernel_rfl) ?_; (repeat (go_big_quiet_step ((first | with_reducible exact HR _ _ _ | with_reducible exact HC1 _ _ _ | with_reducible exact HC2 _ _ _)))); refine wpQuiet_nil ?_; intro _ hw'; obtain ⟨⟨dq, osq⟩, hw''⟩ := hw'; subst hw'')
              go_wp2_with fail
              go_ret
              refine Ret.mk (congrArg Value.bool ?_) (Below.next hB1 (below_regrown _ _ _))
              have hno : overAt o.at_ o.over (j + 1) = false := by simp [overAt_s hs hp, hq1, hz, hy]
              have hlen := HN.out
              show false = editB o
              rw [editB, overOk_no (by omega) hno, Bool.and_false]
        · have HC1 := cmp_is hz
          clear hc G hx1 hcx1
          go_wp2_with fail
          (refine wp_region_quiet_below (by kernel_rfl) (by kernel_rfl) ?_; (repeat (go_big_quiet_step ((first | with_reducible exact HR _ _ _ | with_reducible exact HC1 _ _ _)))); refine wpQuiet_nil ?_; intro _ hw'; obtain ⟨⟨dq, osq⟩, hw''⟩ := hw'; subst hw'')
          go_wp2_with fail
          go_ret
          refine Ret.mk (congrArg Value.bool ?_) (Below.next hB1 (below_regrown _ _ _))
          have hno : overAt o.at_ o.over k = false := by simp [overAt, hs, hq1, hz]
          have hlen := HN.out
          show false = editB o
          rw [editB, overOk_no (by omega) hno, Bool.and_false]
        · have HC1 := cmp_is hz
          clear hc G hx1 hcx1
          go_wp2_with fail
          (refine wp_region_quiet_below (by kernel_rfl) (by kernel_rfl) ?_; (repeat (go_big_quiet_step ((first | with_reducible exact HR _ _ _ | with_reducible exact HC1 _ _ _)))); refine wpQuiet_nil ?_; intro _ hw'; obtain ⟨⟨dq, osq⟩, hw''⟩ := hw'; subst hw'')
          go_wp2_with fail
          go_ret
          refine Ret.mk (congrArg Value.bool ?_) (Below.next hB1 (below_regrown _ _ _))
          have hno : overAt o.at_ o.over k = false := by simp [overAt, hs, hq1, hz]
          have hlen := HN.out
          show false = editB o
          rw [editB, overOk_no (by omega) hno, Bool.and_false]
    · obtain rfl : k = n := by omega
      go_wp2_with fail
      go_ret
      refine Ret.mk (congrArg Value.bool ?_) hB
      have hk := HN.out
      have : overOk o.at_ o.over = true := (overOk_iff _ _).2 (fun j hj => hall j (by omega))
      simp [editB, HH.out, this]

end Go.Proofs.Ytdghnfihphlboaa
