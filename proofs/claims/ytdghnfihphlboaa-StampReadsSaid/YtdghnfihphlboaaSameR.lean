/- The same operations: the document's function. -/
import Derived.Test.YtdghnfihphlboaaGoodS
import Derived.Deep.Cut
namespace Go.Proofs.Ytdghnfihphlboaa
open Go.RowKit

theorem sameB_over {o o' : OpL} (h : ¬ o.over = o'.over) : sameB o o' = false := by simp [sameB, h]

set_option linter.unusedSimpArgs false in
set_option maxRecDepth 100000 in
set_option maxHeartbeats 1600000 in
theorem rsame_any (o o' : OpL) (a : Option Addr) (n c : Nat) (a' : Option Addr) (n' c' : Nat) (w : World) (h : OpA w o a n c) (h' : OpA w o' a' n' c') :
    Calls Try.prog 21 #[.agg (opC o (.slice a n c)), .agg (opC o' (.slice a' n' c'))] w (Ret w (.bool (sameB o o'))) := by
  obtain ⟨hsz, x0, x1, x2, x3, x4, x5, x6, x7, x40, xd, xa⟩ := opC_x o (.slice a n c) h.data
  obtain ⟨ysz, y0, y1, y2, y3, y4, y5, y6, y7, y40, yd, ya⟩ := opC_x o' (.slice a' n' c') h'.data
  have hd := h.data
  have hd' := h'.data
  have hn := h.len
  have hn' := h'.len
  have hcap := h.over.cap
  have hle := h.over.le
  unfold maxLen at hcap
  revert hsz x0 x1 x2 x3 x4 x5 x6 x7 x40 xd xa ysz y0 y1 y2 y3 y4 y5 y6 y7 y40 yd ya
  generalize opC o (.slice a n c) = X
  generalize opC o' (.slice a' n' c') = Y
  intro hsz x0 x1 x2 x3 x4 x5 x6 x7 x40 xd xa ysz y0 y1 y2 y3 y4 y5 y6 y7 y40 yd ya
  have hx : ((w.alloc (.cells X 33)).alloc (.cells Y 33)).heap[w.heap.size]? = some (.cells X 33 (0, 0)) := (Below.heap_alloc _ _ _ (by simp)).trans (blk0 w X _)
  have hy : ((w.alloc (.cells X 33)).alloc (.cells Y 33)).heap[w.heap.size + 1]? = some (.cells Y 33 (0, 0)) := by have := blk0 (w.alloc (.cells X 33)) Y 33; simpa using this
  have hcx := (blk_cell hx).1
  have hcy := (blk_cell hy).1
  have hB0 : Below w.heap.size w ((w.alloc (.cells X 33)).alloc (.cells Y 33)) := ((Below.refl _ _).alloc (Nat.le_refl _) _).alloc (by simp) _
  have HD := Lib.hid xd; have HS := Lib.hid hsz; have HD' := Lib.hid yd; have HS' := Lib.hid ysz
  have HV := Lib.hid h.over; have HV' := Lib.hid h'.over
  clear xa hsz h xd ya ysz h' yd
  by_cases hnn : n = n'
  · subst hnn
    have HN := Lib.hid hn; have HN' := Lib.hid hn'
    clear hn hn'
    go_enter Try.func21, Try.ntmps21
    go_upto_region 4 with fail
    go_loopw [5] (fun i wr => ∃ k : Nat, k ≤ n ∧ i = .int .i64 k ∧ (∀ j, j < k → o.over[j]? = o'.over[j]?) ∧ Below w.heap.size w wr ∧ wr.heap[w.heap.size]? = some (.cells X 33 (0, 0)) ∧ wr.heap[w.heap.size + 1]? = some (.cells Y 33 (0, 0))) (fun i _ => n - (intOf i).toNat)
    case atStart => exact ⟨0, Nat.zero_le _, rfl, fun j h => absurd h (by omega), hB0, hx, hy⟩
    case round =>
      clear hcx hcy hx hy hB0
      obtain ⟨k, hk, rfl, hall, hB, hx, hy⟩ := hrel
      have hcx := (blk_cell hx).1
      have hcy := (blk_cell hy).1
      by_cases hkn : k < n
      · obtain ⟨b, off, rfl, hc⟩ := Sl.st HV.out (by omega)
        obtain ⟨b', off', rfl, hc'⟩ := Sl.st HV'.out (by omega)
        obtain ⟨s1, hs1⟩ : ∃ s, o.over[k]? = some s := ⟨_, List.getElem?_eq_getElem (by have := HN.out; omega)⟩
        obtain ⟨s2, hs2⟩ : ∃ s, o'.over[k]? = some s := ⟨_, List.getElem?_eq_getElem (by have := HN'.out; omega)⟩
        have G := hc k s1 hs1
        have G' := hc' k s2 hs2
        have k1 := cell_regrown ((hcx 40).trans x40)
        have k2 := cell_regrown ((hcy 40).trans y40)
        have k3 := cell_regrown (Below.old hB (Nat.le_refl _) G.1)
        have k4 := cell_regrown (Below.old hB (Nat.le_refl _) G.2)
        have k5 := cell_regrown (Below.old hB (Nat.le_refl _) G'.1)
        have k6 := cell_regrown (Below.old hB (Nat.le_refl _) G'.2)
        have HA := Lib.hid hall; have H1 := Lib.hid hs1; have H2 := Lib.hid hs2
        clear hc hc' hall G G' hs1 hs2
        cases hq : stEqB s1.t s1.r s2.t s2.r
        · go_wp2_with fail
          (refine wp_region_quiet_below (by kernel_rfl) (by kernel_rfl) ?_; (repeat (go_big_quiet_step (fail))); refine wpQuiet_nil ?_; intro _ hw'; obtain ⟨⟨dq, osq⟩, hw''⟩ := hw'; subst hw'')
          go_wp2_with fail
          go_ret
          refine Ret.mk (congrArg Value.bool ?_) (Below.next hB (below_regrown _ _ _))
          show false = sameB o o'
          rw [sameB_over]
          intro e
          have e2 := H1.out.symm.trans ((congrArg (·[k]?) e).trans H2.out)
          cases e2
          simp [stEqB] at hq
        · go_wp2_with fail
          (refine wp_region_quiet_below (by kernel_rfl) (by kernel_rfl) ?_; (repeat (go_big_quiet_step (fail))); refine wpQuiet_nil ?_; intro _ hw'; obtain ⟨⟨dq, osq⟩, hw''⟩ := hw'; subst hw'')
          go_wp2_with fail
          go_roundw
          case rel =>
            refine ⟨k + 1, by omega, by go_num, fun j hj => ?_, Below.next hB (below_regrown _ _ _), ((below_regrown _ _ _).block _ (blk_cell hx).2.2).trans hx, ((below_regrown _ _ _).block _ (blk_cell hy).2.2).trans hy⟩
            rcases Nat.lt_succ_iff_lt_or_eq.1 hj with hj | rfl
            · exact HA.out j hj
            · rw [H1.out, H2.out]
              rw [stEq_iff] at hq
              rw [of_decide_eq_true hq]
          case measure => simp [intOf]; omega
      · obtain rfl : k = n := by omega
        have hov : o.over = o'.over := by
          have h1 := HN.out
          have h2 := HN'.out
          apply List.ext_getElem?
          intro j
          rcases Nat.lt_or_ge j k with h | h
          · exact hall j h
          · rw [List.getElem?_eq_none (by omega), List.getElem?_eq_none (by omega)]
        have HO := Lib.hid hov
        clear hov hall
        go_wp2_with (first
          | (with_reducible show wpList _ _ _ _ _ _; refine wpList_load_seg ?hw 30 _ rfl w.heap.size 8 rfl 33 X (0, 0) _ 32 hx (by rw [HS.out]; omega) Try.underlying30 rfl size_id (idC o.data) HD.out ?_; (case hw => (simp [go_sem, *]; done)))
          | (with_reducible show wpList _ _ _ _ _ _; refine wpList_load_seg ?hw 30 _ rfl (w.heap.size + 1) 8 rfl 33 Y (0, 0) _ 32 hy (by rw [HS'.out]; omega) Try.underlying30 rfl size_id (idC o'.data) HD'.out ?_; (case hw => (simp [go_sem, *]; done))))
        all_goals
          go_ret
          refine Ret.mk (congrArg Value.bool ?_) (by assumption)
          simp only [sameB, ← stEq_iff, HO.out, decide_true, Bool.and_true]
          (try simp only [Bool.not_eq_true', Bool.not_eq_false', beq_iff_eq, beq_eq_false_iff_ne, ne_eq] at *)
          rw [Bool.eq_iff_iff]
          simp [*]
  · go_enter Try.func21, Try.ntmps21
    go_wp2
    go_ret
    exact Ret.mk (congrArg Value.bool (sameB_over (fun e => hnn (by have := congrArg List.length e; omega))).symm) (by assumption)

end Go.Proofs.Ytdghnfihphlboaa
