/- Bytes against each other: the document's function. -/
import Derived.Test.YtfjbmgfkfeehnaaRight
import Derived.Deep.Cut
namespace Go.Proofs.Ytfjbmgfkfeehnaa
open Go.RowKit

theorem Bs.at {w : World} {a : Option Addr} {n c : Nat} {l : List Int} (h : Bs w a n c l) (hn : 0 < n) :
    ∃ b off, a = some ⟨b, off, none⟩ ∧ ∀ (i : Nat) (x : Int), l[i]? = some x → w.cell? ⟨b, off + i, none⟩ = some (.int .u8 x) := by
  obtain ⟨b, off, ha, hc⟩ := Sl.cells h hn
  have hl := h.length
  refine ⟨b, off, ha, fun i x hx => ?_⟩
  obtain ⟨hi, _⟩ := List.getElem?_eq_some_iff.1 hx
  rw [hc i (by omega), List.getElem?_map, hx]
  rfl

set_option linter.unusedSimpArgs false in
set_option maxRecDepth 100000 in
theorem samebytes_any (a : Option Addr) (n c : Nat) (l : List Int) (a' : Option Addr) (n' c' : Nat) (l' : List Int) (w : World) (h : Bs w a n c l) (h' : Bs w a' n' c' l') :
    Calls Try.prog 16 #[.slice a n c, .slice a' n' c'] w (Ret w (.bool (decide (l = l')))) := by
  have hn := h.length
  have hn' := h'.length
  have hcap := h.cap
  have hle := h.le
  unfold maxLen at hcap
  by_cases hnn : n = n'
  · subst hnn
    have HN := Lib.hid hn; have HN' := Lib.hid hn'; have HV := Lib.hid h; have HV' := Lib.hid h'
    clear hn hn' h h'
    go_enter Try.func16, Try.ntmps16
    go_upto_region 4 with fail
    go_loopw [5] (fun i wr => ∃ k : Nat, k ≤ n ∧ i = .int .i64 k ∧ (∀ j, j < k → l[j]? = l'[j]?) ∧ Below w.heap.size w wr) (fun i _ => n - (intOf i).toNat)
    case atStart => exact ⟨0, Nat.zero_le _, rfl, fun j h => absurd h (by omega), Below.refl _ _⟩
    case round =>
      obtain ⟨k, hk, rfl, hall, hB⟩ := hrel
      by_cases hkn : k < n
      · obtain ⟨b, off, rfl, hc⟩ := HV.out.at (by omega)
        obtain ⟨b', off', rfl, hc'⟩ := HV'.out.at (by omega)
        obtain ⟨x, hx⟩ : ∃ x, l[k]? = some x := ⟨_, List.getElem?_eq_getElem (by have := HN.out; omega)⟩
        obtain ⟨y, hy⟩ : ∃ y, l'[k]? = some y := ⟨_, List.getElem?_eq_getElem (by have := HN'.out; omega)⟩
        have k3 := cell_regrown (Below.old hB (Nat.le_refl _) (hc k x hx))
        have k4 := cell_regrown (Below.old hB (Nat.le_refl _) (hc' k y hy))
        have HA := Lib.hid hall; have H1 := Lib.hid hx; have H2 := Lib.hid hy
        clear hc hc' hall hx hy
        by_cases hq : x = y
        · have hq' : (x != y) = false := by simp [hq]
          have HQ := Lib.hid hq
          clear hq
          go_wp2_with fail
          (refine wp_region_quiet_below (by kernel_rfl) (by kernel_rfl) ?_; (repeat (go_big_quiet_step (fail))); refine wpQuiet_nil ?_; intro _ hw'; obtain ⟨⟨dq, osq⟩, hw''⟩ := hw'; subst hw'')
          go_wp2_with fail
          go_roundw
          case rel =>
            refine ⟨k + 1, by omega, by go_num, fun j hj => ?_, Below.next hB (below_regrown _ _ _)⟩
            rcases Nat.lt_succ_iff_lt_or_eq.1 hj with hj | rfl
            · exact HA.out j hj
            · rw [H1.out, H2.out, HQ.out]
          case measure => simp [intOf]; omega
        · have hq' : (x != y) = true := by simp [hq]
          go_wp2_with fail
          (refine wp_region_quiet_below (by kernel_rfl) (by kernel_rfl) ?_; (repeat (go_big_quiet_step (fail))); refine wpQuiet_nil ?_; intro _ hw'; obtain ⟨⟨dq, osq⟩, hw''⟩ := hw'; subst hw'')
          go_wp2_with fail
          go_ret
          refine Ret.mk (congrArg Value.bool ?_) (Below.next hB (below_regrown _ _ _))
          show false = decide (l = l')
          rw [decide_eq_false]
          intro e
          have e2 := H1.out.symm.trans ((congrArg (·[k]?) e).trans H2.out)
          injection e2 with e2
          exact hq e2
      · obtain rfl : k = n := by omega
        go_wp2_with fail
        go_ret
        refine Ret.mk (congrArg Value.bool (decide_eq_true ?_).symm) hB
        have h1 := HN.out
        have h2 := HN'.out
        apply List.ext_getElem?
        intro j
        rcases Nat.lt_or_ge j k with h | h
        · exact hall j h
        · rw [List.getElem?_eq_none (by omega), List.getElem?_eq_none (by omega)]
  · go_enter Try.func16, Try.ntmps16
    go_wp2
    go_ret
    exact Ret.mk (congrArg Value.bool (decide_eq_false (fun e => hnn (by have := congrArg List.length e; omega))).symm) (Below.refl _ _)

end Go.Proofs.Ytfjbmgfkfeehnaa
