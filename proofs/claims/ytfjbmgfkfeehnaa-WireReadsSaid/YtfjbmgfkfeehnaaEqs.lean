/- Lists of IDs, of branches, bytes: are they equal? -/
import Derived.Test.YtfjbmgfkfeehnaaNam
import Derived.Deep.Cut
namespace Go.Proofs.Ytfjbmgfkfeehnaa
open Go.RowKit

set_option linter.unusedSimpArgs false in
set_option maxRecDepth 100000 in
theorem eqids_any (a : Option Addr) (n c : Nat) (l : List (List Int)) (a' : Option Addr) (n' c' : Nat) (l' : List (List Int)) (w : World) (h : Ids w a n c l) (h' : Ids w a' n' c' l') :
    Calls Try.prog 32 #[.slice a n c, .slice a' n' c'] w (Ret w (.bool (decide (l = l')))) := by
  have hn := h.len
  have hn' := h'.len
  have hcap := h.row.cap
  have hle := h.row.le
  unfold maxLen at hcap
  by_cases hnn : n = n'
  · subst hnn
    have HN := Lib.hid hn; have HN' := Lib.hid hn'; have HV := Lib.hid h; have HV' := Lib.hid h'
    clear hn hn' h h'
    go_enter Try.func32, Try.ntmps32
    go_upto_region 4 with fail
    go_loopw [13] (fun i wr => ∃ k : Nat, k ≤ n ∧ i = .int .i64 k ∧ (∀ j, j < k → l[j]? = l'[j]?) ∧ Below w.heap.size w wr) (fun i _ => n - (intOf i).toNat)
    case atStart => exact ⟨0, Nat.zero_le _, rfl, fun j h => absurd h (by omega), Below.refl _ _⟩
    case round =>
      obtain ⟨k, hk, rfl, hall, hB⟩ := hrel
      by_cases hkn : k < n
      · obtain ⟨b, off, rfl, hc⟩ := HV.out.seg (by omega)
        obtain ⟨b', off', rfl, hc'⟩ := HV'.out.seg (by omega)
        obtain ⟨x, hx⟩ : ∃ x, l[k]? = some x := ⟨_, List.getElem?_eq_getElem (by have := HN.out; omega)⟩
        obtain ⟨y, hy⟩ : ∃ y, l'[k]? = some y := ⟨_, List.getElem?_eq_getElem (by have := HN'.out; omega)⟩
        have G := hc k x hx
        have G' := hc' k y hy
        have lx := G.1.1
        have ly := G'.1.1
        have k3 := seg_regrown (seg_below G.2 hB)
        have k4 := seg_regrown (seg_below G'.2 hB)
        have HA := Lib.hid hall; have H1 := Lib.hid hx; have H2 := Lib.hid hy
        clear hc hc' hall hx hy G G'
        by_cases hq : x = y
        · have hq' : decide (x = y) = true := decide_eq_true hq
          have HQ := Lib.hid hq
          clear hq
          go_wp2_with fail
          (refine wp_region_quiet_below (by kernel_rfl) (by kernel_rfl) ?_; (repeat (go_big_quiet_step (fail))); refine wpQuiet_nil ?_; intro _ hw'; obtain ⟨⟨dq, osq⟩, hw''⟩ := hw'; subst hw'')
          go_wp2_with fail
          go_roundw
          case rel =>
            refine ⟨k + 1, by omega, by go_num, fun j hj => ?_, Below.next hB (below_regrown _ _ _)⟩
            rcases Nat.lt_succ_iff_lt_or_eq.1 hj with hj | rfl
            · exact HA.out j hj
            · rw [H1.out, H2.out, HQ.out]
          case measure => simp [intOf]; omega
        · have hq' : decide (x = y) = false := decide_eq_false hq
          have HQ := Lib.hid hq
          clear hq
          go_wp2_with fail
          (refine wp_region_quiet_below (by kernel_rfl) (by kernel_rfl) ?_; (repeat (go_big_quiet_step (fail))); refine wpQuiet_nil ?_; intro _ hw'; obtain ⟨⟨dq, osq⟩, hw''⟩ := hw'; subst hw'')
          go_wp2_with fail
          go_ret
          refine Ret.mk (congrArg Value.bool ?_) (Below.next hB (below_regrown _ _ _))
          show false = decide (l = l')
          rw [decide_eq_false]
          intro e
          have e2 := H1.out.symm.trans ((congrArg (·[k]?) e).trans H2.out)
          injection e2 with e2
          exact HQ.out e2
      · obtain rfl : k = n := by omega
        go_wp2_with fail
        go_ret
        refine Ret.mk (congrArg Value.bool (decide_eq_true ?_).symm) hB
        have h1 := HN.out
        have h2 := HN'.out
        apply List.ext_getElem?
        intro j
        rcases Nat.lt_or_ge j k with h | h
        · exact hall j h
        · rw [List.getElem?_eq_none (by omega), List.getElem?_eq_none (by omega)]
  · go_enter Try.func32, Try.ntmps32
    go_wp2
    go_ret
    exact Ret.mk (congrArg Value.bool (decide_eq_false (fun e => hnn (by have := congrArg List.length e; omega))).symm) (Below.refl _ _)

set_option linter.unusedSimpArgs false in
set_option maxRecDepth 100000 in
theorem eqrfs_any (a : Option Addr) (n c : Nat) (l : List RfL) (a' : Option Addr) (n' c' : Nat) (l' : List RfL) (w : World) (h : Rfs w a n c l) (h' : Rfs w a' n' c' l') :
    Calls Try.prog 31 #[.slice a n c, .slice a' n' c'] w (Ret w (.bool (decide (l = l')))) := by
  have hn := h.len
  have hn' := h'.len
  have hcap := h.row.cap
  have hle := h.row.le
  unfold maxLen at hcap
  by_cases hnn : n = n'
  · subst hnn
    have HN := Lib.hid hn; have HN' := Lib.hid hn'; have HV := Lib.hid h; have HV' := Lib.hid h'
    clear hn hn' h h'
    go_enter Try.func31, Try.ntmps31
    go_upto_region 4 with fail
    go_loopw [13] (fun i wr => ∃ k : Nat, k ≤ n ∧ i = .int .i64 k ∧ (∀ j, j < k → l[j]? = l'[j]?) ∧ Below w.heap.size w wr) (fun i _ => n - (intOf i).toNat)
    case atStart => exact ⟨0, Nat.zero_le _, rfl, fun j h => absurd h (by omega), Below.refl _ _⟩
    case round =>
      obtain ⟨k, hk, rfl, hall, hB⟩ := hrel
      by_cases hkn : k < n
      · obtain ⟨b, off, rfl, hc⟩ := HV.out.seg (by omega)
        obtain ⟨b', off', rfl, hc'⟩ := HV'.out.seg (by omega)
        obtain ⟨x, hx⟩ : ∃ x, l[k]? = some x := ⟨_, List.getElem?_eq_getElem (by have := HN.out; omega)⟩
        obtain ⟨y, hy⟩ : ∃ y, l'[k]? = some y := ⟨_, List.getElem?_eq_getElem (by have := HN'.out; omega)⟩
        have G := hc k x hx
        have G' := hc' k y hy
        have lx := G.1.1.1
        have ly := G'.1.1.1
        have k3 := seg_regrown (seg_below G.2 hB)
        have k4 := seg_regrown (seg_below G'.2 hB)
        have HA := Lib.hid hall; have H1 := Lib.hid hx; have H2 := Lib.hid hy
        clear hc hc' hall hx hy G G'
        by_cases hq : x = y
        · have hq' : decide (x = y) = true := decide_eq_true hq
          have HQ := Lib.hid hq
          clear hq
          go_wp2_with fail
          (refine wp_region_quiet_below (by kernel_rfl) (by kernel_rfl) ?_; (repeat (go_big_quiet_step (fail))); refine wpQuiet_nil ?_; intro _ hw'; obtain ⟨⟨dq, osq⟩, hw''⟩ := hw'; subst hw'')
          go_wp2_with fail
          go_roundw
          case rel =>
            refine ⟨k + 1, by omega, by go_num, fun j hj => ?_, Below.next hB (below_regrown _ _ _)⟩
            rcases Nat.lt_succ_iff_lt_or_eq.1 hj with hj | rfl
            · exact HA.out j hj
            · rw [H1.out, H2.out, HQ.out]
          case measure => simp [intOf]; omega
        · have hq' : decide (x = y) = false := decide_eq_false hq
          have HQ := Lib.hid hq
          clear hq
          go_wp2_with fail
          (refine wp_region_quiet_below (by kernel_rfl) (by kernel_rfl) ?_; (repeat (go_big_quiet_step (fail))); refine wpQuiet_nil ?_; intro _ hw'; obtain ⟨⟨dq, osq⟩, hw''⟩ := hw'; subst hw'')
          go_wp2_with fail
          go_ret
          refine Ret.mk (congrArg Value.bool ?_) (Below.next hB (below_regrown _ _ _))
          show false = decide (l = l')
          rw [decide_eq_false]
          intro e
          have e2 := H1.out.symm.trans ((congrArg (·[k]?) e).trans H2.out)
          injection e2 with e2
          exact HQ.out e2
      · obtain rfl : k = n := by omega
        go_wp2_with fail
        go_ret
        refine Ret.mk (congrArg Value.bool (decide_eq_true ?_).symm) hB
        have h1 := HN.out
        have h2 := HN'.out
        apply List.ext_getElem?
        intro j
        rcases Nat.lt_or_ge j k with h | h
        · exact hall j h
        · rw [List.getElem?_eq_none (by omega), List.getElem?_eq_none (by omega)]
  · go_enter Try.func31, Try.ntmps31
    go_wp2
    go_ret
    exact Ret.mk (congrArg Value.bool (decide_eq_false (fun e => hnn (by have := congrArg List.length e; omega))).symm) (Below.refl _ _)

set_option linter.unusedSimpArgs false in
set_option maxRecDepth 100000 in
theorem sameids_any (a : Option Addr) (n c : Nat) (l : List (List Int)) (a' : Option Addr) (n' c' : Nat) (l' : List (List Int)) (w : World) (h : Ids w a n c l) (h' : Ids w a' n' c' l') :
    Calls Try.prog 34 #[.slice a n c, .slice a' n' c'] w (Ret w (.bool (decide (l = l')))) := by
  have hn := h.len
  have hn' := h'.len
  have hcap := h.row.cap
  have hle := h.row.le
  unfold maxLen at hcap
  by_cases hnn : n = n'
  · subst hnn
    have HN := Lib.hid hn; have HN' := Lib.hid hn'; have HV := Lib.hid h; have HV' := Lib.hid h'
    clear hn hn' h h'
    go_enter Try.func34, Try.ntmps34
    go_upto_region 4 with fail
    go_loopw [5] (fun i wr => ∃ k : Nat, k ≤ n ∧ i = .int .i64 k ∧ (∀ j, j < k → l[j]? = l'[j]?) ∧ Below w.heap.size w wr) (fun i _ => n - (intOf i).toNat)
    case atStart => exact ⟨0, Nat.zero_le _, rfl, fun j h => absurd h (by omega), Below.refl _ _⟩
    case round =>
      obtain ⟨k, hk, rfl, hall, hB⟩ := hrel
      by_cases hkn : k < n
      · obtain ⟨b, off, rfl, hc⟩ := HV.out.seg (by omega)
        obtain ⟨b', off', rfl, hc'⟩ := HV'.out.seg (by omega)
        obtain ⟨x, hx⟩ : ∃ x, l[k]? = some x := ⟨_, List.getElem?_eq_getElem (by have := HN.out; omega)⟩
        obtain ⟨y, hy⟩ : ∃ y, l'[k]? = some y := ⟨_, List.getElem?_eq_getElem (by have := HN'.out; omega)⟩
        have G := hc k x hx
        have G' := hc' k y hy
        have lx := G.1.1
        have ly := G'.1.1
        have k3 := seg_regrown (seg_below G.2 hB)
        have k4 := seg_regrown (seg_below G'.2 hB)
        have HA := Lib.hid hall; have H1 := Lib.hid hx; have H2 := Lib.hid hy
        clear hc hc' hall hx hy G G'
        by_cases hq : x = y
        · have hq' : decide (x = y) = true := decide_eq_true hq
          have HQ := Lib.hid hq
          clear hq
          go_wp2_with fail
          (refine wp_region_quiet_below (by kernel_rfl) (by kernel_rfl) ?_; (repeat (go_big_quiet_step (fail))); refine wpQuiet_nil ?_; intro _ hw'; obtain ⟨⟨dq, osq⟩, hw''⟩ := hw'; subst hw'')
          go_wp2_with fail
          go_roundw
          case rel =>
            refine ⟨k + 1, by omega, by go_num, fun j hj => ?_, Below.next hB (below_regrown _ _ _)⟩
            rcases Nat.lt_succ_iff_lt_or_eq.1 hj with hj | rfl
            · exact HA.out j hj
            · rw [H1.out, H2.out, HQ.out]
          case measure => simp [intOf]; omega
        · have hq' : decide (x = y) = false := decide_eq_false hq
          have HQ := Lib.hid hq
          clear hq
          go_wp2_with fail
          (refine wp_region_quiet_below (by kernel_rfl) (by kernel_rfl) ?_; (repeat (go_big_quiet_step (fail))); refine wpQuiet_nil ?_; intro _ hw'; obtain ⟨⟨dq, osq⟩, hw''⟩ := hw'; subst hw'')
          go_wp2_with fail
          go_ret
          refine Ret.mk (congrArg Value.bool ?_) (Below.next hB (below_regrown _ _ _))
          show false = decide (l = l')
          rw [decide_eq_false]
          intro e
          have e2 := H1.out.symm.trans ((congrArg (·[k]?) e).trans H2.out)
          injection e2 with e2
          exact HQ.out e2
      · obtain rfl : k = n := by omega
        go_wp2_with fail
        go_ret
        refine Ret.mk (congrArg Value.bool (decide_eq_true ?_).symm) hB
        have h1 := HN.out
        have h2 := HN'.out
        apply List.ext_getElem?
        intro j
        rcases Nat.lt_or_ge j k with h | h
        · exact hall j h
        · rw [List.getElem?_eq_none (by omega), List.getElem?_eq_none (by omega)]
  · go_enter Try.func34, Try.ntmps34
    go_wp2
    go_ret
    exact Ret.mk (congrArg Value.bool (decide_eq_false (fun e => hnn (by have := congrArg List.length e; omega))).symm) (Below.refl _ _)

theorem strB_toS {l : List Int} (h : IsBytes l) : strB (toS l) = l := by
  unfold strB toS
  rw [strOfNums_data, List.map_map]
  conv => rhs; rw [← List.map_id l]
  apply List.map_congr_left
  intro x hx
  have := h x hx
  simp
  omega
theorem toS_inj {l m : List Int} (h : IsBytes l) (h' : IsBytes m) (e : toS l = toS m) : l = m := by
  rw [← strB_toS h, ← strB_toS h', e]
theorem toS_beq {l m : List Int} (h : IsBytes l) (h' : IsBytes m) : ((toS l).toList == (toS m).toList) = decide (l = m) := by
  rw [Bool.eq_iff_iff, decide_eq_true_iff]
  exact ⟨fun e => toS_inj h h' (name_inj e), fun e => by rw [e]; simp⟩

set_option maxRecDepth 100000 in
theorem eqbytes_any (a : Option Addr) (n c : Nat) (l : List Int) (a' : Option Addr) (n' c' : Nat) (l' : List Int) (w : World) (h : Bs w a n c l) (h' : Bs w a' n' c' l') (hb : IsBytes l) (hb' : IsBytes l') :
    Calls Try.prog 33 #[.slice a n c, .slice a' n' c'] w (Ret w (.bool (decide (l = l')))) := by
  have c1 := fun W (hB : Below w.heap.size w W) => conv_bs (Bs.below h hB)
  have c2 := fun W (hB : Below w.heap.size w W) => conv_bs (Bs.below h' hB)
  have c3 := c1 w (Below.refl _ _)
  have c4 := c2 w (Below.refl _ _)
  go_enter Try.func33, Try.ntmps33
  go_wp2_with fail
  go_ret
  refine Ret.mk (congrArg Value.bool ?_) (Below.refl _ _)
  exact toS_beq hb hb'

end Go.Proofs.Ytfjbmgfkfeehnaa
