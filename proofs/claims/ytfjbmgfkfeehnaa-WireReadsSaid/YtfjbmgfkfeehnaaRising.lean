/- IDs that rise: the program's function, the document's; numbers within bounds. -/
import Derived.Test.YtfjbmgfkfeehnaaIdCmp
namespace Go.Proofs.Ytfjbmgfkfeehnaa
open Go.RowKit

/-- Do they rise, from this one on? -/
def risesB : List Int → List (List Int) → Bool
  | _, [] => true
  | p, d :: l => decide (lexC p d < 0) && risesB d l
theorem drop_at {α : Type} {l : List α} {k : Nat} {d : α} (h : l[k]? = some d) : l.drop k = d :: l.drop (k + 1) := by
  obtain ⟨hk, rfl⟩ := List.getElem?_eq_some_iff.1 h
  exact List.drop_eq_getElem_cons hk

theorem within_any (n lo hi : Int) (w : World) : Calls Try.prog 27 #[.int .i64 n, .int .i64 lo, .int .i64 hi] w (Ret w (.bool (decide (lo ≤ n ∧ n ≤ hi)))) := by
  go_enter Try.func27, Try.ntmps27
  go_wp2_with fail
  all_goals
    go_ret
    refine Ret.mk (congrArg Value.bool ?_) (Below.refl _ _)
    rw [Bool.eq_iff_iff]
    simp [*]
    try omega

theorem zero32_bytes : IsBytes zero32 := fun x hx => by
  have := List.eq_of_mem_replicate hx
  omega
theorem idC_zero : idC zero32 = #[Value.int .u8 0, Value.int .u8 0, Value.int .u8 0, Value.int .u8 0, Value.int .u8 0, Value.int .u8 0, Value.int .u8 0, Value.int .u8 0, Value.int .u8 0, Value.int .u8 0, Value.int .u8 0, Value.int .u8 0, Value.int .u8 0, Value.int .u8 0, Value.int .u8 0, Value.int .u8 0, Value.int .u8 0, Value.int .u8 0, Value.int .u8 0, Value.int .u8 0, Value.int .u8 0, Value.int .u8 0, Value.int .u8 0, Value.int .u8 0, Value.int .u8 0, Value.int .u8 0, Value.int .u8 0, Value.int .u8 0, Value.int .u8 0, Value.int .u8 0, Value.int .u8 0, Value.int .u8 0] := rfl

theorem idC_size {d : List Int} (h : d.length = 32) : (idC d).size = 32 := by simp [idC, h]
theorem seg_id {w : World} {g : Nat} {d : List Int} {t : TypeId} {fr : Nat × Nat} (h : w.heap[g]? = some (.cells (idC d) t fr)) (hd : d.length = 32) : isSeg w g 0 32 = true ∧ segAt w g 0 32 = idC d :=
  seg_of h 0 32 (by rw [idC_size hd]; omega) (by
    apply Array.ext'
    have : (d.map (Value.int .u8)).length = 32 := by simp [hd]
    simp only [idC, Array.toList_extract, List.extract, List.drop_zero, Nat.zero_add, Nat.sub_zero]
    rw [List.take_of_length_le (by omega)])
theorem size_id' {d : List Int} (h : d.length = 32) : (Try.prog.info? 25).map (·.size) = some (idC d).size := by rw [idC_size h]; exact size_id
theorem cmp_decide {p d : List Int} (b : Bool) (h : decide (0 ≤ lexC p d) = b) : decide (lexC p d < 0) = !b := by
  subst h
  rw [Bool.eq_iff_iff]
  simp

set_option maxRecDepth 100000 in
set_option maxHeartbeats 1000000 in
theorem rising_any (a : Option Addr) (n c : Nat) (l : List (List Int)) (w : World) (h : Ids w a n c l) :
    Calls Try.prog 30 #[.slice a n c] w (Ret w (.bool (risesB zero32 l))) := by
  have hn := h.len
  have hcap := h.row.cap
  have hle := h.row.le
  unfold maxLen at hcap
  have HN := Lib.hid hn; have HV := Lib.hid h
  clear hn h
  go_enter Try.func30, Try.ntmps30
  go_upto_region 3 with fail
  have hz := blk0 w (idC zero32) 25
  have hB0 : Below w.heap.size w (w.alloc (.cells (idC zero32) 25)) := (Below.refl _ _).alloc (Nat.le_refl _) _
  rw [← idC_zero]
  go_loopw [8] (fun i wr => ∃ (k : Nat) (p : List Int), k ≤ n ∧ i = .int .i64 k ∧ (p.length = 32 ∧ IsBytes p) ∧ wr.heap[w.heap.size]? = some (.cells (idC p) 25 (0, 0)) ∧ risesB zero32 l = risesB p (l.drop k) ∧ Below w.heap.size w wr) (fun i _ => n - (intOf i).toNat)
  case atStart => exact ⟨0, zero32, Nat.zero_le _, rfl, ⟨rfl, zero32_bytes⟩, hz, rfl, hB0⟩
  case round =>
    clear hz hB0
    obtain ⟨k, p, hk, rfl, hp, hq, hall, hB⟩ := hrel
    have hlt := hB.size
    have HA := Lib.hid hall
    clear hall
    by_cases hkn : k < n
    · obtain ⟨b, off, rfl, hc⟩ := HV.out.seg (by omega)
      obtain ⟨d, hd⟩ : ∃ d, l[k]? = some d := ⟨_, List.getElem?_eq_getElem (by have := HN.out; omega)⟩
      have G := hc k d hd
      have hs := seg_below G.2 hB
      have HD := Lib.hid hd
      clear hc hd
      (repeat ((fail_if_success (with_reducible show wpList _ _ _ (Oper.mk _ (Op.store _ _ _) _ _ _ _ :: _) _ _)); first | go_values | go_skip | go_guarded | go_step | go_upon))
      have hz := blk0 wr (idC zero32) 25
      refine wpList_store_seg (w := wr.alloc (.cells (idC zero32) 25)) rfl 25 _ _ rfl rfl wr.heap.size 0 rfl (idC d) rfl 25 (idC zero32) hz (by rw [idC_size G.1.1]; decide) (size_id' G.1.1) (cells_id d) (idC d) (put_whole _ _ (by rw [idC_size G.1.1]; rfl)) ?_
      intro w3 hq3 hg3 _
      have hqlt := (blk_cell hq).2.2
      have hB := (hB.alloc hB.size (.cells (idC zero32) 25)).grown hg3 (by simp; omega) (fun k hk => by cases hk; omega)
      have hq := (hg3.block w.heap.size (by simp; omega) (by simp; omega)).trans ((Below.heap_alloc _ _ _ hqlt).trans hq)
      have hs3 := seg_id hq3 G.1.1
      have hs4 := seg_id hq hp.1
      have HC := Lib.hid (fun W => cmp_any p d W hp.1 G.1.1 hp.2 G.1.2)
      have HQ := Lib.hid hq
      have HQ3 := Lib.hid hq3
      clear hz hg3 hs hq hq3 hqlt
      generalize wr.heap.size = q at *
      have hqn : w.heap.size ≤ q := hlt
      cases hx : decide (0 ≤ lexC p d) with
      | true =>
        go_wp2_with (go_at_call 58; (with_reducible refine (HC.out _).mono ?_); rintro e w4 ⟨rfl, hb4⟩; have hB := Below.next hB hb4)
        go_ret
        refine Ret.mk (congrArg Value.bool ?_) hB
        rw [HA.out, drop_at HD.out, risesB, cmp_decide _ hx]
        rfl
      | false =>
        go_upto_region 7 with (go_at_call 58; (with_reducible refine (HC.out _).mono ?_); rintro e w4 ⟨rfl, hb4⟩; have hB := Below.next hB hb4; have hs3 := seg_below hs3 hb4; have hq := (hb4.block _ (blk_cell HQ.out).2.2).trans HQ.out)
        (repeat ((fail_if_success (with_reducible show wpList _ _ _ (Oper.mk _ (Op.store _ _ _) _ _ _ _ :: _) _ _)); first | go_values | go_skip | go_guarded | go_step | go_upon))
        refine wpList_store_seg (w := w4) rfl 25 _ _ rfl rfl w.heap.size 0 rfl (idC d) rfl 25 (idC p) hq (by rw [idC_size G.1.1, idC_size hp.1]; decide) (size_id' G.1.1) (cells_id d) (idC d) (put_whole _ _ (by rw [idC_size G.1.1, idC_size hp.1])) ?_
        intro w5 hq5 hg5 _
        have hB := hB.grown hg5 hB.size (fun k hk => by cases hk; omega)
        go_wp2_with fail
        go_roundw
        case rel =>
          refine ⟨k + 1, d, by omega, by go_num, G.1, hq5, ?_, hB⟩
          rw [HA.out, drop_at HD.out, risesB, cmp_decide _ hx]
          rfl
        case measure => simp [intOf]; omega
    · obtain rfl : k = n := by omega
      go_wp2_with fail
      go_ret
      refine Ret.mk (congrArg Value.bool ?_) hB
      rw [HA.out, List.drop_of_length_le (by rw [HN.out]; exact Nat.le_refl _)]
      rfl

theorem lexC_nonneg : ∀ (k : Nat) (d : List Int), IsBytes d → (List.replicate k (0 : Int)).length = d.length → 0 ≤ lexC (List.replicate k 0) d → d = List.replicate k 0
  | 0, [], _, _, _ => rfl
  | 0, _ :: _, _, h, _ => by simp at h
  | k + 1, [], _, h, _ => by simp at h
  | k + 1, x :: d, hb, hl, h => by
    rw [List.replicate_succ] at h ⊢
    have hx := hb x (List.mem_cons_self ..)
    simp only [lexC] at h
    split at h
    · omega
    · rw [if_neg (by omega)] at h
      have := lexC_nonneg k d (fun y hy => hb y (List.mem_cons_of_mem _ hy)) (by simpa using hl) h
      rw [← this]
      congr 1
      omega
theorem lexC_zero32 {d : List Int} (hd : d.length = 32) (hb : IsBytes d) : decide (lexC zero32 d < 0) = !decide (d = zero32) := by
  rw [Bool.eq_iff_iff]
  simp only [decide_eq_true_eq, Bool.not_eq_true', decide_eq_false_iff_not]
  constructor
  · rintro h rfl
    rw [lexC_self] at h
    omega
  · intro h
    rcases Int.lt_or_le (lexC zero32 d) 0 with h1 | h1
    · exact h1
    · exact absurd (lexC_nonneg 32 d hb (by simp [hd]) h1) h
theorem lexC_ge : ∀ (k : Nat) (d : List Int), IsBytes d → d.length = k → 0 ≤ lexC d (List.replicate k 0)
  | 0, [], _, _ => by simp [lexC]
  | 0, _ :: _, _, h => by simp at h
  | k + 1, [], _, h => by simp at h
  | k + 1, x :: d, hb, hl => by
    rw [List.replicate_succ]
    have hx := hb x (List.mem_cons_self ..)
    simp only [lexC]
    rw [if_neg (by omega)]
    split
    · omega
    · exact lexC_ge k d (fun y hy => hb y (List.mem_cons_of_mem _ hy)) (by simpa using hl)
/-- What one step of the document's loop asks. -/
def risesAt (l : List (List Int)) (i : Nat) : Bool := match l[i]? with
  | none => true
  | some d => !decide (d = zero32) && (match i with
    | 0 => true
    | j + 1 => match l[j]? with
      | none => true
      | some p => decide (lexC p d = -1))
theorem risesB_iff : ∀ (l : List (List Int)) (p : List Int), (∀ d ∈ l, d.length = 32 ∧ IsBytes d) → (p.length = 32 ∧ IsBytes p) →
    (risesB p l = true ↔ ∀ (i : Nat) (d : List Int), l[i]? = some d → ∃ q : List Int, (p :: l)[i]? = some q ∧ lexC q d = -1)
  | [], p, _, _ => by simp [risesB]
  | d :: l, p, hl, hp => by
    have ih := risesB_iff l d (fun x hx => hl x (List.mem_cons_of_mem _ hx)) (hl d (List.mem_cons_self ..))
    simp only [risesB, Bool.and_eq_true, decide_eq_true_eq, ih]
    constructor
    · rintro ⟨h1, h2⟩ i x hx
      cases i with
      | zero =>
        simp at hx
        subst hx
        refine ⟨p, rfl, ?_⟩
        rcases lexC_vals p d with h | h | h <;> omega
      | succ i => exact h2 i x (by simpa using hx)
    · intro h
      refine ⟨?_, fun i x hx => ?_⟩
      · obtain ⟨q, hq, hc⟩ := h 0 d rfl
        simp at hq
        subst hq
        omega
      · have := h (i + 1) x (by simpa using hx)
        simpa using this
theorem risesB_at {l : List (List Int)} (hl : ∀ d ∈ l, d.length = 32 ∧ IsBytes d) : risesB zero32 l = true ↔ ∀ i, i < l.length → risesAt l i = true := by
  rw [risesB_iff l zero32 hl ⟨rfl, zero32_bytes⟩]
  constructor
  · intro h i hi
    have hd : l[i]? = some l[i] := List.getElem?_eq_getElem hi
    obtain ⟨q, hq, hc⟩ := h i _ hd
    have hm := hl _ (List.getElem_mem hi)
    unfold risesAt
    rw [hd]
    cases i with
    | zero =>
      simp only [List.getElem?_cons_zero, Option.some.injEq] at hq
      subst hq
      have := lexC_zero32 hm.1 hm.2
      rw [decide_eq_true (by omega)] at this
      simp only []
      rw [← this]
      rfl
    | succ j =>
      simp only [List.getElem?_cons_succ] at hq
      simp only [hq, hc]
      have hmq := hl q (List.mem_of_getElem? hq)
      have : l[j + 1] ≠ zero32 := fun e => by
        have := lexC_ge 32 q hmq.2 hmq.1
        rw [e] at hc
        unfold zero32 at hc
        omega
      simp [this]
  · intro h i d hd
    obtain ⟨hi, rfl⟩ := List.getElem?_eq_some_iff.1 hd
    have hr := h i hi
    have hm := hl _ (List.getElem_mem hi)
    unfold risesAt at hr
    rw [hd] at hr
    simp only [Bool.and_eq_true] at hr
    cases i with
    | zero =>
      refine ⟨zero32, rfl, ?_⟩
      have := lexC_zero32 hm.1 hm.2
      rw [hr.1, decide_eq_true_eq] at this
      rcases lexC_vals zero32 l[0] with h | h | h <;> omega
    | succ j =>
      have hj : l[j]? = some (l[j]'(by omega)) := List.getElem?_eq_getElem (by omega)
      refine ⟨l[j]'(by omega), (by rw [List.getElem?_cons_succ]; exact hj), ?_⟩
      have := hr.2
      simp only [hj, decide_eq_true_eq] at this
      exact this

@[go_sem] theorem eql_lit (a : List Int) (ha : a.length = 32) (w : World) : (Op.equalIn 10000 25 (.agg (idC a)) (.agg #[Value.int .u8 0, Value.int .u8 0, Value.int .u8 0, Value.int .u8 0, Value.int .u8 0, Value.int .u8 0, Value.int .u8 0, Value.int .u8 0, Value.int .u8 0, Value.int .u8 0, Value.int .u8 0, Value.int .u8 0, Value.int .u8 0, Value.int .u8 0, Value.int .u8 0, Value.int .u8 0, Value.int .u8 0, Value.int .u8 0, Value.int .u8 0, Value.int .u8 0, Value.int .u8 0, Value.int .u8 0, Value.int .u8 0, Value.int .u8 0, Value.int .u8 0, Value.int .u8 0, Value.int .u8 0, Value.int .u8 0, Value.int .u8 0, Value.int .u8 0, Value.int .u8 0, Value.int .u8 0])).run Try.prog w = .ok (decide (a = zero32)) w := eql_id a zero32 ha rfl w
@[go_sem] theorem eql_litA (a : List Int) (ha : a.length = 32) (w : World) : (Op.equalIn 10000 24 (.agg (idC a)) (.agg #[Value.int .u8 0, Value.int .u8 0, Value.int .u8 0, Value.int .u8 0, Value.int .u8 0, Value.int .u8 0, Value.int .u8 0, Value.int .u8 0, Value.int .u8 0, Value.int .u8 0, Value.int .u8 0, Value.int .u8 0, Value.int .u8 0, Value.int .u8 0, Value.int .u8 0, Value.int .u8 0, Value.int .u8 0, Value.int .u8 0, Value.int .u8 0, Value.int .u8 0, Value.int .u8 0, Value.int .u8 0, Value.int .u8 0, Value.int .u8 0, Value.int .u8 0, Value.int .u8 0, Value.int .u8 0, Value.int .u8 0, Value.int .u8 0, Value.int .u8 0, Value.int .u8 0, Value.int .u8 0])).run Try.prog w = .ok (decide (a = zero32)) w := eql_arr a zero32 ha rfl w

set_option linter.unusedSimpArgs false in
set_option maxRecDepth 100000 in
set_option maxHeartbeats 1000000 in
theorem rrising_any (a : Option Addr) (n c : Nat) (l : List (List Int)) (w : World) (h : Ids w a n c l) :
    Calls Try.prog 26 #[.slice a n c] w (Ret w (.bool (risesB zero32 l))) := by
  have hn := h.len
  have hcap := h.row.cap
  have hle := h.row.le
  unfold maxLen at hcap
  have HN := Lib.hid hn; have HV := Lib.hid h
  clear hn h
  go_enter Try.func26, Try.ntmps26
  go_upto_region 2 with fail
  go_loopw [3] (fun i wr => ∃ k : Nat, k ≤ n ∧ i = .int .i64 k ∧ (∀ j, j < k → risesAt l j = true) ∧ Below w.heap.size w wr) (fun i _ => n - (intOf i).toNat)
  case atStart => exact ⟨0, Nat.zero_le _, rfl, fun j h => absurd h (by omega), Below.refl _ _⟩
  case round =>
    obtain ⟨k, hk, rfl, hall, hB⟩ := hrel
    have HA := Lib.hid hall
    clear hall
    by_cases hkn : k < n
    · obtain ⟨b, off, rfl, hc⟩ := HV.out.seg (by omega)
      obtain ⟨d, hd⟩ : ∃ d, l[k]? = some d := ⟨_, List.getElem?_eq_getElem (by have := HN.out; omega)⟩
      have G := hc k d hd
      have hs := seg_regrown (seg_below G.2 hB)
      have ld := G.1.1
      have HD := Lib.hid hd
      cases hz : decide (d = zero32) with
      | true =>
        clear hc hd G
        go_wp2_with fail
        (refine wp_region_quiet_below (by kernel_rfl) (by kernel_rfl) ?_; (repeat (go_big_quiet_step (fail))); refine wpQuiet_nil ?_; intro _ hw'; obtain ⟨⟨dq, osq⟩, hw''⟩ := hw'; subst hw'')
        go_wp2_with fail
        go_ret
        refine Ret.mk (congrArg Value.bool ?_) (Below.next hB (below_regrown _ _ _))
        show false = risesB zero32 l
        symm
        rw [Bool.eq_false_iff]
        intro hr
        have := (risesB_at HV.out.all).1 hr k (by have := HN.out; omega)
        unfold risesAt at this
        rw [HD.out] at this
        simp [hz] at this
      | false =>
        cases k with
        | zero =>
          simp only [Nat.zero_mul, Nat.add_zero] at hs
          clear hc hd G
          go_wp2_with fail
          (refine wp_region_quiet_below (by kernel_rfl) (by kernel_rfl) ?_; (repeat (go_big_quiet_step (fail))); refine wpQuiet_nil ?_; intro _ hw'; obtain ⟨⟨dq, osq⟩, hw''⟩ := hw'; subst hw'')
          go_wp2_with fail
          go_roundw
          case rel =>
            refine ⟨0 + 1, by omega, by go_num, fun i hi => ?_, Below.next hB (below_regrown _ _ _)⟩
            obtain rfl : i = 0 := by omega
            unfold risesAt
            rw [HD.out]
            simp [hz]
          case measure => simp [intOf]; omega
        | succ j =>
          obtain ⟨p, hp⟩ : ∃ p, l[j]? = some p := ⟨_, List.getElem?_eq_getElem (by have := HN.out; omega)⟩
          have G' := hc j p hp
          have hs' := seg_regrown (seg_below G'.2 hB)
          have lp := G'.1.1
          have HP := Lib.hid hp
          have A1 := fun (q : Nat) (os : Array Obj) => Calls.regrown_of (rcmp_any p d (Sort.grow (redrawn wr q) os) lp ld)
          cases hq : lexC p d != -1 with
          | true =>
            clear hc hd G hp G'
            go_wp2_with fail
            (refine wp_region_quiet_below (by kernel_rfl) (by kernel_rfl) ?_; (repeat (go_big_quiet_step ((with_reducible exact A1 _ _)))); refine wpQuiet_nil ?_; intro _ hw'; obtain ⟨⟨dq, osq⟩, hw''⟩ := hw'; subst hw'')
            go_wp2_with fail
            go_ret
            refine Ret.mk (congrArg Value.bool ?_) (Below.next hB (below_regrown _ _ _))
            show false = risesB zero32 l
            symm
            rw [Bool.eq_false_iff]
            intro hr
            have := (risesB_at HV.out.all).1 hr (j + 1) (by have := HN.out; omega)
            unfold risesAt at this
            rw [HD.out] at this
            simp [HP.out] at this
            simp [this] at hq
          | false =>
            clear hc hd G hp G'
            go_wp2_with fail
            (refine wp_region_quiet_below (by kernel_rfl) (by kernel_rfl) ?_; (repeat (go_big_quiet_step ((with_reducible exact A1 _ _)))); refine wpQuiet_nil ?_; intro _ hw'; obtain ⟨⟨dq, osq⟩, hw''⟩ := hw'; subst hw'')
            go_wp2_with fail
            go_roundw
            case rel =>
              refine ⟨(j + 1) + 1, by omega, by go_num, fun i hi => ?_, Below.next hB (below_regrown _ _ _)⟩
              rcases Nat.lt_succ_iff_lt_or_eq.1 hi with hi | rfl
              · exact HA.out i hi
              · unfold risesAt
                rw [HD.out]
                simp [hz, HP.out]
                simpa using hq
            case measure => simp [intOf]; omega
    · obtain rfl : k = n := by omega
      go_wp2_with fail
      go_ret
      refine Ret.mk (congrArg Value.bool ?_) hB
      symm
      exact (risesB_at HV.out.all).2 (fun i hi => HA.out i (by have := HN.out; omega))

end Go.Proofs.Ytfjbmgfkfeehnaa
