/- Branches are right: the program's function. -/
import Derived.Test.YtfjbmgfkfeehnaaRising
namespace Go.Proofs.Ytfjbmgfkfeehnaa
open Go.RowKit

/-- What one step of the loop asks. -/
def rfAt (l : List RfL) (i : Nat) : Bool := match l[i]? with
  | none => true
  | some r => nameB r.name && !decide (r.id = zero32) && (match i with
    | 0 => true
    | j + 1 => match l[j]? with
      | none => true
      | some p => Op.bytesLess p.name.toList r.name.toList)
def rfsB (l : List RfL) : Bool := (List.range l.length).all (rfAt l) && decide (l.length ≤ 100)
theorem rfs_no {l : List RfL} {i : Nat} (hi : i < l.length) (h : rfAt l i = false) : rfsB l = false := by
  unfold rfsB
  rw [show (List.range l.length).all (rfAt l) = false from ?_]
  · rfl
  · rw [List.all_eq_false]
    exact ⟨i, by simpa using hi, by simp [h]⟩
theorem rfs_yes {l : List RfL} (h : ∀ i, i < l.length → rfAt l i = true) : rfsB l = decide (l.length ≤ 100) := by
  unfold rfsB
  rw [show (List.range l.length).all (rfAt l) = true from ?_]
  · rfl
  · rw [List.all_eq_true]
    exact fun i hi => h i (by simpa using hi)

def rf0 : RfL := ⟨⟨#[]⟩, zero32⟩
theorem rfC_size {r : RfL} (h : r.id.length = 32) : (rfC r).size = 33 := by simp [rfC, rfF, h]
theorem info_rf' {r : RfL} (h : r.id.length = 32) : (Try.prog.info? 52).map (·.size) = some (rfC r).size := by rw [rfC_size h]; exact info_rf
theorem one_rf (r : RfL) : ∀ v ∈ (rfC r).toList, v.oneCell' = true := fun v hv => by
  simp only [rfC, rfF, List.mem_cons, List.mem_map] at hv
  rcases hv with rfl | ⟨x, _, rfl⟩ <;> rfl
theorem seg_rf {w : World} {g : Nat} {r : RfL} {t : TypeId} {fr : Nat × Nat} (h : w.heap[g]? = some (.cells (rfC r) t fr)) (hr : r.id.length = 32) : isSeg w g 1 32 = true ∧ segAt w g 1 32 = idC r.id :=
  seg_of h 1 32 (by rw [rfC_size hr]; omega) (rfC_id r hr)
/-- The cell of a branch's name in a slice. -/
theorem Rfs.name {w : World} {a : Option Addr} {n c : Nat} {l : List RfL} (h : Rfs w a n c l) {b off : Nat} (ha : a = some ⟨b, off, none⟩) {i : Nat} {r : RfL} (hr : l[i]? = some r) : w.cell? ⟨b, off + i * 33, none⟩ = some (.string r.name) := by
  obtain ⟨hi, rfl⟩ := List.getElem?_eq_some_iff.1 hr
  have hn := h.len
  obtain ⟨b', off', e, hc⟩ := h.row.cells (by omega)
  rw [ha] at e
  cases e
  have := rowC_at (k := 33) (f := rfF) l (fun x hx => rfF_len (h.all x hx).1.1) i hi
  have h0 : ((rowC 33 rfF l).drop (i * 33))[0]? = some (.string l[i].name) := by
    have h1 : (((rowC 33 rfF l).drop (i * 33)).take 33)[0]? = some (.string l[i].name) := by rw [this]; rfl
    rw [List.getElem?_take_of_lt (by omega)] at h1
    exact h1
  rw [List.getElem?_drop] at h0
  rw [hc (i * 33) (by omega)]
  exact h0

set_option linter.unusedSimpArgs false in
set_option maxRecDepth 100000 in
set_option maxHeartbeats 1000000 in
theorem rightrefs_any (a : Option Addr) (n c : Nat) (l : List RfL) (w : World) (h : Rfs w a n c l) :
    Calls Try.prog 29 #[.slice a n c] w (Ret w (.bool (rfsB l))) := by
  have hn := h.len
  have hcap := h.row.cap
  have hle := h.row.le
  unfold maxLen at hcap
  have HN := Lib.hid hn; have HV := Lib.hid h
  clear hn h
  go_enter Try.func29, Try.ntmps29
  go_upto_region 2 with fail
  go_loopw [7] (fun i wr => ∃ k : Nat, k ≤ n ∧ i = .int .i64 k ∧ (∀ j, j < k → rfAt l j = true) ∧ Below w.heap.size w wr) (fun i _ => n - (intOf i).toNat)
  case atStart => exact ⟨0, Nat.zero_le _, rfl, fun j h => absurd h (by omega), Below.refl _ _⟩
  case round =>
    obtain ⟨k, hk, rfl, hall, hB⟩ := hrel
    have HA := Lib.hid hall
    clear hall
    by_cases hkn : k < n
    · obtain ⟨b, off, rfl, hc⟩ := HV.out.seg (by omega)
      obtain ⟨r, hr⟩ : ∃ r, l[k]? = some r := ⟨_, List.getElem?_eq_getElem (by have := HN.out; omega)⟩
      have G := hc k r hr
      have hs := seg_below G.2 hB
      have HR := Lib.hid hr
      have lr := G.1.1.1
      clear hc
      (repeat ((fail_if_success (with_reducible show wpList _ _ _ (Oper.mk _ (Op.store _ _ _) _ _ _ _ :: _) _ _)); first | go_values | go_skip | go_guarded | go_step | go_upon))
      have hz := blk0 wr (rfC rf0) 52
      refine wpList_store_seg (w := wr.alloc (.cells (rfC rf0) 52)) rfl 52 _ _ rfl rfl wr.heap.size 0 rfl (rfC r) rfl 52 (rfC rf0) hz (by rw [rfC_size lr]; decide) (info_rf' lr) (one_rf r) (rfC r) (put_whole _ _ (by rw [rfC_size lr]; rfl)) ?_
      intro w3 hq3 hg3 _
      have hB := (hB.alloc hB.size (.cells (rfC rf0) 52)).grown hg3 (by have := hB.size; simp; omega) (fun k hk => by cases hk; exact hB.size)
      have k1 := cell_regrown (show w3.cell? ⟨wr.heap.size, 0, none⟩ = some (.string r.name) from (blk_cell hq3).1 0)
      have k2 := seg_regrown (seg_rf hq3 lr)
      have A1 := fun (q : Nat) (os : Array Obj) => Calls.regrown_of (name_any r.name (Sort.grow (redrawn w3 q) os) G.1.2)
      clear hz hg3 hs hq3
      generalize wr.heap.size = q at *
      cases hnm : nameB r.name with
      | false =>
        rw [hnm] at A1
        clear hr
        go_upto_region 4 with fail
        (refine wp_region_quiet_below (by kernel_rfl) (by kernel_rfl) ?_; (repeat (go_big_quiet_step ((with_reducible exact A1 _ _)))); refine wpQuiet_nil ?_; intro _ hw'; obtain ⟨⟨dq, osq⟩, hw''⟩ := hw'; subst hw'')
        go_wp2_with fail
        go_ret
        refine Ret.mk (congrArg Value.bool ?_) (Below.next hB (below_regrown _ _ _))
        exact (rfs_no (i := k) (by have := HN.out; omega) (by unfold rfAt; rw [HR.out]; simp [hnm])).symm
      | true =>
        rw [hnm] at A1
        cases hz : decide (r.id = zero32) with
        | true =>
          clear hr
          go_upto_region 4 with fail
          (refine wp_region_quiet_below (by kernel_rfl) (by kernel_rfl) ?_; (repeat (go_big_quiet_step ((with_reducible exact A1 _ _)))); refine wpQuiet_nil ?_; intro _ hw'; obtain ⟨⟨dq, osq⟩, hw''⟩ := hw'; subst hw'')
          go_wp2_with fail
          go_ret
          refine Ret.mk (congrArg Value.bool ?_) (Below.next hB (below_regrown _ _ _))
          exact (rfs_no (i := k) (by have := HN.out; omega) (by unfold rfAt; rw [HR.out]; simp [hnm, hz])).symm
        | false =>
          cases k with
          | zero =>
            clear hr
            go_upto_region 4 with fail
            (refine wp_region_quiet_below (by kernel_rfl) (by kernel_rfl) ?_; (repeat (go_big_quiet_step ((with_reducible exact A1 _ _)))); refine wpQuiet_nil ?_; intro _ hw'; obtain ⟨⟨dq, osq⟩, hw''⟩ := hw'; subst hw'')
            go_wp2_with fail
            go_roundw
            case rel =>
              refine ⟨0 + 1, by omega, by go_num, fun i hi => ?_, Below.next hB (below_regrown _ _ _)⟩
              obtain rfl : i = 0 := by omega
              unfold rfAt
              rw [HR.out]
              simp [hz, hnm]
            case measure => simp [intOf]; omega
          | succ j =>
            obtain ⟨p, hp⟩ : ∃ p, l[j]? = some p := ⟨_, List.getElem?_eq_getElem (by have := HN.out; omega)⟩
            have HP := Lib.hid hp
            have k3 := cell_regrown (Below.old hB (Nat.le_refl _) (HV.out.name rfl hp))
            clear hp hr
            cases hq : Op.bytesLess p.name.toList r.name.toList with
            | false =>
              go_upto_region 4 with fail
              (refine wp_region_quiet_below (by kernel_rfl) (by kernel_rfl) ?_; (repeat (go_big_quiet_step ((with_reducible exact A1 _ _)))); refine wpQuiet_nil ?_; intro _ hw'; obtain ⟨⟨dq, osq⟩, hw''⟩ := hw'; subst hw'')
              go_wp2_with fail
              go_ret
              refine Ret.mk (congrArg Value.bool ?_) (Below.next hB (below_regrown _ _ _))
              exact (rfs_no (i := j + 1) (by have := HN.out; omega) (by unfold rfAt; rw [HR.out]; simp [hnm, hz, HP.out, hq])).symm
            | true =>
              go_upto_region 4 with fail
              (refine wp_region_quiet_below (by kernel_rfl) (by kernel_rfl) ?_; (repeat (go_big_quiet_step ((with_reducible exact A1 _ _)))); refine wpQuiet_nil ?_; intro _ hw'; obtain ⟨⟨dq, osq⟩, hw''⟩ := hw'; subst hw'')
              go_wp2_with fail
              go_roundw
              case rel =>
                refine ⟨(j + 1) + 1, by omega, by go_num, fun i hi => ?_, Below.next hB (below_regrown _ _ _)⟩
                rcases Nat.lt_succ_iff_lt_or_eq.1 hi with hi | rfl
                · exact HA.out i hi
                · unfold rfAt
                  rw [HR.out]
                  simp [hz, hnm, HP.out, hq]
              case measure => simp [intOf]; omega
    · obtain rfl : k = n := by omega
      have hl := rfs_yes (fun i hi => HA.out i (by have := HN.out; omega))
      have HL := Lib.hid hl
      clear hl
      go_wp2_with fail
      go_ret
      refine Ret.mk (congrArg Value.bool ?_) hB
      rw [HL.out, HN.out]
      simp
      omega

end Go.Proofs.Ytfjbmgfkfeehnaa
