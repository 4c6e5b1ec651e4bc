/- Right letters: the document's function: the walk. -/
import Derived.Test.YtfjbmgfkfeehnaaDocRa
import Derived.Deep.DeepCutAuto
namespace Go.Proofs.Ytfjbmgfkfeehnaa
open Go.RowKit

/-- The piece of a branch's ID in a slice. -/
theorem Rfs.idseg {w : World} {a : Option Addr} {n c : Nat} {l : List RfL} (h : Rfs w a n c l) {b off : Nat} (ha : a = some ⟨b, off, none⟩) {i : Nat} {r : RfL} (hr : l[i]? = some r) : isSeg w b (off + i * 33 + 1) 32 = true ∧ segAt w b (off + i * 33 + 1) 32 = idC r.id := by
  obtain ⟨hi, rfl⟩ := List.getElem?_eq_some_iff.1 hr
  have hn := h.len
  have hl := h.row.len
  have hid := (h.all _ (List.getElem_mem hi)).1.1
  obtain ⟨b', off', e, hc⟩ := h.row.cells (by omega)
  rw [ha] at e
  cases e
  have h33 := rowC_at (k := 33) (f := rfF) l (fun x hx => rfF_len (h.all x hx).1.1) i hi
  have := seg_cells (w := w) (g := b) (o := off + i * 33 + 1) (n := 32) (xs := idF l[i].id) (idF_len hid) (by omega) (fun j hj => by
    rw [show off + i * 33 + 1 + j = off + (i * 33 + (1 + j)) by omega, hc _ (by omega)]
    have h2 : (((rowC 33 rfF l).drop (i * 33)).take 33)[1 + j]? = (rfF l[i])[1 + j]? := by rw [h33]
    rw [List.getElem?_take_of_lt (by omega), List.getElem?_drop] at h2
    rw [h2]
    simp [rfF, idF, Nat.add_comm 1 j])
  exact this

set_option linter.unusedSimpArgs false in
set_option maxRecDepth 100000 in
set_option maxHeartbeats 8000000 in
theorem dright_k2 (l : LetL) (s : LS) (w : World) (h : LetA w l s) (hgood : headR l = true) (hk : l.kind = 2) :
    Calls Try.prog 10 #[.agg (letC l s)] w (Ret w (.bool (rightB l))) := by
  obtain ⟨hsz, x0, x1, x2, x3, x4, x5, x6, x7, x8, x41, xp, xa⟩ := letC_x l s h.pack
  have hx := blk0 w (letC l s) 37
  have hB := (Below.refl w.heap.size w).alloc (Nat.le_refl _) (.cells (letC l s) 37)
  have hcx := (blk_cell hx).1
  have hp := h.pack
  have hsx := seg_of hx 9 32 (by omega) xp
  have HA := Lib.hid h
  have HS := Lib.hid hsz
  clear h xa xp hsz
  revert x0 x1 x2 x3 x4 x5 x6 x7 x8 x41
  generalize letC l s = X at *
  intro x0 x1 x2 x3 x4 x5 x6 x7 x8 x41
  have hrl := Lib.hid HA.out.refs.len
  have hdl := Lib.hid HA.out.data.length
  have hwl := Lib.hid HA.out.wants.len
  have hhl := Lib.hid HA.out.haves.len
  have HK := Lib.hid (k2_eq hgood hk)
  have e1 : (l.kind == 1) = false := by simp [hk]
  have e2 : (l.kind == 2) = true := by simp [hk]
  clear hk
  have h1 : decide (l.from_ < 1) = false := by
    have hh := hgood
    simp only [headR, Bool.and_eq_true, decide_eq_true_eq, Bool.not_eq_true', decide_eq_false_iff_not, beq_eq_false_iff_ne] at hh
    simp; omega
  have h2 : decide (65536 < l.from_) = false := by
    have hh := hgood
    simp only [headR, Bool.and_eq_true, decide_eq_true_eq, Bool.not_eq_true', decide_eq_false_iff_not, beq_eq_false_iff_ne] at hh
    simp; omega
  have h3 : decide (l.to_ < 1) = false := by
    have hh := hgood
    simp only [headR, Bool.and_eq_true, decide_eq_true_eq, Bool.not_eq_true', decide_eq_false_iff_not, beq_eq_false_iff_ne] at hh
    simp; omega
  have h4 : decide (65536 < l.to_) = false := by
    have hh := hgood
    simp only [headR, Bool.and_eq_true, decide_eq_true_eq, Bool.not_eq_true', decide_eq_false_iff_not, beq_eq_false_iff_ne] at hh
    simp; omega
  have h5 : (l.from_ == l.to_) = false := by
    have hh := hgood
    simp only [headR, Bool.and_eq_true, decide_eq_true_eq, Bool.not_eq_true', decide_eq_false_iff_not, beq_eq_false_iff_ne] at hh
    simp; omega
  have h6 : decide (l.session < 1) = false := by
    have hh := hgood
    simp only [headR, Bool.and_eq_true, decide_eq_true_eq, Bool.not_eq_true', decide_eq_false_iff_not, beq_eq_false_iff_ne] at hh
    simp; omega
  have h7 : decide (1099511627776 < l.session) = false := by
    have hh := hgood
    simp only [headR, Bool.and_eq_true, decide_eq_true_eq, Bool.not_eq_true', decide_eq_false_iff_not, beq_eq_false_iff_ne] at hh
    simp; omega
  clear hgood
  go_enter Try.func10, Try.ntmps10
  go_upto_region 3 with fail
  clear h1 h2 h3 h4 h5 h6 h7
  generalize w.alloc (.cells X 37) = W at *
  go_cut [3] (fun v wx => v = .bool (refsR l) ∧ wx = W)
  case first =>
    as_aux_lemma =>
      go_wp2_with fail
      go_meet
      case rel => exact ⟨congrArg Value.bool (refs_eq hrl.out), rfl⟩
  case rest =>
    obtain ⟨rfl, rfl⟩ := hcut
    go_upto_region 4 with fail
    go_cut [4] (fun v wx => v = .bool (wantR l) ∧ wx = wc)
    case first =>
      as_aux_lemma =>
        go_wp2_with fail
        all_goals
          go_meet
          case rel =>
            refine ⟨congrArg Value.bool ?_, rfl⟩
            rw [want_eq hwl.out hhl.out]
            simp [*]
    case rest =>
      obtain ⟨rfl, rfl⟩ := hcut
      go_upto_region 5 with fail
      go_cut [5] (fun v wx => v = .bool (partR l) ∧ wx = wc)
      case first =>
        as_aux_lemma =>
          go_wp2_with fail
          all_goals
            go_meet
            case rel =>
              refine ⟨congrArg Value.bool ?_, rfl⟩
              rw [part_eq hdl.out]
              simp [*]
      case rest =>
        obtain ⟨rfl, rfl⟩ := hcut
        generalize wantR l = wb at *
        generalize partR l = pb at *
        have HX := Lib.hid hx
        go_upto_region 11 with fail
        clear hcx hsx hx
        go_loopw [6] (fun i wr => ∃ k : Nat, k ≤ s.rn ∧ i = .int .i64 k ∧ (∀ j, j < k → rfAt l.refs j = true) ∧ Below wc.heap.size wc wr) (fun i _ => s.rn - (intOf i).toNat)
        case atStart => exact ⟨0, Nat.zero_le _, rfl, fun j h => absurd h (by omega), Below.refl _ _⟩
        case round =>
          obtain ⟨k, hk, rfl, hall, hBw⟩ := hrel
          have HAl := Lib.hid hall
          clear hall
          have hx := (hBw.block _ (blk_cell HX.out).2.2).trans HX.out
          by_cases hkn : k < s.rn
          · obtain ⟨b, off, hab, hc⟩ := HA.out.refs.seg (by omega)
            have hab' := hab
            rw [hab] at x4
            obtain ⟨r, hr⟩ : ∃ r, l.refs[k]? = some r := ⟨_, List.getElem?_eq_getElem (by have := hrl.out; omega)⟩
            have G := hc k r hr
            have hB2 := Below.next hB hBw
            have hs := seg_below G.2 hB2
            have c4p := ((blk_cell hx).1 4).trans x4
            have c4 := cell_regrown c4p
            have HR := Lib.hid hr
            have lr := G.1.1.1
            have k1 := cell_regrown (Below.old hB2 (Nat.le_refl _) (HA.out.refs.name hab hr))
            have k2 := seg_regrown (seg_below (Rfs.idseg HA.out.refs hab hr) hB2)
            have A1 := fun (q : Nat) (os : Array Obj) => Calls.regrown_of (rname_any r.name (Sort.grow (redrawn wr q) os) G.1.2)
            have hcI : (s.rn : Int) ≤ 9223372036854775807 := by have h1 := HA.out.refs.row.cap; have h2 := HA.out.refs.row.le; unfold maxLen at h1; omega
            clear hc hs hx hr
            cases hnm : nameB r.name with
            | false =>
              rw [hnm] at A1
              as_aux_lemma =>
                go_upto_region 13 with fail
                (refine wp_region_quiet_below (by kernel_rfl) (by kernel_rfl) ?_; (repeat (go_big_quiet_step ((with_reducible exact A1 _ _)))); refine wpQuiet_nil ?_; intro _ hw'; obtain ⟨⟨dq, osq⟩, hw''⟩ := hw'; subst hw'')
                go_wp2_with fail
                go_ret
                refine Ret.mk (congrArg Value.bool ?_) (Below.next hB2 (below_regrown _ _ _))
                rw [HK.out, rfs_no (i := k) (by have := hrl.out; omega) (by unfold rfAt; rw [HR.out]; simp [hnm])]
                rfl
            | true =>
              rw [hnm] at A1
              cases hz : decide (r.id = zero32) with
              | true =>
                as_aux_lemma =>
                  go_upto_region 13 with fail
                  (refine wp_region_quiet_below (by kernel_rfl) (by kernel_rfl) ?_; (repeat (go_big_quiet_step ((with_reducible exact A1 _ _)))); refine wpQuiet_nil ?_; intro _ hw'; obtain ⟨⟨dq, osq⟩, hw''⟩ := hw'; subst hw'')
                  go_wp2_with fail
                  go_ret
                  refine Ret.mk (congrArg Value.bool ?_) (Below.next hB2 (below_regrown _ _ _))
                  rw [HK.out, rfs_no (i := k) (by have := hrl.out; omega) (by unfold rfAt; rw [HR.out]; simp [hnm, hz])]
                  rfl
              | false =>
                cases k with
                | zero =>
                  simp only [Nat.zero_mul, Nat.add_zero] at k1 k2
                  as_aux_lemma =>
                    go_upto_region 13 with fail
                    (refine wp_region_quiet_below (by kernel_rfl) (by kernel_rfl) ?_; (repeat (go_big_quiet_step ((with_reducible exact A1 _ _)))); refine wpQuiet_nil ?_; intro _ hw'; obtain ⟨⟨dq, osq⟩, hw''⟩ := hw'; subst hw'')
                    go_wp2_with fail
                    go_roundw
                    case rel =>
                      refine ⟨0 + 1, by omega, by go_num, fun i hi => ?_, Below.next hBw (below_regrown _ _ _)⟩
                      obtain rfl : i = 0 := by omega
                      unfold rfAt
                      rw [HR.out]
                      simp [hz, hnm]
                    case measure => simp [intOf]; omega
                | succ j =>
                  obtain ⟨p, hp⟩ : ∃ p, l.refs[j]? = some p := ⟨_, List.getElem?_eq_getElem (by have := hrl.out; omega)⟩
                  have HP := Lib.hid hp
                  have k3 := cell_regrown (Below.old hB2 (Nat.le_refl _) (HA.out.refs.name hab' hp))
                  clear hp
                  cases hq : Op.bytesLess p.name.toList r.name.toList with
                  | false =>
                    as_aux_lemma =>
                      go_upto_region 13 with fail
                      (refine wp_region_quiet_below (by kernel_rfl) (by kernel_rfl) ?_; (repeat (go_big_quiet_step ((with_reducible exact A1 _ _)))); refine wpQuiet_nil ?_; intro _ hw'; obtain ⟨⟨dq, osq⟩, hw''⟩ := hw'; subst hw'')
                      go_wp2_with fail
                      go_ret
                      refine Ret.mk (congrArg Value.bool ?_) (Below.next hB2 (below_regrown _ _ _))
                      rw [HK.out, rfs_no (i := j + 1) (by have := hrl.out; omega) (by unfold rfAt; rw [HR.out]; simp [hnm, hz, HP.out, hq])]
                      rfl
                  | true =>
                    as_aux_lemma =>
                      go_upto_region 13 with fail
                      (refine wp_region_quiet_below (by kernel_rfl) (by kernel_rfl) ?_; (repeat (go_big_quiet_step ((with_reducible exact A1 _ _)))); refine wpQuiet_nil ?_; intro _ hw'; obtain ⟨⟨dq, osq⟩, hw''⟩ := hw'; subst hw'')
                      go_wp2_with fail
                      go_roundw
                      case rel =>
                        refine ⟨(j + 1) + 1, by omega, by go_num, fun i hi => ?_, Below.next hBw (below_regrown _ _ _)⟩
                        rcases Nat.lt_succ_iff_lt_or_eq.1 hi with hi | rfl
                        · exact HAl.out i hi
                        · unfold rfAt
                          rw [HR.out]
                          simp [hz, hnm, HP.out, hq]
                      case measure => simp [intOf]; omega
          · obtain rfl : k = s.rn := by omega
            have hl := rfs_yes (fun i hi => HAl.out i (by have := hrl.out; omega))
            have HL := Lib.hid hl
            have hcx := (blk_cell hx).1
            have hB := Below.next hB hBw
            clear hl
            go_wp2_with fail
            all_goals
              go_ret
              refine Ret.mk (congrArg Value.bool ?_) hB
              rw [HK.out, HL.out, hrl.out]
              (try simp only [Bool.not_eq_true', Bool.not_eq_false', beq_iff_eq, beq_eq_false_iff_ne, ne_eq, decide_eq_true_eq, decide_eq_false_iff_not] at *)
              rw [Bool.eq_iff_iff]
              simp [*]
              (try omega)

end Go.Proofs.Ytfjbmgfkfeehnaa
