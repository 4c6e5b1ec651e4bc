/- Right letters: the document's function: the walk. -/
import Derived.Test.YtfjbmgfkfeehnaaDocK
import Derived.Deep.DeepCutAuto
namespace Go.Proofs.Ytfjbmgfkfeehnaa
open Go.RowKit

theorem len_zero {α : Type} {l : List α} {n : Nat} (h : l.length = n) : decide (l = []) = ((n : Int) == 0) := by
  rw [Bool.eq_iff_iff]
  simp only [decide_eq_true_eq, beq_iff_eq]
  constructor
  · rintro rfl; simp at h; omega
  · intro e; exact List.eq_nil_of_length_eq_zero (by omega)
theorem refs_eq {l : LetL} {n : Nat} (h : l.refs.length = n) : ((n : Int) == 0) = refsR l := (len_zero h).symm
theorem want_eq {l : LetL} {n m : Nat} (h : l.wants.length = n) (h' : l.haves.length = m) : wantR l = (((n : Int) == 0) && ((m : Int) == 0)) := by
  rw [← len_zero h, ← len_zero h', wantR, Bool.decide_and]
theorem part_eq {l : LetL} {n : Nat} (h : l.data.length = n) : partR l = ((l.total == 0) && (decide (l.pack = zero32) && ((n : Int) == 0))) := by
  rw [← len_zero h, partR, Bool.decide_and, Bool.decide_and]
  rfl

set_option linter.unusedSimpArgs false in
set_option maxRecDepth 100000 in
set_option maxHeartbeats 8000000 in
theorem dright_bad (l : LetL) (s : LS) (w : World) (h : LetA w l s) (hbad : headR l = false) :
    Calls Try.prog 10 #[.agg (letC l s)] w (Ret w (.bool (rightB l))) := by
  obtain ⟨hsz, x0, x1, x2, x3, x4, x5, x6, x7, x8, x41, xp, xa⟩ := letC_x l s h.pack
  have hx := blk0 w (letC l s) 37
  have hB := (Below.refl w.heap.size w).alloc (Nat.le_refl _) (.cells (letC l s) 37)
  have hcx := (blk_cell hx).1
  have hp := h.pack
  have hsx := seg_of hx 9 32 (by omega) xp
  have HA := Lib.hid h
  have HS := Lib.hid hsz
  clear h xa xp hsz
  revert x0 x1 x2 x3 x4 x5 x6 x7 x8 x41
  generalize letC l s = X at *
  intro x0 x1 x2 x3 x4 x5 x6 x7 x8 x41
  have hrl := Lib.hid HA.out.refs.len
  have hdl := Lib.hid HA.out.data.length
  have hwl := Lib.hid HA.out.wants.len
  have hhl := Lib.hid HA.out.haves.len
  cases h1 : decide (l.from_ < 1) with
  | true =>
    have HF := Lib.hid (rightB_head (l := l) (by
      rw [Bool.eq_false_iff]
      intro hh
      simp only [headR, Bool.and_eq_true, decide_eq_true_eq, Bool.not_eq_true', decide_eq_false_iff_not, beq_eq_false_iff_ne] at hh
      simp only [decide_eq_true_eq, beq_iff_eq] at h1
      omega))
    go_enter Try.func10, Try.ntmps10
    go_wp2_with fail
    go_ret
    exact Ret.mk (congrArg Value.bool HF.out.symm) hB
  | false =>
    cases h2 : decide (65536 < l.from_) with
    | true =>
      have HF := Lib.hid (rightB_head (l := l) (by
        rw [Bool.eq_false_iff]
        intro hh
        simp only [headR, Bool.and_eq_true, decide_eq_true_eq, Bool.not_eq_true', decide_eq_false_iff_not, beq_eq_false_iff_ne] at hh
        simp only [decide_eq_true_eq, beq_iff_eq] at h2
        omega))
      go_enter Try.func10, Try.ntmps10
      go_wp2_with fail
      go_ret
      exact Ret.mk (congrArg Value.bool HF.out.symm) hB
    | false =>
      cases h3 : decide (l.to_ < 1) with
      | true =>
        have HF := Lib.hid (rightB_head (l := l) (by
          rw [Bool.eq_false_iff]
          intro hh
          simp only [headR, Bool.and_eq_true, decide_eq_true_eq, Bool.not_eq_true', decide_eq_false_iff_not, beq_eq_false_iff_ne] at hh
          simp only [decide_eq_true_eq, beq_iff_eq] at h3
          omega))
        go_enter Try.func10, Try.ntmps10
        go_wp2_with fail
        go_ret
        exact Ret.mk (congrArg Value.bool HF.out.symm) hB
      | false =>
        cases h4 : decide (65536 < l.to_) with
        | true =>
          have HF := Lib.hid (rightB_head (l := l) (by
            rw [Bool.eq_false_iff]
            intro hh
            simp only [headR, Bool.and_eq_true, decide_eq_true_eq, Bool.not_eq_true', decide_eq_false_iff_not, beq_eq_false_iff_ne] at hh
            simp only [decide_eq_true_eq, beq_iff_eq] at h4
            omega))
          go_enter Try.func10, Try.ntmps10
          go_wp2_with fail
          go_ret
          exact Ret.mk (congrArg Value.bool HF.out.symm) hB
        | false =>
          cases h5 : l.from_ == l.to_ with
          | true =>
            have HF := Lib.hid (rightB_head (l := l) (by
              rw [Bool.eq_false_iff]
              intro hh
              simp only [headR, Bool.and_eq_true, decide_eq_true_eq, Bool.not_eq_true', decide_eq_false_iff_not, beq_eq_false_iff_ne] at hh
              simp only [decide_eq_true_eq, beq_iff_eq] at h5
              omega))
            go_enter Try.func10, Try.ntmps10
            go_wp2_with fail
            go_ret
            exact Ret.mk (congrArg Value.bool HF.out.symm) hB
          | false =>
            cases h6 : decide (l.session < 1) with
            | true =>
              have HF := Lib.hid (rightB_head (l := l) (by
                rw [Bool.eq_false_iff]
                intro hh
                simp only [headR, Bool.and_eq_true, decide_eq_true_eq, Bool.not_eq_true', decide_eq_false_iff_not, beq_eq_false_iff_ne] at hh
                simp only [decide_eq_true_eq, beq_iff_eq] at h6
                omega))
              go_enter Try.func10, Try.ntmps10
              go_wp2_with fail
              go_ret
              exact Ret.mk (congrArg Value.bool HF.out.symm) hB
            | false =>
              cases h7 : decide (1099511627776 < l.session) with
              | true =>
                have HF := Lib.hid (rightB_head (l := l) (by
                  rw [Bool.eq_false_iff]
                  intro hh
                  simp only [headR, Bool.and_eq_true, decide_eq_true_eq, Bool.not_eq_true', decide_eq_false_iff_not, beq_eq_false_iff_ne] at hh
                  simp only [decide_eq_true_eq, beq_iff_eq] at h7
                  omega))
                go_enter Try.func10, Try.ntmps10
                go_wp2_with fail
                go_ret
                exact Ret.mk (congrArg Value.bool HF.out.symm) hB
              | false =>
                exact absurd hbad (by
                  rw [Bool.not_eq_false]
                  simp only [headR, Bool.and_eq_true, decide_eq_true_eq, Bool.not_eq_true', decide_eq_false_iff_not, beq_eq_false_iff_ne]
                  simp only [decide_eq_false_iff_not, beq_eq_false_iff_ne] at h1 h2 h3 h4 h5 h6 h7
                  omega)

end Go.Proofs.Ytfjbmgfkfeehnaa
