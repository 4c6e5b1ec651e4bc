/- Right letters: the document's function: the walk. -/
import Derived.Test.YtfjbmgfkfeehnaaDocRa
import Derived.Deep.DeepCutAuto
namespace Go.Proofs.Ytfjbmgfkfeehnaa
open Go.RowKit

set_option linter.unusedSimpArgs false in
set_option maxRecDepth 100000 in
set_option maxHeartbeats 8000000 in
theorem dright_k4 (l : LetL) (s : LS) (w : World) (h : LetA w l s) (hgood : headR l = true) (hk : l.kind = 4) :
    Calls Try.prog 10 #[.agg (letC l s)] w (Ret w (.bool (rightB l))) := by
  obtain ⟨hsz, x0, x1, x2, x3, x4, x5, x6, x7, x8, x41, xp, xa⟩ := letC_x l s h.pack
  have hx := blk0 w (letC l s) 37
  have hB := (Below.refl w.heap.size w).alloc (Nat.le_refl _) (.cells (letC l s) 37)
  have hcx := (blk_cell hx).1
  have hp := h.pack
  have hsx := seg_of hx 9 32 (by omega) xp
  have HA := Lib.hid h
  have HS := Lib.hid hsz
  clear h xa xp hsz
  revert x0 x1 x2 x3 x4 x5 x6 x7 x8 x41
  generalize letC l s = X at *
  intro x0 x1 x2 x3 x4 x5 x6 x7 x8 x41
  have hrl := Lib.hid HA.out.refs.len
  have hdl := Lib.hid HA.out.data.length
  have hwl := Lib.hid HA.out.wants.len
  have hhl := Lib.hid HA.out.haves.len
  have HK := Lib.hid (k4_eq hgood hk)
  have e1 : (l.kind == 1) = false := by simp [hk]
  have e2 : (l.kind == 2) = false := by simp [hk]
  have e3 : (l.kind == 3) = false := by simp [hk]
  have e4 : (l.kind == 4) = true := by simp [hk]
  have hdn : s.dn ≤ 9223372036854775807 := by have h1 := HA.out.data.cap; have h2 := HA.out.data.le; unfold maxLen at h1; omega
  have hz32 := zero32_len
  clear hk
  have h1 : decide (l.from_ < 1) = false := by
    have hh := hgood
    simp only [headR, Bool.and_eq_true, decide_eq_true_eq, Bool.not_eq_true', decide_eq_false_iff_not, beq_eq_false_iff_ne] at hh
    simp; omega
  have h2 : decide (65536 < l.from_) = false := by
    have hh := hgood
    simp only [headR, Bool.and_eq_true, decide_eq_true_eq, Bool.not_eq_true', decide_eq_false_iff_not, beq_eq_false_iff_ne] at hh
    simp; omega
  have h3 : decide (l.to_ < 1) = false := by
    have hh := hgood
    simp only [headR, Bool.and_eq_true, decide_eq_true_eq, Bool.not_eq_true', decide_eq_false_iff_not, beq_eq_false_iff_ne] at hh
    simp; omega
  have h4 : decide (65536 < l.to_) = false := by
    have hh := hgood
    simp only [headR, Bool.and_eq_true, decide_eq_true_eq, Bool.not_eq_true', decide_eq_false_iff_not, beq_eq_false_iff_ne] at hh
    simp; omega
  have h5 : (l.from_ == l.to_) = false := by
    have hh := hgood
    simp only [headR, Bool.and_eq_true, decide_eq_true_eq, Bool.not_eq_true', decide_eq_false_iff_not, beq_eq_false_iff_ne] at hh
    simp; omega
  have h6 : decide (l.session < 1) = false := by
    have hh := hgood
    simp only [headR, Bool.and_eq_true, decide_eq_true_eq, Bool.not_eq_true', decide_eq_false_iff_not, beq_eq_false_iff_ne] at hh
    simp; omega
  have h7 : decide (1099511627776 < l.session) = false := by
    have hh := hgood
    simp only [headR, Bool.and_eq_true, decide_eq_true_eq, Bool.not_eq_true', decide_eq_false_iff_not, beq_eq_false_iff_ne] at hh
    simp; omega
  clear hgood
  go_enter Try.func10, Try.ntmps10
  go_wp2_with fail
  all_goals
    go_ret
    refine Ret.mk (congrArg Value.bool ?_) (by assumption)
    rw [HK.out]
    rw [← refs_eq hrl.out, want_eq hwl.out hhl.out, hdl.out]
    (try simp only [Bool.not_eq_true', Bool.not_eq_false', beq_iff_eq, beq_eq_false_iff_ne, ne_eq, decide_eq_true_eq, decide_eq_false_iff_not] at *)
    rw [Bool.eq_iff_iff]
    simp [*]
    (try omega)

end Go.Proofs.Ytfjbmgfkfeehnaa
