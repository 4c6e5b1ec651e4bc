/- Right letters: the document's function. -/
import Derived.Test.YtfjbmgfkfeehnaaDocS
namespace Go.Proofs.Ytfjbmgfkfeehnaa
open Go.RowKit

/-! The program's answer, field by field. -/
def headR (l : LetL) : Bool := decide (1 ≤ l.from_ ∧ l.from_ ≤ 65536) && decide (1 ≤ l.to_ ∧ l.to_ ≤ 65536) && !(l.from_ == l.to_) && !decide (l.session < 1) && !decide (1099511627776 < l.session)
def refsR (l : LetL) : Bool := decide (l.refs = [])
def wantR (l : LetL) : Bool := decide (l.wants = [] ∧ l.haves = [])
def partR (l : LetL) : Bool := decide (l.total = 0 ∧ l.pack = zero32 ∧ l.data = [])
theorem rightB_head {l : LetL} (h : headR l = false) : rightB l = false := by
  have : headB l = (headR l && decide (l = bareL l)) := rfl
  rw [rightB, this, h]
  rfl
theorem rightB_bare {l : LetL} (h : headR l = true) : rightB l = (decide (l = bareL l) && kindB l) := by
  have : headB l = (headR l && decide (l = bareL l)) := rfl
  rw [rightB, this, h]
  rfl
theorem let_ext {a b : LetL} : a = b ↔ a.kind = b.kind ∧ a.from_ = b.from_ ∧ a.to_ = b.to_ ∧ a.session = b.session ∧ a.refs = b.refs ∧ a.wants = b.wants ∧ a.haves = b.haves ∧ a.off = b.off ∧ a.total = b.total ∧ a.pack = b.pack ∧ a.data = b.data := by
  cases a; cases b; simp
theorem k1_eq {l : LetL} (h : headR l = true) (hk : l.kind = 1) : rightB l = (refsR l && (wantR l && (partR l && decide (l.off = 0)))) := by
  rw [rightB_bare h, Bool.eq_iff_iff]
  have h2 : ¬ l.kind = 2 := by omega
  have h3 : ¬ l.kind = 3 := by omega
  have h4 : ¬ l.kind = 4 := by omega
  unfold bareL kindB refsR wantR partR
  rw [if_neg h2, if_neg h3, if_neg h4, if_pos hk]
  simp only [Bool.and_eq_true, decide_eq_true_eq, let_ext, bare0, true_and, and_true, and_assoc]
  constructor
  · rintro ⟨a, b, c, d, e, f, g⟩; exact ⟨a, b, c, e, f, g, d⟩
  · rintro ⟨a, b, c, e, f, g, d⟩; exact ⟨a, b, c, d, e, f, g⟩
theorem k2_eq {l : LetL} (h : headR l = true) (hk : l.kind = 2) : rightB l = (rfsB l.refs && (wantR l && (partR l && decide (l.off = 0)))) := by
  rw [rightB_bare h, Bool.eq_iff_iff]
  unfold bareL kindB wantR partR
  rw [if_pos hk, if_neg (by omega), if_pos hk]
  simp only [Bool.and_eq_true, decide_eq_true_eq, let_ext, bare0, true_and, and_assoc]
  constructor
  · rintro ⟨b, c, d, e, f, g, r⟩; exact ⟨r, b, c, e, f, g, d⟩
  · rintro ⟨r, b, c, e, f, g, d⟩; exact ⟨b, c, d, e, f, g, r⟩
theorem k3_eq {l : LetL} (h : headR l = true) (hk : l.kind = 3) : rightB l = (refsR l && (partR l && (decide (0 < l.wants.length) && (decide (l.wants.length ≤ 100) && (decide (l.haves.length ≤ 200) && (risesB zero32 l.wants && (risesB zero32 l.haves && (decide (0 ≤ l.off) && decide (l.off ≤ 1048576))))))))) := by
  rw [rightB_bare h, Bool.eq_iff_iff]
  unfold bareL kindB refsR partR
  rw [if_neg (by omega), if_pos hk, if_neg (by omega), if_neg (by omega), if_pos hk]
  simp only [Bool.and_eq_true, decide_eq_true_eq, let_ext, bare0, true_and, and_assoc]
  constructor
  · rintro ⟨a, e, f, g, w1, w2, hv, r1, r2, o1, o2⟩; exact ⟨a, e, f, g, w1, w2, hv, r1, r2, o1, o2⟩
  · rintro ⟨a, e, f, g, w1, w2, hv, r1, r2, o1, o2⟩; exact ⟨a, e, f, g, w1, w2, hv, r1, r2, o1, o2⟩
theorem k4_eq {l : LetL} (h : headR l = true) (hk : l.kind = 4) : rightB l = (refsR l && (wantR l && (!decide (l.pack = zero32) && (decide (0 ≤ l.off) && (decide (l.total ≤ 1048576) && (decide (l.data.length ≤ 500) && (decide (l.off ≤ 1048576) && (decide (l.off + l.data.length ≤ l.total) && (decide (0 < l.data.length) || decide (l.off = l.total)))))))))) := by
  rw [rightB_bare h, Bool.eq_iff_iff]
  unfold bareL kindB refsR wantR
  rw [if_neg (by omega), if_neg (by omega), if_pos hk, if_neg (by omega), if_neg (by omega), if_neg (by omega), if_pos hk]
  simp only [Bool.and_eq_true, Bool.or_eq_true, Bool.not_eq_true', decide_eq_false_iff_not, decide_eq_true_eq, let_ext, bare0, true_and, and_true, and_assoc]
  constructor
  · rintro ⟨a, b, c, p, o1, o2, t1, t2, d, e, f⟩; exact ⟨a, b, c, p, o1, t2, d, o2, by omega, f⟩
  · rintro ⟨a, b, c, p, o1, t2, d, o2, e, f⟩; exact ⟨a, b, c, p, o1, o2, by omega, t2, d, by omega, f⟩
theorem k0_eq {l : LetL} (h : headR l = true) (h1 : ¬ l.kind = 1) (h2 : ¬ l.kind = 2) (h3 : ¬ l.kind = 3) (h4 : ¬ l.kind = 4) : rightB l = false := by
  rw [rightB_bare h, kindB, if_neg h1, if_neg h2, if_neg h3, if_neg h4, Bool.and_false]

end Go.Proofs.Ytfjbmgfkfeehnaa
