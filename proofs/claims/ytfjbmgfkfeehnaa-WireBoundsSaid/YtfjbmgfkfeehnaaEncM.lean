/- Texts and IDs are read; what else is asked of a reader. -/
import Derived.Test.YtfjbmgfkfeehnaaEncN
namespace Go.Proofs.Ytfjbmgfkfeehnaa
open Go.RowKit

theorem rnum_nonneg (most : Int) (l : List Int) : ∀ (i acc : Nat) (n : Int) (r : List Int), rnum most i acc l = some (n, r) → 0 ≤ n ∧ n ≤ most := by
  induction l with
  | nil => intro i acc n r h; rw [rnum_nil] at h; cases h
  | cons b t ih =>
    intro i acc n r h
    rw [rnum.eq_def] at h
    simp only [] at h
    split at h
    · split at h
      · cases h
      · cases h; omega
    · split at h
      · exact ih _ _ _ _ h
      · cases h
theorem getNum_nonneg (most : Int) (s : Rd) : 0 ≤ (getNum most s).1 := by
  cases s with
  | none => exact Int.le_refl _
  | some l =>
    rw [getNum_some]
    cases h : rnum most 0 0 l with
    | none => exact Int.le_refl _
    | some x => exact (rnum_nonneg most l 0 0 x.1 x.2 h).1

def TextPost (w : World) (H g : Nat) (x : List Int × Rd) (e : Ending) (w' : World) : Prop := e = .returned (.string (toS x.1)) ∧ w.grownBy w' (some g) ∧ RdAt w' H g x.2

set_option maxRecDepth 100000 in
theorem rdtext_any (H g : Nat) (s : Rd) (most : Int) (w : World) (h : RdAt w H g s) (hs : RdBytes s) :
    Calls Try.prog 38 #[.pointer (some ⟨g, 0, none⟩), .int .i64 most] w (TextPost w H g (getText most s)) := by
  have hnn := getNum_nonneg most s
  obtain ⟨x, hx⟩ : ∃ x, getNum most s = x := ⟨_, rfl⟩
  have hc0 := rdnum_any H g s most w h hs
  have hT : getText most s = textOf x := by unfold getText; rw [hx]
  have HT := Lib.hid hT
  rw [hx] at hnn hc0
  clear hT hx
  obtain ⟨n, st⟩ := x
  obtain ⟨k, rfl⟩ := Int.eq_ofNat_of_zero_le hnn
  clear hnn
  go_enter Try.func38, Try.ntmps38
  go_wp2_with fail
  refine hc0.mono ?_
  rintro e w1 ⟨rfl, hgr, hrd⟩
  by_cases hok : ∃ l, st = some l ∧ k ≤ l.length
  · obtain ⟨l, rfl, hkl⟩ := hok
    go_wp2_with (go_at_call 59; refine (take_yes H g l k _ hrd hkl).mono ?_; rintro e w2 ⟨a2, rfl, hgr2, hrd2, hbs2⟩; have hcv := conv_bs hbs2)
    go_ret
    rw [HT.out]
    simp only [textOf, Int.toNat_natCast, if_pos hkl]
    exact ⟨rfl, grown_trans hgr hgr2, hrd2⟩
  · have hno : ∀ l, st = some l → (l.length : Int) < (k : Int) := fun l hl => by
      have : ¬ k ≤ l.length := fun h => hok ⟨l, hl, h⟩
      omega
    have hcv : ∀ w, (convert 26 9 (.slice none 0 0)).run Try.prog w = .ok (.string (toS [])) w := fun w => conv_bs (Sl.empty w 1)
    have HN := Lib.hid hno; have HK := Lib.hid hok; clear hno hok
    go_wp2_with (go_at_call 59; refine (take_no H g st (k : Int) _ hrd HN.out).mono ?_; rintro e w2 ⟨rfl, hgr2, hrd2⟩)
    go_ret
    rw [HT.out]
    cases st with
    | none => exact ⟨rfl, grown_trans hgr hgr2, hrd2⟩
    | some l =>
      have : ¬ k ≤ l.length := fun h => HK.out ⟨l, rfl, h⟩
      simp only [textOf, Int.toNat_natCast, if_neg this]
      exact ⟨rfl, grown_trans hgr hgr2, hrd2⟩

def doneB (s : Rd) : Bool := match s with | some [] => true | _ => false
theorem rddone_any (H g : Nat) (s : Rd) (w : World) (h : RdAt w H g s) :
    Calls Try.prog 41 #[.pointer (some ⟨g, 0, none⟩)] w fun e w' => e = .returned (.bool (doneB s)) ∧ w = w' := by
  cases s with
  | none =>
    obtain ⟨hc, hf, hg⟩ := blk_cell (show w.heap[g]? = some (.cells #[.slice none 0 0, .bool true] 104 (0, 0)) from h)
    have c0 := hc 0; have c1 := hc 1
    simp at c0 c1
    go_enter Try.func41, Try.ntmps41
    go_wp2
    go_ret
    exact ⟨rfl, rfl⟩
  | some l =>
    obtain ⟨a, n, c, hb, hs, _⟩ := h
    obtain ⟨hc, hf, hg⟩ := blk_cell hb
    have c0 := hc 0; have c1 := hc 1
    simp at c0 c1
    have hl := Bs.length hs
    cases l with
    | nil =>
      obtain rfl : 0 = n := hl
      go_enter Try.func41, Try.ntmps41
      go_wp2
      go_ret
      exact ⟨rfl, rfl⟩
    | cons x t =>
      have h0 : ((n : Int) == 0) = false := by simp at hl; simp; omega
      clear hl
      go_enter Try.func41, Try.ntmps41
      go_wp2
      go_ret
      exact ⟨rfl, rfl⟩


end Go.Proofs.Ytfjbmgfkfeehnaa
