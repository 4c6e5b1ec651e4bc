/- A number is read. -/
import Derived.Test.YtfjbmgfkfeehnaaEncR
namespace Go.Proofs.Ytfjbmgfkfeehnaa
open Go.RowKit

/-- What is handed back behind a reading. -/
def fin (r : Option (Int × List Int)) : Int × Rd := match r with | none => (0, none) | some (n, r) => (n, some r)
theorem getNum_some (most : Int) (l : List Int) : getNum most (some l) = fin (rnum most 0 0 l) := by
  unfold getNum fin
  simp only []
  cases rnum most 0 0 l <;> rfl

def NumPost (w : World) (H g : Nat) (x : Int × Rd) (e : Ending) (w' : World) : Prop := e = .returned (.int .i64 x.1) ∧ w.grownBy w' (some g) ∧ RdAt w' H g x.2

theorem rnum_long (most : Int) (i acc : Nat) (b : Int) (r : List Int) (h : 128 ≤ b) (hi : i < 8) : rnum most i acc (b :: r) = rnum most (i + 1) (acc + (b % 128).toNat * 128 ^ i) r := by
  rw [rnum.eq_def]; simp only []; rw [if_neg (by omega), if_pos hi]
theorem rnum_last (most : Int) (acc : Nat) (b : Int) (r : List Int) (h : 128 ≤ b) : rnum most 8 acc (b :: r) = none := by
  rw [rnum.eq_def]; simp only []; rw [if_neg (by omega), if_neg (by omega)]
theorem rnum_bad (most : Int) (i acc : Nat) (b : Int) (r : List Int) (h : b < 128) (hb : b = 0 ∧ 0 < i ∨ 4611686018427387904 < acc + (b % 128).toNat * 128 ^ i ∨ most < (acc + (b % 128).toNat * 128 ^ i : Nat)) :
    rnum most i acc (b :: r) = none := by
  rw [rnum.eq_def]; simp only []; rw [if_pos h, if_pos hb]
theorem rnum_end (most : Int) (i acc : Nat) (b : Int) (r : List Int) (h : b < 128) (hb : ¬ (b = 0 ∧ 0 < i ∨ 4611686018427387904 < acc + (b % 128).toNat * 128 ^ i ∨ most < (acc + (b % 128).toNat * 128 ^ i : Nat))) :
    rnum most i acc (b :: r) = some (((acc + (b % 128).toNat * 128 ^ i : Nat) : Int), r) := by
  rw [rnum.eq_def]; simp only []; rw [if_pos h, if_neg hb]

set_option maxRecDepth 100000 in
theorem rdnum_some (H g : Nat) (l : List Int) (most : Int) (w : World) (h : RdAt w H g (some l)) (hl : IsBytes l) :
    Calls Try.prog 37 #[.pointer (some ⟨g, 0, none⟩), .int .i64 most] w (NumPost w H g (getNum most (some l))) := by
  go_enter Try.func37, Try.ntmps37
  go_wp2_with fail
  go_loopw [5, 6] (fun u sh wr => ∃ (i acc : Nat) (r : List Int), u = .int .u64 (acc : Int) ∧ sh = .int .i64 (7 * (i : Int)) ∧ acc < 128 ^ i ∧ IsBytes r ∧ RdAt wr H g (some r) ∧ w.grownBy wr (some g) ∧
    (i ≤ 8 ∧ rnum most 0 0 l = rnum most i acc r ∨ i = 9 ∧ rnum most 0 0 l = none)) (fun _ sh _ => (63 - intOf sh).toNat)
  case atStart => exact ⟨0, 0, l, rfl, rfl, by decide, hl, h, grown_refl _ _, .inl ⟨by omega, rfl⟩⟩
  case round =>
    obtain ⟨i, acc, r, rfl, rfl, ha, hb, hr, hg, hi⟩ := hrel
    rcases hi with ⟨hi, he⟩ | ⟨rfl, he⟩
    · have HE := Lib.hid he; clear he h hl
      cases r with
      | nil =>
        clear ha
        go_wp2_with (go_at_call 59; refine (take_no _ _ _ 1 _ hr (by intro l hl; cases hl; simp)).mono ?_; rintro e w1 ⟨rfl, hgr, hrd⟩)
        go_ret
        rw [getNum_some, HE.out, rnum_nil]
        exact ⟨rfl, grown_trans hg hgr, hrd⟩
      | cons b r =>
        obtain ⟨hb0, hb1⟩ := hb b (List.mem_cons_self ..)
        have hbr : IsBytes r := fun x hx => hb x (List.mem_cons_of_mem _ hx)
        have hand := and_127 b hb0 hb1
        have hor := or_shl acc i (b % 128) hi ha (by omega) (by omega)
        have hpi : (128 : Nat) ^ i ≤ 72057594037927936 := Nat.le_trans (Nat.pow_le_pow_right (by omega) hi) (by decide)
        have hprod : (b % 128).toNat * 128 ^ i ≤ 127 * 128 ^ i := Nat.mul_le_mul_right _ (by omega)
        obtain ⟨N, hN⟩ : ∃ N, N = acc + (b % 128).toNat * 128 ^ i := ⟨_, rfl⟩
        have hN1 : N < 128 ^ (i + 1) := by rw [hN, Nat.pow_succ]; omega
        have hNb : (N : Int) ≤ 9223372036854775807 := by omega
        rw [← hN] at hor
        have HN := Lib.hid hN; have HN1 := Lib.hid hN1; clear hN hN1 hprod hpi ha hb
        by_cases hlong : b < 128
        · by_cases h1 : (4611686018427387904 : Int) < N
          · skip
            go_wp2_with (first | (go_at_call 59; refine (take_one _ _ _ _ _ hr).mono ?_; rintro e w1 ⟨q, o, rfl, hgr, hrd, hcell⟩) | (go_at_call 60; refine (fail_any _ _ _ _ (by assumption)).mono ?_; rintro e w2 ⟨rfl, hgr2, hrd2⟩))
            go_ret
            rw [getNum_some, HE.out, rnum_bad _ _ _ _ _ hlong (by have := HN.out; omega)]
            exact ⟨rfl, grown_trans hg (grown_trans hgr hgr2), hrd2⟩
          · by_cases h2 : most < (N : Int)
            · skip
              go_wp2_with (first | (go_at_call 59; refine (take_one _ _ _ _ _ hr).mono ?_; rintro e w1 ⟨q, o, rfl, hgr, hrd, hcell⟩) | (go_at_call 60; refine (fail_any _ _ _ _ (by assumption)).mono ?_; rintro e w2 ⟨rfl, hgr2, hrd2⟩))
              go_ret
              rw [getNum_some, HE.out, rnum_bad _ _ _ _ _ hlong (by have := HN.out; omega)]
              exact ⟨rfl, grown_trans hg (grown_trans hgr hgr2), hrd2⟩
            · by_cases h3 : b = 0
              · by_cases h4 : i = 0
                · have hor0 : bits .or .u64 (acc : Int) (b % 128) = N := by
                    have e := hor
                    rw [h4, show b % 128 * 2 ^ (7 * 0) = b % 128 from by omega, IntWalk.u64_in _ ⟨by omega, by omega⟩] at e
                    exact e
                  have hi0 : 7 * (i : Int) ≤ 0 := by omega
                  have H4 := Lib.hid h4; clear h4
                  have hz : (b == 0) = true := by simp [h3]
                  clear h3
                  go_wp2_with (first | (go_at_call 59; refine (take_one _ _ _ _ _ hr).mono ?_; rintro e w1 ⟨q, o, rfl, hgr, hrd, hcell⟩) | (go_at_call 60; refine (fail_any _ _ _ _ (by assumption)).mono ?_; rintro e w2 ⟨rfl, hgr2, hrd2⟩))
                  go_ret
                  have hq := rnum_end most i acc b r hlong (by have := HN.out; have := WalkArith.int_eq hz; have := H4.out; omega)
                  rw [← HN.out] at hq
                  rw [getNum_some, HE.out, hq]
                  exact ⟨rfl, grown_trans hg hgr, hrd⟩
                · have hz : (b == 0) = true := by simp [h3]
                  have hi0 : (0 : Int) < 7 * (i : Int) := by omega
                  clear h3
                  go_wp2_with (first | (go_at_call 59; refine (take_one _ _ _ _ _ hr).mono ?_; rintro e w1 ⟨q, o, rfl, hgr, hrd, hcell⟩) | (go_at_call 60; refine (fail_any _ _ _ _ (by assumption)).mono ?_; rintro e w2 ⟨rfl, hgr2, hrd2⟩))
                  go_ret
                  rw [getNum_some, HE.out, rnum_bad _ _ _ _ _ hlong (by have := HN.out; have := WalkArith.int_eq hz; omega)]
                  exact ⟨rfl, grown_trans hg (grown_trans hgr hgr2), hrd2⟩
              · have hz : (b == 0) = false := by simpa using h3
                clear h3
                go_wp2_with (first | (go_at_call 59; refine (take_one _ _ _ _ _ hr).mono ?_; rintro e w1 ⟨q, o, rfl, hgr, hrd, hcell⟩) | (go_at_call 60; refine (fail_any _ _ _ _ (by assumption)).mono ?_; rintro e w2 ⟨rfl, hgr2, hrd2⟩))
                go_ret
                have hq := rnum_end most i acc b r hlong (by have := HN.out; have := WalkArith.int_ne hz; omega)
                rw [← HN.out] at hq
                rw [getNum_some, HE.out, hq]
                exact ⟨rfl, grown_trans hg hgr, hrd⟩
        · go_wp2_with (go_at_call 59; refine (take_one _ _ _ _ _ hr).mono ?_; rintro e w1 ⟨q, o, rfl, hgr, hrd, hcell⟩)
          go_roundw
          case rel =>
            refine ⟨i + 1, N, r, rfl, by go_num, HN1.out, hbr, hrd, grown_trans hg hgr, ?_⟩
            by_cases h8 : i = 8
            · right
              refine ⟨by omega, ?_⟩
              rw [HE.out, h8, rnum_last _ _ _ _ (by omega)]
            · left
              refine ⟨by omega, ?_⟩
              rw [HE.out, rnum_long _ _ _ _ _ (by omega) (by omega), ← HN.out]
          case measure => simp [intOf]; omega
    · have HE := Lib.hid he; clear he ha hb h hl
      go_wp2_with (go_at_call 60; refine (fail_any _ _ _ _ (by assumption)).mono ?_; rintro e w2 ⟨rfl, hgr2, hrd2⟩)
      go_ret
      rw [getNum_some, HE.out]
      exact ⟨rfl, grown_trans hg hgr2, hrd2⟩

set_option maxRecDepth 100000 in
theorem rdnum_none (H g : Nat) (most : Int) (w : World) (h : RdAt w H g none) :
    Calls Try.prog 37 #[.pointer (some ⟨g, 0, none⟩), .int .i64 most] w (NumPost w H g (getNum most none)) := by
  go_enter Try.func37, Try.ntmps37
  go_wp2_with fail
  refine wp_loop_rounds 1 ?_
  rw [rounds_succ]
  go_wp2_with (go_at_call 59; refine (take_no _ _ _ 1 _ h (by intro l hl; cases hl)).mono ?_; rintro e w1 ⟨rfl, hgr, hrd⟩)
  go_ret
  exact ⟨rfl, hgr, hrd⟩

def RdBytes (s : Rd) : Prop := ∀ l, s = some l → IsBytes l
theorem RdBytes.getNum {s : Rd} (h : RdBytes s) (most : Int) : RdBytes (getNum most s).2 := by
  cases s with
  | none => exact h
  | some l =>
    rw [getNum_some]
    suffices H : ∀ (l : List Int) (i acc : Nat), IsBytes l → ∀ n r, rnum most i acc l = some (n, r) → IsBytes r by
      intro m hm
      cases hr : rnum most 0 0 l with
      | none => rw [hr] at hm; cases hm
      | some x => rw [hr] at hm; cases hm; exact H l 0 0 (h l rfl) x.1 x.2 hr
    intro l
    induction l with
    | nil => intro i acc _ n r hr; rw [rnum_nil] at hr; cases hr
    | cons b t ih =>
      intro i acc hb n r hr
      have ht : IsBytes t := fun x hx => hb x (List.mem_cons_of_mem _ hx)
      rw [rnum.eq_def] at hr
      simp only [] at hr
      split at hr
      · split at hr
        · cases hr
        · cases hr; exact ht
      · split at hr
        · exact ih _ _ ht _ _ hr
        · cases hr

theorem rdnum_any (H g : Nat) (s : Rd) (most : Int) (w : World) (h : RdAt w H g s) (hs : RdBytes s) :
    Calls Try.prog 37 #[.pointer (some ⟨g, 0, none⟩), .int .i64 most] w (NumPost w H g (getNum most s)) := by
  cases s with
  | none => exact rdnum_none H g most w h
  | some l => exact rdnum_some H g l most w h (hs l rfl)

end Go.Proofs.Ytfjbmgfkfeehnaa
