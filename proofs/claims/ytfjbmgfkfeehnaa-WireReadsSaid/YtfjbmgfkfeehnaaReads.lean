/- All bytes are a letter, or none, as the document says: the walk. -/
import Derived.Test.YtfjbmgfkfeehnaaDocY
import Derived.Test.YtfjbmgfkfeehnaaWrites
namespace Go.Proofs.Ytfjbmgfkfeehnaa
open Go.RowKit

theorem right_lens {l : LetL} (h : rightB l = true) : l.refs.length ≤ 100 ∧ l.wants.length ≤ 100 ∧ l.haves.length ≤ 200 := by
  have hb := (right_head h).2.2.2
  rcases right_vals h with hk | hk | hk | hk
  · have h2 : ¬ l.kind = 2 := by omega
    have h3 : ¬ l.kind = 3 := by omega
    have h4 : ¬ l.kind = 4 := by omega
    unfold bareL at hb
    rw [if_neg h2, if_neg h3, if_neg h4] at hb
    rw [hb]
    simp [bare0]
  · have hr := rfs_len (right_k2 h hk)
    unfold bareL at hb
    rw [if_pos hk] at hb
    have e1 := congrArg LetL.wants hb
    have e2 := congrArg LetL.haves hb
    simp only [bare0] at e1 e2
    rw [e1, e2]
    exact ⟨hr, by simp, by simp⟩
  · have h3 := right_k3 h hk
    unfold bareL at hb
    rw [if_neg (by omega), if_pos hk] at hb
    have e1 := congrArg LetL.refs hb
    simp only [bare0] at e1
    rw [e1]
    exact ⟨by simp, h3.1.2, h3.2.1⟩
  · have h2 : ¬ l.kind = 2 := by omega
    have h3 : ¬ l.kind = 3 := by omega
    unfold bareL at hb
    rw [if_neg h2, if_neg h3, if_pos hk] at hb
    have e0 := congrArg LetL.refs hb
    have e1 := congrArg LetL.wants hb
    have e2 := congrArg LetL.haves hb
    simp only [bare0] at e0 e1 e2
    rw [e0, e1, e2]
    simp

set_option maxRecDepth 100000 in
set_option maxHeartbeats 8000000 in
theorem reads_any (a : Option Addr) (n c : Nat) (l : List Int) (w : World) (h : Bs w a n c l) (hby : IsBytes l) :
    Calls Try.prog 4 #[.slice a n c] w (Ret w (.bool true)) := by
  have hn := h.length
  have HH := Lib.hid h
  clear h
  by_cases hlong : 70000 < n
  · have hd : decide ((70000 : Int) < (n : Int)) = true := decide_eq_true (by omega)
    clear hn
    go_enter Try.func4, Try.ntmps4
    go_wp2_with (go_at_call 8; refine (alive_any _).mono ?_; rintro e w1 ⟨rfl, hb1⟩)
    go_ret
    exact Ret.mk rfl hb1
  · have hd : decide ((70000 : Int) < (n : Int)) = false := decide_eq_false (by omega)
    clear hn
    go_enter Try.func4, Try.ntmps4
    go_upto_region 5 with (go_at_call 8; refine (alive_any _).mono ?_; rintro e w1 ⟨rfl, hb1⟩)
    have hread := Lib.hid (wireread_any _ _ _ _ w1 (HH.out.below hb1) hby)
    go_wp2_with fail
    refine hread.out.mono ?_
    rintro e w2 he
    unfold RdPost at he
    cases hr : readL l with
    | none =>
      rw [hr] at he
      obtain ⟨rfl, hb2⟩ := he
      dsimp only
      have hB := Below.next hb1 hb2
      have Hr := Lib.hid hr
      clear hread hb1 hb2 hr
      (repeat ((fail_if_success (with_reducible show wpList _ _ _ (Oper.mk _ (Op.store _ _ _) _ _ _ _ :: _) _ _)); first | go_values | go_skip | go_guarded | go_step | go_upon))
      have hz := blk0 w2 (letC zeroL LS.none) 28
      refine wpList_store_seg (w := w2.alloc (.cells (letC zeroL LS.none) 28)) rfl 28 _ _ rfl rfl w2.heap.size 0 rfl (letC zeroL LS.none) rfl 28 (letC zeroL LS.none) hz (by simp) (info_let' _ _ rfl) (letC_one _ _) (letC zeroL LS.none) (put_whole _ _ rfl) ?_
      intro w3 hq3 hg3 hs3
      clear hs3
      have hb3 : Below w2.heap.size w2 w3 := (grow1' w2 (letC zeroL LS.none) 28).grown hg3 (by simp) (fun k hk => by cases hk; omega)
      have hB := Below.next hB hb3
      have hsl := seg_let hq3 rfl
      have hdr := Lib.hid (dread_any _ _ _ _ w3 (HH.out.below hB) hby)
      clear hz hg3 hq3 hb3
      generalize w2.heap.size = q at *
      go_wp2_with fail
      refine hdr.out.mono ?_
      rintro e w4 he
      unfold DRd at he
      rw [Hr.out] at he
      obtain ⟨rfl, hb4⟩ := he
      dsimp only
      have hB := Below.next hB hb4
      have hsl := seg_below hsl hb4
      clear hdr hb4
      (repeat ((fail_if_success (with_reducible show wpList _ _ _ (Oper.mk _ (Op.store _ _ _) _ _ _ _ :: _) _ _)); first | go_values | go_skip | go_guarded | go_step | go_upon))
      have hz := blk0 w4 (letC zeroL LS.none) 37
      refine wpList_store_seg (w := w4.alloc (.cells (letC zeroL LS.none) 37)) rfl 37 _ _ rfl rfl w4.heap.size 0 rfl (letC zeroL LS.none) rfl 37 (letC zeroL LS.none) hz (by simp) (by rw [letC_size _ _ rfl]; exact info_dlet) (letC_one _ _) (letC zeroL LS.none) (put_whole _ _ rfl) ?_
      intro w5 hq5 hg5 hs5
      clear hs5
      have hb5 : Below w4.heap.size w4 w5 := (grow1' w4 (letC zeroL LS.none) 37).grown hg5 (by simp) (fun k hk => by cases hk; omega)
      have hB := Below.next hB hb5
      have hsl := seg_below hsl hb5
      have hS := (show decide (zeroL = zeroL) = true from by simp) ▸ same_any zeroL zeroL LS.none LS.none w5 (zeroL_a _) (zeroL_a _)
      have HS := Lib.hid hS
      clear hz hg5 hq5 hb5 hS
      generalize w4.heap.size = q5 at *
      go_wp2_with fail
      refine Calls.mono (show Calls _ _ _ _ _ from HS.out) ?_
      rintro e w6 ⟨rfl, hb6⟩
      dsimp only
      go_wp2_with fail
      go_ret
      exact Ret.mk rfl (Below.next hB hb6)
    | some x =>
      rw [hr] at he
      obtain ⟨s, rfl, hb2, hA⟩ := he
      dsimp only
      have hB := Below.next hb1 hb2
      have Hr := Lib.hid hr
      have hrt := (read_canon hby hr).2
      have hlens := right_lens hrt
      have hpk := hA.pack
      clear hread hb1 hb2 hr hrt
      (repeat ((fail_if_success (with_reducible show wpList _ _ _ (Oper.mk _ (Op.store _ _ _) _ _ _ _ :: _) _ _)); first | go_values | go_skip | go_guarded | go_step | go_upon))
      have hz := blk0 w2 (letC zeroL LS.none) 28
      refine wpList_store_seg (w := w2.alloc (.cells (letC zeroL LS.none) 28)) rfl 28 _ _ rfl rfl w2.heap.size 0 rfl (letC x s) rfl 28 (letC zeroL LS.none) hz (by rw [letC_size _ _ hpk, letC_size _ _ rfl]; decide) (info_let' _ _ hpk) (letC_one _ _) (letC x s) (put_whole _ _ (by rw [letC_size _ _ hpk, letC_size _ _ rfl])) ?_
      intro w3 hq3 hg3 hs3
      clear hs3
      have hb3 : Below w2.heap.size w2 w3 := (grow1' w2 (letC zeroL LS.none) 28).grown hg3 (by simp) (fun k hk => by cases hk; omega)
      have hB := Below.next hB hb3
      have hA := hA.below hb3
      have hsl := seg_let hq3 hpk
      have hdr := Lib.hid (dread_any _ _ _ _ w3 (HH.out.below hB) hby)
      clear hz hg3 hq3 hb3
      generalize w2.heap.size = q at *
      go_wp2_with fail
      refine hdr.out.mono ?_
      rintro e w4 he
      unfold DRd at he
      rw [Hr.out] at he
      obtain ⟨s4, rfl, hb4, hA4⟩ := he
      dsimp only
      have hB := Below.next hB hb4
      have hsl := seg_below hsl hb4
      have hA := hA.below hb4
      clear hdr hb4
      (repeat ((fail_if_success (with_reducible show wpList _ _ _ (Oper.mk _ (Op.store _ _ _) _ _ _ _ :: _) _ _)); first | go_values | go_skip | go_guarded | go_step | go_upon))
      have hz := blk0 w4 (letC zeroL LS.none) 37
      refine wpList_store_seg (w := w4.alloc (.cells (letC zeroL LS.none) 37)) rfl 37 _ _ rfl rfl w4.heap.size 0 rfl (letC x s4) rfl 37 (letC zeroL LS.none) hz (by rw [letC_size _ _ hpk, letC_size _ _ rfl]; decide) (by rw [letC_size _ _ hpk]; exact info_dlet) (letC_one _ _) (letC x s4) (put_whole _ _ (by rw [letC_size _ _ hpk, letC_size _ _ rfl])) ?_
      intro w5 hq5 hg5 hs5
      clear hs5
      have hb5 : Below w4.heap.size w4 w5 := (grow1' w4 (letC zeroL LS.none) 37).grown hg5 (by simp) (fun k hk => by cases hk; omega)
      have hB := Below.next hB hb5
      have hsl := seg_below hsl hb5
      have hsd := seg_let hq5 hpk
      have hA := hA.below hb5
      have hA5 := hA4.below hb5
      have HAs := Lib.hid (fun (W : World) (hb : Below w5.heap.size w5 W) => show Calls Try.prog 11 #[.agg (letC x s)] W (AsPost W x) from as_any x s W (hA.below hb) (by have := hA.refs.len; omega) (by have := hA.wants.len; omega) (by have := hA.haves.len; omega))
      have HDs := Lib.hid (fun (W : World) (hb : Below w5.heap.size w5 W) (s9 : LS) (h9 : LetA W x s9) => (show decide (x = x) = true from by simp) ▸ dsame_any x x s9 s4 W h9 (hA5.below hb))
      clear hz hg5 hq5 hb5 hA hA4 hA5 hlens hpk
      generalize w4.heap.size = q5 at *
      generalize letC x s = X at *
      generalize letC x s4 = Y at *
      go_upto_region 9 with fail
      have hBd := (Below.refl w5.heap.size w5).drew
      have hxy : (isSeg _ _ 0 _ = true ∧ segAt _ _ 0 _ = _) ∧ (isSeg _ _ 0 _ = true ∧ segAt _ _ 0 _ = _) := ⟨hsl, hsd⟩
      go_region_held3 (fun w' => (isSeg w' q 0 42 = true ∧ segAt w' q 0 42 = X) ∧ (isSeg w' q5 0 42 = true ∧ segAt w' q5 0 42 = Y)) (first | assumption | exact two_segs (by assumption) (by assumption))
        (first
          | (go_at_call 11; (with_reducible refine (HAs.out _ hBd).mono ?_); rintro e w6 ⟨s6, rfl, hb6, hA6⟩; have hBd := Below.next hBd hb6)
          | (go_at_call 14; (with_reducible refine (HDs.out _ hBd _ hA6).mono ?_); rintro e w7 ⟨rfl, hb7⟩; have hBd := Below.next hBd hb7))
      all_goals
        go_wp2_with fail
        go_ret
        exact Ret.mk rfl (Below.next hB hBd)

end Go.Proofs.Ytfjbmgfkfeehnaa
