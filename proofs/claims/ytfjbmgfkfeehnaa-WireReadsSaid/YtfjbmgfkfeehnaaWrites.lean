/- Every letter is right, or not, and has the bytes, as the document says: the walk. -/
import Derived.Test.YtfjbmgfkfeehnaaDocA
import Derived.Test.YtfjbmgfkfeehnaaBoundsW
namespace Go.Proofs.Ytfjbmgfkfeehnaa
open Go.RowKit

def AsPost (w : World) (l : LetL) (e : Ending) (w' : World) : Prop := ∃ s', e = .returned (.agg (letC l s')) ∧ Below w.heap.size w w' ∧ LetA w' l s'
theorem two_segs {W W' : World} {g g' n n' : Nat} {X Y : Array Value} (h : (isSeg W g 0 n = true ∧ segAt W g 0 n = X) ∧ (isSeg W g' 0 n' = true ∧ segAt W g' 0 n' = Y)) (hb : Below W.heap.size W W') : (isSeg W' g 0 n = true ∧ segAt W' g 0 n = X) ∧ (isSeg W' g' 0 n' = true ∧ segAt W' g' 0 n' = Y) :=
  ⟨seg_below h.1 hb, seg_below h.2 hb⟩

set_option maxRecDepth 100000 in
set_option maxHeartbeats 8000000 in
theorem writes_any (l l' : LetL) (s s' : LS) (w : World) (h : LetA w l s) (h' : LetA w l' s') (hs1 : s.rn * 48 ≤ 140737488355328 ∧ s.wn * 32 ≤ 140737488355328 ∧ s.hn * 32 ≤ 140737488355328) (hs2 : s'.rn * 48 ≤ 140737488355328 ∧ s'.wn * 32 ≤ 140737488355328 ∧ s'.hn * 32 ≤ 140737488355328) :
    Calls Try.prog 3 #[.agg (letC l s), .agg (letC l' s')] w (Ret w (.bool true)) := by
  have hX1 := letC_one l s
  have hsz := letC_size l s h.pack
  have hB : Below w.heap.size w ((w.alloc (.cells (letC l s) 28)).alloc (.cells (letC l' s') 28)) := ((Below.refl _ _).alloc (Nat.le_refl _) _).alloc (by simp) _
  have hx : ((w.alloc (.cells (letC l s) 28)).alloc (.cells (letC l' s') 28)).heap[w.heap.size]? = some (.cells (letC l s) 28 (0, 0)) := (Below.heap_alloc _ _ _ (by simp)).trans (blk0 w _ _)
  have hy : ((w.alloc (.cells (letC l s) 28)).alloc (.cells (letC l' s') 28)).heap[w.heap.size + 1]? = some (.cells (letC l' s') 28 (0, 0)) := by
    have := blk0 (w.alloc (.cells (letC l s) 28)) (letC l' s') 28
    simpa using this
  have hsx := seg_let hx h.pack
  have hsy := seg_let hy h'.pack
  have HA1 := Lib.hid (fun (W : World) (hb : Below w.heap.size w W) => show Calls Try.prog 11 #[.agg (letC l s)] W (AsPost W l) from as_any l s W (h.below hb) hs1.1 hs1.2.1 hs1.2.2)
  have HA2 := Lib.hid (fun (W : World) (hb : Below w.heap.size w W) => show Calls Try.prog 11 #[.agg (letC l' s')] W (AsPost W l') from as_any l' s' W (h'.below hb) hs2.1 hs2.2.1 hs2.2.2)
  have HR1 := Lib.hid (fun (W : World) (hb : Below w.heap.size w W) => right_any l s W (h.below hb))
  have HS1 := Lib.hid (fun (W : World) (hb : Below w.heap.size w W) => same_any l l' s s' W (h.below hb) (h'.below hb))
  have HSx := Lib.hid (fun (W : World) (hb : Below w.heap.size w W) (sx : LS) (hA : LetA W l sx) => (show decide (l = l) = true from by simp) ▸ same_any l l sx s W hA (h.below hb))
  have HW1 := Lib.hid (fun (W : World) (hb : Below w.heap.size w W) => wirewrite_any l s W (h.below hb))
  have HO := Lib.hid h.ok
  clear h h' hX1 hsz hx hy hs1 hs2
  have HPk := HO.out.pack
  generalize letC l s = X at *
  generalize letC l' s' = Y at *
  cases hl : rightB l with
  | false =>
    have Hl := Lib.hid hl
    rw [hl] at HR1
    clear hl
    go_enter Try.func3, Try.ntmps3
    go_upto_region 5 with (first
      | (go_at_call 8; refine (alive_any _).mono ?_; rintro e w1 ⟨rfl, hb1⟩; have hsx := seg_below hsx hb1; have hsy := seg_below hsy hb1; have hB := Below.next hB hb1)
      | (go_at_call 9; (with_reducible refine (wr_no Hl.out (HW1.out _ hB)).mono ?_); rintro e w2 ⟨rfl, hb2⟩; have hsx := seg_below hsx hb2; have hsy := seg_below hsy hb2; have hB := Below.next hB hb2)
      | (go_at_call 11; (with_reducible refine (HA1.out _ hB).mono ?_); rintro e w3 ⟨s3, rfl, hb3, hA3⟩; have HD3 := Lib.hid (Hl.out ▸ dright_any l s3 w3 hA3); have hsx := seg_below hsx hb3; have hsy := seg_below hsy hb3; have hB := Below.next hB hb3)
      | (go_at_call 10; (with_reducible refine HD3.out.mono ?_); rintro e w4 ⟨rfl, hb4⟩; have hsx := seg_below hsx hb4; have hsy := seg_below hsy hb4; have hB := Below.next hB hb4))
    have hxy : (isSeg _ _ 0 _ = true ∧ segAt _ _ 0 _ = _) ∧ (isSeg _ _ 0 _ = true ∧ segAt _ _ 0 _ = _) := ⟨hsx, hsy⟩
    have hBd := hB.drew
    clear hA3 hb1 hb2 hb3 hb4
    go_region_held3 (fun w' => (isSeg w' w.heap.size 0 42 = true ∧ segAt w' w.heap.size 0 42 = X) ∧ (isSeg w' (w.heap.size + 1) 0 42 = true ∧ segAt w' (w.heap.size + 1) 0 42 = Y)) (first | assumption | exact two_segs (by assumption) (by assumption))
      (first
        | (go_at_call 12; (with_reducible refine (HR1.out _ hBd).mono ?_); rintro e w5 ⟨rfl, hb5⟩; have hBd := Below.next hBd hb5)
        | (go_at_call 13; (with_reducible refine (HS1.out _ hBd).mono ?_); rintro e w6 ⟨rfl, hb6⟩; (try have hAa := hAa.below hb6); (try have hAb := hAb.below hb6); have hBd := Below.next hBd hb6)
        | (go_at_call 11; (with_reducible refine (HA1.out _ hBd).mono ?_); rintro e w7 ⟨s7, rfl, hb7, hAa⟩; (try have hAb := hAb.below hb7); have hBd := Below.next hBd hb7)
        | (go_at_call 11; (with_reducible refine (HA2.out _ hBd).mono ?_); rintro e w8 ⟨s8, rfl, hb8, hAb⟩; (try have hAa := hAa.below hb8); have hBd := Below.next hBd hb8)
        | (go_at_call 14; (with_reducible refine (dsame_any l l' _ _ _ hAa hAb).mono ?_); rintro e w9 ⟨rfl, hb9⟩; have hBd := Below.next hBd hb9))
    all_goals
      go_wp2_with fail
      go_ret
      exact Ret.mk rfl hBd
  | true =>
    have Hl := Lib.hid hl
    rw [hl] at HR1
    clear hl
    go_enter Try.func3, Try.ntmps3
    go_upto_region 5 with (first
      | (go_at_call 8; refine (alive_any _).mono ?_; rintro e w1 ⟨rfl, hb1⟩; have hsx := seg_below hsx hb1; have hsy := seg_below hsy hb1; have hB := Below.next hB hb1)
      | (go_at_call 9; (with_reducible refine (wr_yes Hl.out (HW1.out _ hB)).mono ?_); rintro e w2 ⟨a1, n1, c1, rfl, hb2, hs1⟩; have hsx := seg_below hsx hb2; have hsy := seg_below hsy hb2; have hB := Below.next hB hb2)
      | (go_at_call 11; (with_reducible refine (HA1.out _ hB).mono ?_); rintro e w3 ⟨s3, rfl, hb3, hA3⟩; have HD3 := Lib.hid (Hl.out ▸ dright_any l s3 w3 hA3); have hs1 := hs1.below hb3; have hsx := seg_below hsx hb3; have hsy := seg_below hsy hb3; have hB := Below.next hB hb3)
      | (go_at_call 10; (with_reducible refine HD3.out.mono ?_); rintro e w4 ⟨rfl, hb4⟩; have hs1 := hs1.below hb4; have hsx := seg_below hsx hb4; have hsy := seg_below hsy hb4; have hB := Below.next hB hb4))
    have hxy : (isSeg _ _ 0 _ = true ∧ segAt _ _ 0 _ = _) ∧ (isSeg _ _ 0 _ = true ∧ segAt _ _ 0 _ = _) := ⟨hsx, hsy⟩
    have hBd := hB.drew
    have hs1 := hs1.drew
    clear hA3 hb1 hb2 hb3 hb4
    go_region_held3 (fun w' => (isSeg w' w.heap.size 0 42 = true ∧ segAt w' w.heap.size 0 42 = X) ∧ (isSeg w' (w.heap.size + 1) 0 42 = true ∧ segAt w' (w.heap.size + 1) 0 42 = Y)) (first | assumption | exact two_segs (by assumption) (by assumption))
      (first
        | (go_at_call 12; (with_reducible refine (HR1.out _ hBd).mono ?_); rintro e w5 ⟨rfl, hb5⟩; have hs1 := hs1.below hb5; have hBd := Below.next hBd hb5)
        | (go_at_call 13; (with_reducible refine (HS1.out _ hBd).mono ?_); rintro e w6 ⟨rfl, hb6⟩; (try have hAa := hAa.below hb6); (try have hAb := hAb.below hb6); have hs1 := hs1.below hb6; have hBd := Below.next hBd hb6)
        | (go_at_call 11; (with_reducible refine (HA1.out _ hBd).mono ?_); rintro e w7 ⟨s7, rfl, hb7, hAa⟩; (try have hAb := hAb.below hb7); have hs1 := hs1.below hb7; have hBd := Below.next hBd hb7)
        | (go_at_call 11; (with_reducible refine (HA2.out _ hBd).mono ?_); rintro e w8 ⟨s8, rfl, hb8, hAb⟩; (try have hAa := hAa.below hb8); have hs1 := hs1.below hb8; have hBd := Below.next hBd hb8)
        | (go_at_call 14; (with_reducible refine (dsame_any l l' _ _ _ hAa hAb).mono ?_); rintro e w9 ⟨rfl, hb9⟩; have hs1 := hs1.below hb9; have hBd := Below.next hBd hb9))
    all_goals
      have hsx := (show (isSeg _ _ 0 42 = true ∧ segAt _ _ 0 42 = X) ∧ (isSeg _ _ 0 42 = true ∧ segAt _ _ 0 42 = Y) by assumption).1
      clear hxy hsy
      go_upto_region 9 with fail
      have hread := rd_yes _ _ _ _ Hl.out HO.out hs1
      go_wp2_with fail
      refine hread.mono ?_
      rintro e w10 ⟨s10, rfl, hb10, hA10⟩
      dsimp only
      have hs1 := hs1.below hb10
      have hsx := seg_below hsx hb10
      have hBe := Below.next hBd hb10
      clear hread hb10
      (repeat ((fail_if_success (with_reducible show wpList _ _ _ (Oper.mk _ (Op.store _ _ _) _ _ _ _ :: _) _ _)); first | go_values | go_skip | go_guarded | go_step | go_upon))
      have hz := blk0 w10 (letC zeroL LS.none) 28
      refine wpList_store_seg (w := w10.alloc (.cells (letC zeroL LS.none) 28)) rfl 28 _ _ rfl rfl w10.heap.size 0 rfl (letC l s10) rfl 28 (letC zeroL LS.none) hz (by rw [letC_size _ _ HPk, letC_size _ _ rfl]; decide) (info_let' _ _ HPk) (letC_one _ _) (letC l s10) (put_whole _ _ (by rw [letC_size _ _ HPk, letC_size _ _ rfl])) ?_
      intro w11 hq11 hg11 hs11
      clear hs11
      have hb11 : Below w10.heap.size w10 w11 := (grow1' w10 (letC zeroL LS.none) 28).grown hg11 (by simp) (fun k hk => by cases hk; omega)
      have hs1 := hs1.below hb11
      have hsx := seg_below hsx hb11
      have hsz := seg_let hq11 HPk
      have hA11 := hA10.below hb11
      have hBe := Below.next hBe hb11
      clear hz hg11 hq11 hb11 hA10
      have HSz := Lib.hid (fun (W : World) (hb : Below w.heap.size w W) (hA : LetA W l s10) => HSx.out W hb s10 hA)
      generalize w10.heap.size = q at *
      generalize letC l s10 = Z at *
      go_wp2_with (first
        | (go_at_call 11; (with_reducible refine (HA1.out _ hBe).mono ?_); rintro e w12 ⟨s12, rfl, hb12, hA12⟩; have HDw := Lib.hid (dwrite_any l s12 w12 hA12 Hl.out); have hs1 := hs1.below hb12; have hsx := seg_below hsx hb12; have hsz := seg_below hsz hb12; have hA11 := hA11.below hb12; have hBe := Below.next hBe hb12)
        | (go_at_call 17; (with_reducible refine HDw.out.mono ?_); rintro e w13 ⟨a13, n13, c13, rfl, hb13, hown13⟩; have hs13 := own_bs hown13; have hs1 := hs1.below hb13; have HSb := Lib.hid ((show decide (wireL l = wireL l) = true from by simp) ▸ samebytes_any _ _ _ _ _ _ _ _ w13 hs1 hs13); have hsx := seg_below hsx hb13; have hsz := seg_below hsz hb13; have hA11 := hA11.below hb13; have hBe := Below.next hBe hb13)
        | (go_at_call 16; (with_reducible refine HSb.out.mono ?_); rintro e w14 ⟨rfl, hb14⟩; have hsx := seg_below hsx hb14; have hsz := seg_below hsz hb14; have hA11 := hA11.below hb14; have hBe := Below.next hBe hb14)
        | (go_at_call 13; (with_reducible refine (HSz.out _ hBe hA11).mono ?_); rintro e w15 ⟨rfl, hb15⟩))
      go_ret
      exact Ret.mk rfl (Below.next hBe hb15)

end Go.Proofs.Ytfjbmgfkfeehnaa
