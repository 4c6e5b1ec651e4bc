/- A letter of bytes, the document's way: Read. -/
import Derived.Test.YtfjbmgfkfeehnaaDocV
namespace Go.Proofs.Ytfjbmgfkfeehnaa
open Go.RowKit

theorem getNum_pos {s : Rd} {most : Int} : 0 ≤ (getNum most s).1 := by
  cases s with
  | none => exact Int.le_refl _
  | some l =>
    rw [getNum_some]
    cases h : rnum most 0 0 l with
    | none => exact Int.le_refl _
    | some x => exact (rnum_nonneg most l 0 0 x.1 x.2 h).1

set_option maxRecDepth 100000 in
set_option maxHeartbeats 8000000 in
theorem dread_any (a : Option Addr) (n c : Nat) (l : List Int) (w : World) (h : Bs w a n c l) (hb : IsBytes l) :
    Calls Try.prog 18 #[.slice a n c] w (DRd w l) := by
  have hr0 := blk0 w (letC zeroL LS.none) 37
  have hB0 : Below w.heap.size w (w.alloc (.cells (letC zeroL LS.none) 37)) := grow1' _ _ _
  have hn := h.length
  have hcap := h.cap
  have hle := h.le
  unfold maxLen at hcap
  have HN := Lib.hid hn
  have hb_ := Lib.hid hb
  clear hb
  by_cases h4 : n < 4
  · have e4 : decide ((n : Int) < 4) = true := decide_eq_true (by omega)
    have HP := Lib.hid (readL_short (b := l) (by omega))
    clear hn h
    go_enter Try.func18, Try.ntmps18
    (repeat ((fail_if_success (with_reducible show wpList _ _ _ (Oper.mk _ (Op.store _ _ _) _ _ _ _ :: _) _ _)); first | go_values | go_skip | go_guarded | go_step | go_upon))
    refine wpList_store_idle rfl 37 _ _ rfl rfl w.heap.size rfl (letC zeroL LS.none) rfl 37 hr0 info_dlet (letC_one _ _) ?_
    go_wp2_with fail
    exact bodyPost_ret (results_cell_tmp rfl _ _ w.heap.size 37 (letC zeroL LS.none) (0, 0) _ (.bool false) rfl rfl hr0 Try.underlying37 rfl info_dlet) rfl (DRd.no HP.out hB0)
  · have e4 : decide ((n : Int) < 4) = false := decide_eq_false (by omega)
    by_cases h6 : 65536 < n
    · have e6 : decide ((65536 : Int) < (n : Int)) = true := decide_eq_true (by omega)
      have HP := Lib.hid (readL_long (b := l) (by omega))
      clear hn h
      go_enter Try.func18, Try.ntmps18
      (repeat ((fail_if_success (with_reducible show wpList _ _ _ (Oper.mk _ (Op.store _ _ _) _ _ _ _ :: _) _ _)); first | go_values | go_skip | go_guarded | go_step | go_upon))
      refine wpList_store_idle rfl 37 _ _ rfl rfl w.heap.size rfl (letC zeroL LS.none) rfl 37 hr0 info_dlet (letC_one _ _) ?_
      go_wp2_with fail
      exact bodyPost_ret (results_cell_tmp rfl _ _ w.heap.size 37 (letC zeroL LS.none) (0, 0) _ (.bool false) rfl rfl hr0 Try.underlying37 rfl info_dlet) rfl (DRd.no HP.out hB0)
    · have e6 : decide ((65536 : Int) < (n : Int)) = false := decide_eq_false (by omega)
      obtain ⟨m, hm⟩ : ∃ m, n = m + 4 := ⟨n - 4, by omega⟩
      have hw1 : IntKind.i64.wrap ((n : Int) - 4) = (m : Int) := by rw [IntWalk.i64_in _ (by omega)]; omega
      have hw2 : (n : Int) ≤ (c : Int) := by omega
      have hw6 : ¬ c = m := by omega
      have hw3 : (0 : Int) ≤ (m : Int) := by omega
      have hw4 : (m : Int) ≤ (c : Int) := by omega
      have hw5 : (m : Int) ≤ (n : Int) := by omega
      obtain ⟨b, off, rfl, hc⟩ := h.at (by omega)
      have HM := Lib.hid hm
      have hin := Lib.hid (show Bs w (some ⟨b, off, none⟩) m c (l.take m) from ⟨by simp; omega, by omega, h.cap, fun e => (by cases e), fun h0 => by
        obtain ⟨b', off', e, hc'⟩ := Sl.cells h (by omega)
        cases e
        refine ⟨b, off, rfl, fun j hj => ?_⟩
        rw [hc' j (by omega), List.map_take, List.getElem?_take_of_lt (by omega)]⟩)
      have htl := Lib.hid (show Bs w (some ⟨b, off + m, none⟩) (n - m) (c - m) (l.drop m) from by
        have := h.dropA (n := m) (by omega)
        rw [Addr.add_mid] at this
        exact this)
      have hn4 : n - m = 4 := by omega
      have HN4 := Lib.hid hn4
      clear hn h hm hc hn4
      go_enter Try.func18, Try.ntmps18
      go_upto_region 3 with fail
      rw [← letC_zero]
      have hr := hr0
      have hB := hB0
      clear hr0 hB0
      revert hr hB
      generalize w.alloc (.cells (letC zeroL LS.none) 37) = W0
      intro hr hB
      have HF := Lib.hid (rgfour_any _ _ _ _ W0 (htl.out.below hB) (hb_.out.drop m) HN4.out)
      go_wp2_with fail
      refine HF.out.mono ?_
      rintro e w1 ⟨a1, n1, c1, b1, rfl, hb1⟩
      dsimp only
      have hr := (hb1.block _ (blk_cell hr).2.2).trans hr
      have hB := Below.next hB hb1
      clear HF hb1
      (repeat ((fail_if_success (with_reducible show wpList _ _ _ (Oper.mk _ (Op.store _ _ _) _ _ _ _ :: _) _ _)); first | go_values | go_skip | go_guarded | go_step | go_upon))
      have hz := blk0 w1 #[.slice none 0 0, .bool false] 86
      refine wpList_store_seg (w := w1.alloc (.cells #[.slice none 0 0, .bool false] 86)) rfl 86 _ _ rfl rfl w1.heap.size 0 rfl #[.slice a1 n1 c1, .bool b1] rfl 86 #[.slice none 0 0, .bool false] hz (by simp) info_in one_in #[.slice a1 n1 c1, .bool b1] rfl ?_
      intro w2 hq2 hg2 hs2
      have hb2 : Below w1.heap.size w1 w2 := (grow1' w1 #[.slice none 0 0, .bool false] 86).grown hg2 (by simp) (fun k hk => by cases hk; omega)
      have hr := (hb2.block _ (blk_cell hr).2.2).trans hr
      have hB := Below.next hB hb2
      clear hs2 hq2 hg2 hb2 hz
      generalize w1.heap.size = p6 at *
      have HSm := Lib.hid (fun W (hb : Below w.heap.size w W) => rsum_any _ _ _ (l.take m) W (hin.out.below hb) (hb_.out.take m))
      by_cases hs : unfour (l.drop m) = sumL (l.take m)
      · have hne : (((unfour (l.drop m) : Nat) : Int) != ((sumL (l.take m) : Nat) : Int)) = false := by simp [hs]
        have HSum := Lib.hid hs
        clear hs
        go_upto_region 7 with (go_at_call 48; (with_reducible refine (HSm.out _ hB).mono ?_); rintro e w3 ⟨rfl, hb3⟩; have hr := (hb3.block _ (blk_cell hr).2.2).trans hr; have hB := Below.next hB hb3)
        clear HSm hb3 hne
        have hby0 : RdBytes (some (l.take m)) := fun x hx => by cases hx; exact hb_.out.take m
        obtain ⟨v1, S1, E1⟩ : ∃ v S, getNum 4 (some (l.take m)) = (v, S) := ⟨_, _, rfl⟩
        obtain ⟨v2, S2, E2⟩ : ∃ v S, getNum 65536 S1 = (v, S) := ⟨_, _, rfl⟩
        obtain ⟨v3, S3, E3⟩ : ∃ v S, getNum 65536 S2 = (v, S) := ⟨_, _, rfl⟩
        obtain ⟨v4, S4, E4⟩ : ∃ v S, getNum 1099511627776 S3 = (v, S) := ⟨_, _, rfl⟩
        have hby1 : RdBytes S1 := by have := hby0.getNum 4; rwa [E1] at this
        have hby2 : RdBytes S2 := by have := hby1.getNum 65536; rwa [E2] at this
        have hby3 : RdBytes S3 := by have := hby2.getNum 65536; rwa [E3] at this
        have hby4 : RdBytes S4 := by have := hby3.getNum 1099511627776; rwa [E4] at this
        have HRaw := Lib.hid (show readRaw (some (l.take m)) = readTail (mk0 v1 v2 v3 v4) S4 by simp only [readRaw, head4, head3, head2, head1, E1, E2, E3, E4])
        have HL := Lib.hid (show readL l = if doneB (readTail (mk0 v1 v2 v3 v4) S4).2 && rightB (readTail (mk0 v1 v2 v3 v4) S4).1 then some (readTail (mk0 v1 v2 v3 v4) S4).1 else none by rw [readL_eq (m := m) (by rw [HN.out, HM.out, Nat.add_sub_cancel]) (by rw [HN.out]; omega) (by rw [HN.out]; omega) HSum.out, HRaw.out])
        have hn1 := rgnum_any 4 (some (l.take m)) (some ⟨b, off, none⟩) m c false w w3 hB ⟨rfl, hin.out⟩ hby0
        rw [E1] at hn1
        have HN1 := Lib.hid hn1
        clear hn1 HRaw hby0
        go_wp2_with fail
        refine HN1.out.mono ?_
        rintro e w4 ⟨aA, nA, cA, bA, rfl, hbc, hiA⟩
        dsimp only
        have hr := (hbc.block _ (blk_cell hr).2.2).trans hr
        have hB := Below.next hB hbc
        clear HN1 hbc
        (repeat ((fail_if_success (with_reducible show wpList _ _ _ (Oper.mk _ (Op.store _ _ _) _ _ _ _ :: _) _ _)); first | go_values | go_skip | go_guarded | go_step | go_upon))
        have hzA := blk0 w4 #[.slice none 0 0, .bool false] 86
        refine wpList_store_seg (w := w4.alloc (.cells #[.slice none 0 0, .bool false] 86)) rfl 86 _ _ rfl rfl w4.heap.size 0 rfl #[.slice aA nA cA, .bool bA] rfl 86 #[.slice none 0 0, .bool false] hzA (by simp) info_in one_in #[.slice aA nA cA, .bool bA] rfl ?_
        intro w5 hqA hgA hsA
        clear hsA
        have hbA' : Below w4.heap.size w4 w5 := (grow1' w4 #[.slice none 0 0, .bool false] 86).grown hgA (by simp) (fun k hk => by cases hk; omega)
        have hRA : RB w w5 w4.heap.size S1 := ⟨aA, nA, cA, bA, hqA, hiA⟩
        clear hzA hgA hqA
        have hr := (hbA'.block _ (blk_cell hr).2.2).trans hr
        have hB := Below.next hB hbA'
        clear hbA'
        generalize w4.heap.size = pA at *
        obtain ⟨aA2, nA2, cA2, bA2, hbA2, hiA2⟩ := hRA
        have c0A2 := (blk_cell hbA2).1 0
        have c1A2 := (blk_cell hbA2).1 1
        simp only [List.getElem?_toArray, List.getElem?_cons_zero, List.getElem?_cons_succ] at c0A2 c1A2
        have hnB := rgnum_any 65536 S1 aA2 nA2 cA2 bA2 w w5 hB hiA2 hby1
        rw [E2] at hnB
        have HNB := Lib.hid hnB
        clear hnB
        go_wp2_with fail
        refine HNB.out.mono ?_
        rintro e w6 ⟨aB, nB, cB, bB, rfl, hbc, hiB⟩
        dsimp only
        have hr := (hbc.block _ (blk_cell hr).2.2).trans hr
        have hB := Below.next hB hbc
        clear HNB hbc c0A2 c1A2 hbA2
        (repeat ((fail_if_success (with_reducible show wpList _ _ _ (Oper.mk _ (Op.store _ _ _) _ _ _ _ :: _) _ _)); first | go_values | go_skip | go_guarded | go_step | go_upon))
        have hzB := blk0 w6 #[.slice none 0 0, .bool false] 86
        refine wpList_store_seg (w := w6.alloc (.cells #[.slice none 0 0, .bool false] 86)) rfl 86 _ _ rfl rfl w6.heap.size 0 rfl #[.slice aB nB cB, .bool bB] rfl 86 #[.slice none 0 0, .bool false] hzB (by simp) info_in one_in #[.slice aB nB cB, .bool bB] rfl ?_
        intro w7 hqB hgB hsB
        clear hsB
        have hbB' : Below w6.heap.size w6 w7 := (grow1' w6 #[.slice none 0 0, .bool false] 86).grown hgB (by simp) (fun k hk => by cases hk; omega)
        have hRB : RB w w7 w6.heap.size S2 := ⟨aB, nB, cB, bB, hqB, hiB⟩
        clear hzB hgB hqB
        have hr := (hbB'.block _ (blk_cell hr).2.2).trans hr
        have hB := Below.next hB hbB'
        clear hbB'
        generalize w6.heap.size = pB at *
        obtain ⟨aB2, nB2, cB2, bB2, hbB2, hiB2⟩ := hRB
        have c0B2 := (blk_cell hbB2).1 0
        have c1B2 := (blk_cell hbB2).1 1
        simp only [List.getElem?_toArray, List.getElem?_cons_zero, List.getElem?_cons_succ] at c0B2 c1B2
        have hnC := rgnum_any 65536 S2 aB2 nB2 cB2 bB2 w w7 hB hiB2 hby2
        rw [E3] at hnC
        have HNC := Lib.hid hnC
        clear hnC
        go_wp2_with fail
        refine HNC.out.mono ?_
        rintro e w8 ⟨aC, nC, cC, bC, rfl, hbc, hiC⟩
        dsimp only
        have hr := (hbc.block _ (blk_cell hr).2.2).trans hr
        have hB := Below.next hB hbc
        clear HNC hbc c0B2 c1B2 hbB2
        (repeat ((fail_if_success (with_reducible show wpList _ _ _ (Oper.mk _ (Op.store _ _ _) _ _ _ _ :: _) _ _)); first | go_values | go_skip | go_guarded | go_step | go_upon))
        have hzC := blk0 w8 #[.slice none 0 0, .bool false] 86
        refine wpList_store_seg (w := w8.alloc (.cells #[.slice none 0 0, .bool false] 86)) rfl 86 _ _ rfl rfl w8.heap.size 0 rfl #[.slice aC nC cC, .bool bC] rfl 86 #[.slice none 0 0, .bool false] hzC (by simp) info_in one_in #[.slice aC nC cC, .bool bC] rfl ?_
        intro w9 hqC hgC hsC
        clear hsC
        have hbC' : Below w8.heap.size w8 w9 := (grow1' w8 #[.slice none 0 0, .bool false] 86).grown hgC (by simp) (fun k hk => by cases hk; omega)
        have hRC : RB w w9 w8.heap.size S3 := ⟨aC, nC, cC, bC, hqC, hiC⟩
        clear hzC hgC hqC
        have hr := (hbC'.block _ (blk_cell hr).2.2).trans hr
        have hB := Below.next hB hbC'
        clear hbC'
        generalize w8.heap.size = pC at *
        obtain ⟨aC2, nC2, cC2, bC2, hbC2, hiC2⟩ := hRC
        have c0C2 := (blk_cell hbC2).1 0
        have c1C2 := (blk_cell hbC2).1 1
        simp only [List.getElem?_toArray, List.getElem?_cons_zero, List.getElem?_cons_succ] at c0C2 c1C2
        have hnD := rgnum_any 1099511627776 S3 aC2 nC2 cC2 bC2 w w9 hB hiC2 hby3
        rw [E4] at hnD
        have HND := Lib.hid hnD
        clear hnD
        go_wp2_with fail
        refine HND.out.mono ?_
        rintro e w10 ⟨aD, nD, cD, bD, rfl, hbc, hiD⟩
        dsimp only
        have hr := (hbc.block _ (blk_cell hr).2.2).trans hr
        have hB := Below.next hB hbc
        clear HND hbc c0C2 c1C2 hbC2
        (repeat ((fail_if_success (with_reducible show wpList _ _ _ (Oper.mk _ (Op.store _ _ _) _ _ _ _ :: _) _ _)); first | go_values | go_skip | go_guarded | go_step | go_upon))
        have hzD := blk0 w10 #[.slice none 0 0, .bool false] 86
        refine wpList_store_seg (w := w10.alloc (.cells #[.slice none 0 0, .bool false] 86)) rfl 86 _ _ rfl rfl w10.heap.size 0 rfl #[.slice aD nD cD, .bool bD] rfl 86 #[.slice none 0 0, .bool false] hzD (by simp) info_in one_in #[.slice aD nD cD, .bool bD] rfl ?_
        intro w11 hqD hgD hsD
        clear hsD
        have hbD' : Below w10.heap.size w10 w11 := (grow1' w10 #[.slice none 0 0, .bool false] 86).grown hgD (by simp) (fun k hk => by cases hk; omega)
        have hRD : RB w w11 w10.heap.size S4 := ⟨aD, nD, cD, bD, hqD, hiD⟩
        clear hzD hgD hqD
        have hwp : w.heap.size < w10.heap.size := (blk_cell hr).2.2
        have hr := (hbD'.block _ (blk_cell hr).2.2).trans hr
        have hB := Below.next hB hbD'
        clear hbD' hby1 hby2 hby3 E1 E2 E3 E4
        generalize w10.heap.size = p at *
        (repeat ((fail_if_success (with_reducible show wpList _ _ _ (Oper.mk _ (Op.store _ _ _) _ _ _ _ :: _) _ _)); first | go_values | go_skip | go_guarded | go_step | go_upon))
        have hz := blk0 w11 (letC zeroL LS.none) 37
        refine wpList_store_seg (w := w11.alloc (.cells (letC zeroL LS.none) 37)) rfl 37 _ _ rfl rfl w11.heap.size 0 rfl (letC (mk0 v1 v2 v3 v4) LS.none) rfl 37 (letC zeroL LS.none) hz (by rw [letC_size _ _ rfl, letC_size _ _ rfl]; decide) (by rw [letC_size _ _ rfl]; exact info_dlet) (letC_one _ _) (letC (mk0 v1 v2 v3 v4) LS.none) (put_whole _ _ (by rw [letC_size _ _ rfl, letC_size _ _ rfl])) ?_
        intro w12 hq12 hg12 hs12
        have hb12 : Below w11.heap.size w11 w12 := (grow1' w11 (letC zeroL LS.none) 37).grown hg12 (by simp) (fun k hk => by cases hk; omega)
        have hV : DV w w12 w11.heap.size p (mk0 v1 v2 v3 v4) LS.none S4 := ⟨Below.next hB hb12, (hb12.block _ (blk_cell hr).2.2).trans hr, hq12, hRD.below hb12, ⟨Rfs.empty _, Ids.empty _, Ids.empty _, Sl.empty _ _, rfl, .nil, zero32_bytes⟩, far_none _, hwp, hRD.lt, hby4⟩
        clear hs12 hg12 hb12 hz hq12 hr hB hRD hwp hby4
        generalize w11.heap.size = q at *
        by_cases hk2 : v1 = 2
        · have e2 : (v1 == 2) = true := by simp [hk2]
          obtain ⟨nv, T1, F1⟩ : ∃ v S, getNum 100 S4 = (v, S) := ⟨_, _, rfl⟩
          have hT1 : RdBytes T1 := by have := hV.sb.getNum 100; rwa [F1] at this
          obtain ⟨m2, hm2, hml⟩ : ∃ m2 : Nat, nv = (m2 : Int) ∧ m2 ≤ 100 := by
            have h1 := getNum_le (s := S4) (most := 100) (by omega)
            have h0 := getNum_pos (s := S4) (most := 100)
            rw [F1] at h1 h0
            simp only at h1 h0
            exact ⟨nv.toNat, by omega, by omega⟩
          subst hm2
          have HT := Lib.hid (show readTail (mk0 v1 v2 v3 v4) S4 = ({ mk0 v1 v2 v3 v4 with refs := (getRefsN m2 T1).1 }, (getRefsN m2 T1).2) by rw [readTail_2 hk2]; unfold getRefs; rw [F1]; rfl)
          clear hk2
          obtain ⟨ap, np, cp, bp, hbp, hip⟩ := hV.hp
          have c0p := (blk_cell hbp).1 0
          have c1p := (blk_cell hbp).1 1
          simp only [List.getElem?_toArray, List.getElem?_cons_zero, List.getElem?_cons_succ] at c0p c1p
          have hnI := rgnum_any 100 S4 ap np cp bp w w12 hV.B hip hV.sb
          rw [F1] at hnI
          have HNI := Lib.hid hnI
          clear hnI
          go_wp2_with fail
          refine HNI.out.mono ?_
          rintro e w13 ⟨aI, nI, cI, bI, rfl, hbc, hiI⟩
          dsimp only
          have hV := hV.quiet hbc
          have hlI : q < w13.heap.size := (blk_cell hV.hq).2.2
          clear HNI hbc c0p c1p hbp
          (repeat ((fail_if_success (with_reducible show wpList _ _ _ (Oper.mk _ (Op.store _ _ _) _ _ _ _ :: _) _ _)); first | go_values | go_skip | go_guarded | go_step | go_upon))
          have hzI := blk0 w13 #[.slice none 0 0, .bool false] 86
          refine wpList_store_seg (w := w13.alloc (.cells #[.slice none 0 0, .bool false] 86)) rfl 86 _ _ rfl rfl w13.heap.size 0 rfl #[.slice aI nI cI, .bool bI] rfl 86 #[.slice none 0 0, .bool false] hzI (by simp) info_in one_in #[.slice aI nI cI, .bool bI] rfl ?_
          intro w14 hqI hgI hsI
          clear hsI
          have hbI' : Below w13.heap.size w13 w14 := (grow1' w13 #[.slice none 0 0, .bool false] 86).grown hgI (by simp) (fun k hk => by cases hk; omega)
          have hRI : RB w w14 w13.heap.size T1 := ⟨aI, nI, cI, bI, hqI, hiI⟩
          clear hzI hgI hqI
          have hV := hV.quiet hbI'
          have hltI : q < w13.heap.size := hlI
          clear hbI'
          generalize w13.heap.size = pI at *
          have HD0 := Lib.hid (show DL w w14 q p pI (mk0 v1 v2 v3 v4) (getRefsN 0 T1) 0 none 0 from ⟨hV.B, hV.hr, hV.hq, ⟨_, hV.sb, hV.hp⟩, hRI, World.ownsRow_nil _ _ _ _, hV.wp, hV.pq, hltI⟩)
          clear hRI hV
          go_upto_region 16 with fail
          go_loopw [18] (fun i wr => ∃ (k : Nat) (a' : Option Addr) (c' : Nat), k ≤ m2 ∧ i = .int .i64 k ∧ DL w wr q p pI (mk0 v1 v2 v3 v4) (getRefsN k T1) k a' c') (fun i _ => m2 - (intOf i).toNat)
          case atStart => exact ⟨0, none, 0, Nat.zero_le _, rfl, HD0.out⟩
          case round =>
            clear HD0
            obtain ⟨k, a', c', hk, rfl, hD⟩ := hrel
            by_cases hkm : k < m2
            · obtain ⟨tx, U1, G1⟩ : ∃ v S, getText 60 (getRefsN k T1).2 = (v, S) := ⟨_, _, rfl⟩
              obtain ⟨d, U2, G2⟩ : ∃ v S, getId U1 = (v, S) := ⟨_, _, rfl⟩
              have hbk := hT1.getRefsN k
              have hU1 : RdBytes U1 := by have := (hbk.getText 60).1; rwa [G1] at this
              have hd := getId_bytes hU1
              rw [G2] at hd
              have hd32 := hd.1
              have HS := Lib.hid (show getRefsN (k + 1) T1 = ((getRefsN k T1).1 ++ [⟨toS tx, d⟩], U2) by simp only [getRefsN, getRef, G1, G2])
              have hkl : (k + 1) * 48 ≤ 140737488355328 := by omega
              obtain ⟨ax, nx, cx, bx, hbx, hix⟩ := hD.hP
              have c0x := (blk_cell hbx).1 0
              have c1x := (blk_cell hbx).1 1
              simp only [List.getElem?_toArray, List.getElem?_cons_zero, List.getElem?_cons_succ] at c0x c1x
              have hn := rgtext_any 60 (getRefsN k T1).2 ax nx cx bx w wr hD.B hix hbk
              rw [G1] at hn
              have HN1 := Lib.hid hn
              have HD := Lib.hid hD
              have hbx := Lib.hid hbx
              clear hn hD hix
              go_wp2_with fail
              refine HN1.out.mono ?_
              rintro e w15 ⟨aT, nT, cT, bT, rfl, hbc, hiT⟩
              dsimp only
              clear HN1 c0x c1x
              (repeat ((fail_if_success (with_reducible show wpList _ _ _ (Oper.mk _ (Op.store _ _ _) _ _ _ _ :: _) _ _)); first | go_values | go_skip | go_guarded | go_step | go_upon))
              have hzT := blk0 w15 #[.slice none 0 0, .bool false] 86
              refine wpList_store_seg (w := w15.alloc (.cells #[.slice none 0 0, .bool false] 86)) rfl 86 _ _ rfl rfl w15.heap.size 0 rfl #[.slice aT nT cT, .bool bT] rfl 86 #[.slice none 0 0, .bool false] hzT (by simp) info_in one_in #[.slice aT nT cT, .bool bT] rfl ?_
              intro w16 hqT hgT hsT
              clear hsT
              have hbT' : Below w15.heap.size w15 w16 := (grow1' w15 #[.slice none 0 0, .bool false] 86).grown hgT (by simp) (fun k hk => by cases hk; omega)
              have hRT : RB w w16 w15.heap.size U1 := ⟨aT, nT, cT, bT, hqT, hiT⟩
              clear hzT hgT hqT
              have hb16 := Below.next hbc hbT'
              have hBw := Below.next HD.out.B hb16
              clear hbc hbT'
              generalize w15.heap.size = pT at *
              obtain ⟨aT2, nT2, cT2, bT2, hbT2, hiT2⟩ := hRT
              have c0T2 := (blk_cell hbT2).1 0
              have c1T2 := (blk_cell hbT2).1 1
              simp only [List.getElem?_toArray, List.getElem?_cons_zero, List.getElem?_cons_succ] at c0T2 c1T2
              have hn := rgid_any U1 aT2 nT2 cT2 bT2 w w16 hBw hiT2
              rw [G2] at hn
              have HN2 := Lib.hid hn
              clear hn hiT2
              go_wp2_with fail
              refine HN2.out.mono ?_
              rintro e w17 ⟨aU, nU, cU, bU, rfl, hbc, hiU⟩
              dsimp only
              clear HN2 c0T2 c1T2 hbT2
              have hb17 := Below.next hb16 hbc
              clear hbc hb16 hBw
              (repeat ((fail_if_success (with_reducible show wpList _ _ _ (Oper.mk _ (Op.store _ _ _) _ _ _ _ :: _) _ _)); first | go_values | go_skip | go_guarded | go_step | go_upon))
              have hzA := blk0 w17 (idC zero32) 24
              have hzB := blk0 (w17.alloc (.cells (idC zero32) 24)) #[.slice none 0 0, .bool false] 86
              rw [show (w17.alloc (.cells (idC zero32) 24)).heap.size = w17.heap.size + 1 by simp] at hzB
              have hzA := (Below.heap_alloc (w17.alloc (.cells (idC zero32) 24)) (.cells #[.slice none 0 0, .bool false] 86) _ (blk_cell hzA).2.2).trans hzA
              have hb5 : Below w17.heap.size w17 ((w17.alloc (.cells (idC zero32) 24)).alloc (.cells #[.slice none 0 0, .bool false] 86)) := ((Below.refl _ _).alloc (Nat.le_refl _) _).alloc (by simp) _
              refine wpList_store_seg (w := (w17.alloc (.cells (idC zero32) 24)).alloc (.cells #[.slice none 0 0, .bool false] 86)) rfl 24 _ _ rfl rfl w17.heap.size 0 rfl (idC d) rfl 24 (idC zero32) hzA (by rw [idC_size hd32]; decide) (by rw [idC_size hd32]; exact size_arr) (cells_id d) (idC d) (put_whole _ _ (by rw [idC_size hd32]; rfl)) ?_
              intro w18 hq18 hg18 hs18
              have hzB := (hg18.block _ (blk_cell hzB).2.2 (by simp)).trans hzB
              (repeat ((fail_if_success (with_reducible show wpList _ _ _ (Oper.mk _ (Op.store _ _ _) _ _ _ _ :: _) _ _)); first | go_values | go_skip | go_guarded | go_step | go_upon))
              refine wpList_store_seg (w := w18) rfl 86 _ _ rfl rfl (w17.heap.size + 1) 0 rfl #[.slice aU nU cU, .bool bU] rfl 86 #[.slice none 0 0, .bool false] hzB (by simp) info_in one_in #[.slice aU nU cU, .bool bU] rfl ?_
              intro w19 hq19 hg19 hs19
              have hq18 := (hg19.block _ (blk_cell hq18).2.2 (by simp)).trans hq18
              have hb190 : Below w17.heap.size w17 w19 := (hb5.grown hg18 hb5.size (fun k hk => by cases hk; omega)).grown hg19 (by simp at hs18; omega) (fun k hk => by cases hk; omega)
              have hb19 := Below.next hb17 hb190
              have hl17 : wr.heap.size ≤ w17.heap.size := hb17.size
              have hsx := seg_of hq18 0 32 (by rw [idC_size hd32]; omega) (show (idC d).extract 0 (0 + 32) = idC d by have := idC_size hd32; rw [Nat.zero_add, ← this, Array.extract_size])
              have hi32 := idC_size hd32
              have hi33 := rfC_size (r := ⟨toS tx, d⟩) hd32
              have H19 := Lib.hid hq19
              clear hzA hzB hb5 hg18 hg19 hs18 hs19 hq18 hq19 hb17 hb190
              generalize w17.heap.size = pd at *
              have hq9 := (hb19.block _ (blk_cell HD.out.hq).2.2).trans HD.out.hq
              have hc4 := (blk_cell hq9).1 4
              rw [show (letC { mk0 v1 v2 v3 v4 with refs := (getRefsN k T1).1 } { LS.none with ra := a', rn := k, rc := c' })[4]? = some (.slice a' k c') from rfl] at hc4
              (repeat ((fail_if_success at_builtin); first | go_values | go_skip | go_guarded | go_step | go_upon))
              have hzC := blk0 w19 (rfC ⟨toS tx, d⟩) 64
              clear hsx hi32 hi33 hc4
              refine app_drf (w := w19.alloc (.cells (rfC ⟨toS tx, d⟩) 64)) rfl _ _ rfl (pI + 1) (.slice a' k c') k _ rfl (own_below (own_below HD.out.own hb19) (grow1' w19 (rfC ⟨toS tx, d⟩) 64)) w19.heap.size 1 ⟨toS tx, d⟩ rfl hzC hd32 hkl (by have := hb19.size; have := HD.out.hP.lt; simp; omega) ?_
              intro v20 w20 ho20 hg20
              have hlt : ∀ x, (Value.slice a' k c').ownBlock = some x → pI < x ∧ x < wr.heap.size := fun x hx => by have := (World.ownsRow.lt HD.out.own) x hx; omega
              have hk20 := grown_trans (grown_below (grow1' w19 (rfC ⟨toS tx, d⟩) 64)) hg20
              have hkk : ∀ j, j ≤ pI → w20.heap[j]? = wr.heap[j]? := fun j hj => (hk20.block j (by have := hb19.size; have := HD.out.hP.lt; omega) (fun e => by have := hlt j e.symm; omega)).trans (hb19.block j (by have := HD.out.hP.lt; omega))
              have hB20 := (Below.next HD.out.B hb19).grown hk20 (Below.size (Below.next HD.out.B hb19)) (fun j hj => by have := hlt j hj; have := HD.out.wp; have := HD.out.pq; have := HD.out.qP; omega)
              have h20 := (hk20.block (pd + 1) (blk_cell H19.out).2.2 (fun e => by have := hlt (pd + 1) e.symm; omega)).trans H19.out
              obtain ⟨a20, c20, rfl, _⟩ := own_form ho20
              have hq20 := (hkk q (Nat.le_of_lt HD.out.qP)).trans HD.out.hq
              have cf := (blk_cell hq20).1 4
              have ff := (blk_cell hq20).2.1 4
              rw [show (letC { mk0 v1 v2 v3 v4 with refs := (getRefsN k T1).1 } { LS.none with ra := a', rn := k, rc := c' })[4]? = some (.slice a' k c') from rfl] at cf
              clear hzC hg20 hk20 hq9 hb19 H19
              go_upto_region 21 with fail
              have hne : ¬ pd + 1 = q := by have := HD.out.qP; have := HD.out.hP.lt; omega
              have hnq : ¬ pI = q := by have := HD.out.qP; omega
              have h21 := (Below.heap_setCell w20 ⟨q, 4, none⟩ (.slice a20 (k + 1) c20) (pd + 1) hne).trans h20
              have hP21 := (Below.heap_setCell w20 ⟨q, 4, none⟩ (.slice a20 (k + 1) c20) pI hnq).trans ((hkk pI (Nat.le_refl _)).trans hbx.out)
              have kc0 := (blk_cell h21).1 0
              have kc1 := (blk_cell h21).1 1
              simp only [List.getElem?_toArray, List.getElem?_cons_zero, List.getElem?_cons_succ] at kc0 kc1
              have hpd : pd + 1 < w20.heap.size := (blk_cell h20).2.2
              clear cf ff h20
              (repeat ((fail_if_success (with_reducible show wpList _ _ _ (Oper.mk _ (Op.store _ _ _) _ _ _ _ :: _) _ _)); first | go_values | go_skip | go_guarded | go_step | go_upon))
              refine wpList_store_seg rfl 86 _ _ rfl rfl pI 0 rfl #[.slice aU nU cU, .bool bU] rfl 86 #[.slice ax nx cx, .bool bx] hP21 (by simp) info_in one_in #[.slice aU nU cU, .bool bU] rfl ?_
              intro w22 hq22 hg22 hs22
              have hkk2 : ∀ j, j < pI → j ≠ q → w22.heap[j]? = wr.heap[j]? := fun j hj hjq => (hg22.block j (by simp [World.setCell]; have := hB20.size; have := HD.out.hP.lt; have := (blk_cell hq20).2.2; omega) (by simp; omega)).trans ((Below.heap_setCell w20 ⟨q, 4, none⟩ _ j hjq).trans (hkk j (Nat.le_of_lt hj)))
              have hD22 : DL w w22 q p pI (mk0 v1 v2 v3 v4) (getRefsN (k + 1) T1) (k + 1) a20 c20 := by
                have h1 := HD.out.wp
                have h2 := HD.out.pq
                have h3 := HD.out.qP
                rw [HS.out]
                obtain ⟨So, hSo, hpo⟩ := HD.out.hp
                refine ⟨(hB20.grown (grown_set w20 q 4 _) hB20.size (fun j hj => by cases hj; omega)).grown hg22 (Below.size (hB20.grown (grown_set w20 q 4 _) hB20.size (fun j hj => by cases hj; omega))) (fun j hj => by cases hj; omega), (hkk2 _ (by omega) (by omega)).trans HD.out.hr, ?_, ⟨So, hSo, hpo.kept (hkk2 _ (by omega) (by omega))⟩, ⟨aU, nU, cU, bU, hq22, hiU⟩, ?_, h1, h2, h3⟩
                · exact (hg22.block q (by simp [World.setCell]; exact (blk_cell hq20).2.2) (by simp; omega)).trans ((heap_setCell_same w20 q 4 _ _ (.slice a20 (k + 1) c20) hq20).trans rfl)
                · have := own_grown (own_grown ho20 (grown_set w20 q 4 (.slice a20 (k + 1) c20)) (fun j hj => by cases hj; omega)) hg22 (fun j hj => by cases hj; omega)
                  show World.ownsRow _ _ _ _ _ _ (rowC 33 rfF ((getRefsN k T1).1 ++ [⟨toS tx, d⟩]))
                  rw [rowC_snoc]
                  exact this
              have HD22 := Lib.hid hD22
              clear hD22 hkk2 hkk hq22 hg22 hs22 hP21 h21 kc0 kc1 hq20 hB20 ho20 hiU hbx hlt hpd
              go_wp2_with fail
              go_roundw
              case rel => exact ⟨k + 1, a20, c20, by omega, by go_num, HD22.out⟩
              case measure => simp [intOf]; omega
            · obtain rfl : k = m2 := by omega
              obtain ⟨So, hSo, hpo⟩ := hD.hp
              have hV : DV w wr q p { mk0 v1 v2 v3 v4 with refs := (getRefsN k T1).1 } { LS.none with ra := a', rn := k, rc := c' } So :=
                ⟨hD.B, hD.hr, hD.hq, hpo, ⟨⟨own_sl hD.own, getRefsN_all hT1 k⟩, Ids.empty _, Ids.empty _, Sl.empty _ _, rfl, .nil, zero32_bytes⟩, (fun x hx => by rcases hx with h | h | h | h; (have h5 := ((World.ownsRow.lt hD.own) x.block (by rw [show a' = some x from h]; rfl)).1; have h6 := hD.qP; omega); (cases h); (cases h); (cases h)), hD.wp, hD.pq, hSo⟩
              have hRP := hD.hP
              have hbk := hT1.getRefsN k
              clear hD hpo
              obtain ⟨af, nf, cf, bf, hbf, hif⟩ := hRP
              have c0f := (blk_cell hbf).1 0
              have c1f := (blk_cell hbf).1 1
              simp only [List.getElem?_toArray, List.getElem?_cons_zero, List.getElem?_cons_succ] at c0f c1f
              (repeat ((fail_if_success (with_reducible show wpList _ _ _ (Oper.mk _ (Op.store _ _ _) _ _ _ _ :: _) _ _)); first | go_values | go_skip | go_guarded | go_step | go_upon))
              obtain ⟨ao, no, co, bo, hbo, _⟩ := hV.hp
              refine wpList_store_seg (w := wr) rfl 86 _ _ rfl rfl p 0 rfl #[.slice af nf cf, .bool bf] rfl 86 #[.slice ao no co, .bool bo] hbo (by simp) info_in one_in #[.slice af nf cf, .bool bf] rfl ?_
              intro w30 hqe hge hse
              clear hse
              have hV := hV.setP hge hqe hif hbk
              clear hqe hge hbo hbf hif c0f c1f
              have HLf := Lib.hid (show readL l = if doneB ((getRefsN k T1).2) && rightB ({ mk0 v1 v2 v3 v4 with refs := (getRefsN k T1).1 }) then some ({ mk0 v1 v2 v3 v4 with refs := (getRefsN k T1).1 }) else none by rw [HL.out, HT.out])
              obtain ⟨az, nz, cz, bz, hbz, hiz⟩ := hV.hp
              have c0z := (blk_cell hbz).1 0
              have c1z := (blk_cell hbz).1 1
              simp only [List.getElem?_toArray, List.getElem?_cons_zero, List.getElem?_cons_succ] at c0z c1z
              have hsl := seg_let hV.hq hV.la.pack
              have HDn := Lib.hid (rgdone_any ((getRefsN k T1).2) az nz cz bz w w30 hiz)
              have HRt := Lib.hid (fun W (hb : Below w30.heap.size w30 W) => dright_any ({ mk0 v1 v2 v3 v4 with refs := (getRefsN k T1).1 }) ({ LS.none with ra := a', rn := k, rc := c' }) W (hV.la.below hb))
              have HV := Lib.hid hV
              have hX1 := Lib.hid (letC_one ({ mk0 v1 v2 v3 v4 with refs := (getRefsN k T1).1 }) ({ LS.none with ra := a', rn := k, rc := c' }))
              have hXs := Lib.hid (letC_size ({ mk0 v1 v2 v3 v4 with refs := (getRefsN k T1).1 }) ({ LS.none with ra := a', rn := k, rc := c' }) hV.la.pack)
              clear hbz hiz hV
              generalize hgd : doneB ((getRefsN k T1).2) = dn at *
              generalize hgr : rightB ({ mk0 v1 v2 v3 v4 with refs := (getRefsN k T1).1 }) = rt at *
              cases dn with
              | false =>
                have HP := Lib.hid (show readL l = none by rw [HLf.out]; rfl)
                clear hgd hgr
                go_upto_region 42 with (go_at_call 54; (with_reducible refine HDn.out.mono ?_); rintro e w70 ⟨rfl, hb70⟩; have hr := (hb70.block _ (blk_cell HV.out.hr).2.2).trans HV.out.hr)
                (repeat ((fail_if_success (with_reducible show wpList _ _ _ (Oper.mk _ (Op.store _ _ _) _ _ _ _ :: _) _ _)); first | go_values | go_skip | go_guarded | go_step | go_upon))
                refine wpList_store_idle rfl 37 _ _ rfl rfl w.heap.size rfl (letC zeroL LS.none) rfl 37 hr info_dlet (letC_one _ _) ?_
                go_wp2_with fail
                exact bodyPost_ret (results_cell_tmp rfl _ _ w.heap.size 37 (letC zeroL LS.none) (0, 0) _ (.bool false) rfl rfl hr Try.underlying37 rfl info_dlet) rfl (DRd.no HP.out (Below.next HV.out.B hb70))
              | true =>
                cases rt with
                | false =>
                  have HP := Lib.hid (show readL l = none by rw [HLf.out]; rfl)
                  clear hgd hgr
                  generalize letC ({ mk0 v1 v2 v3 v4 with refs := (getRefsN k T1).1 }) ({ LS.none with ra := a', rn := k, rc := c' }) = X at *
                  go_upto_region 42 with (first
                    | (go_at_call 54; (with_reducible refine HDn.out.mono ?_); rintro e w70 ⟨rfl, hb70⟩; have hsl := seg_below hsl hb70)
                    | (go_at_call 10; (with_reducible refine (HRt.out _ hb70).mono ?_); rintro e w71 ⟨rfl, hb71⟩; have hb71 := Below.next hb70 hb71; have hr := (hb71.block _ (blk_cell HV.out.hr).2.2).trans HV.out.hr))
                  (repeat ((fail_if_success (with_reducible show wpList _ _ _ (Oper.mk _ (Op.store _ _ _) _ _ _ _ :: _) _ _)); first | go_values | go_skip | go_guarded | go_step | go_upon))
                  refine wpList_store_idle rfl 37 _ _ rfl rfl w.heap.size rfl (letC zeroL LS.none) rfl 37 hr info_dlet (letC_one _ _) ?_
                  go_wp2_with fail
                  exact bodyPost_ret (results_cell_tmp rfl _ _ w.heap.size 37 (letC zeroL LS.none) (0, 0) _ (.bool false) rfl rfl hr Try.underlying37 rfl info_dlet) rfl (DRd.no HP.out (Below.next HV.out.B hb71))
                | true =>
                  have HP := Lib.hid (show readL l = some ({ mk0 v1 v2 v3 v4 with refs := (getRefsN k T1).1 }) by rw [HLf.out]; rfl)
                  clear hgd hgr
                  generalize hXe : letC ({ mk0 v1 v2 v3 v4 with refs := (getRefsN k T1).1 }) ({ LS.none with ra := a', rn := k, rc := c' }) = X at *
                  have HXe := Lib.hid hXe
                  clear hXe
                  go_upto_region 43 with (first
                    | (go_at_call 54; (with_reducible refine HDn.out.mono ?_); rintro e w70 ⟨rfl, hb70⟩; have hsl := seg_below hsl hb70)
                    | (go_at_call 10; (with_reducible refine (HRt.out _ hb70).mono ?_); rintro e w71 ⟨rfl, hb71⟩; have hsl := seg_below hsl hb71; have hb71 := Below.next hb70 hb71; have hr := (hb71.block _ (blk_cell HV.out.hr).2.2).trans HV.out.hr; have hB71 := Below.next HV.out.B hb71))
                  (repeat ((fail_if_success (with_reducible show wpList _ _ _ (Oper.mk _ (Op.store _ _ _) _ _ _ _ :: _) _ _)); first | go_values | go_skip | go_guarded | go_step | go_upon))
                  refine wpList_store_seg rfl 37 _ _ rfl rfl w.heap.size 0 rfl X rfl 37 (letC zeroL LS.none) hr (by rw [hXs.out, letC_size _ _ rfl]; decide) (by rw [hXs.out]; exact info_dlet) hX1.out X (put_whole _ _ (by rw [hXs.out, letC_size _ _ rfl])) ?_
                  intro w80 hq80 hg80 hs80
                  clear hs80
                  have hA80 := (HV.out.la.below hb71).grownAt HV.out.far hg80 (by have := HV.out.wp; have := HV.out.pq; omega)
                  have hB80 := hB71.grown hg80 hB71.size (fun j hj => by cases hj; exact Nat.le_refl _)
                  clear hsl hr hg80
                  go_wp2_with fail
                  exact bodyPost_ret (results_cell_tmp rfl _ _ w.heap.size 37 X (0, 0) _ (.bool true) rfl rfl hq80 Try.underlying37 rfl (by rw [hXs.out]; exact info_dlet)) rfl (HXe.out ▸ DRd.yes HP.out hB80 hA80)
        · by_cases hk3 : v1 = 3
          · have e2 : (v1 == 2) = false := by simp [hk3]
            have e3 : (v1 == 3) = true := by simp [hk3]
            obtain ⟨ws, T1, F1⟩ : ∃ v S, getIds 100 S4 = (v, S) := ⟨_, _, rfl⟩
            obtain ⟨hs, T2, F2⟩ : ∃ v S, getIds 200 T1 = (v, S) := ⟨_, _, rfl⟩
            obtain ⟨ov, T3, F3⟩ : ∃ v S, getNum 1048576 T2 = (v, S) := ⟨_, _, rfl⟩
            have hT1 : RdBytes T1 := by have := hV.sb.getIds 100; rwa [F1] at this
            have hT2 : RdBytes T2 := by have := hT1.getIds 200; rwa [F2] at this
            have hT3 : RdBytes T3 := by have := hT2.getNum 1048576; rwa [F3] at this
            have hwall := getIds_all hV.sb 100
            have hhall := getIds_all hT1 200
            rw [F1] at hwall
            rw [F2] at hhall
            have HT := Lib.hid (show readTail (mk0 v1 v2 v3 v4) S4 = ({ mk0 v1 v2 v3 v4 with wants := ws, haves := hs, off := ov }, T3) by rw [readTail_3 hk3, F1]; simp only [F2, F3])
            clear hk2 hk3
            obtain ⟨ap, np, cp, bp, hbp, hip⟩ := hV.hp
            have c0p := (blk_cell hbp).1 0
            have c1p := (blk_cell hbp).1 1
            simp only [List.getElem?_toArray, List.getElem?_cons_zero, List.getElem?_cons_succ] at c0p c1p
            have hnI := rgids_any 100 S4 ap np cp bp w w12 hV.B hip hV.sb (by omega) (by omega)
            rw [F1] at hnI
            have HNI := Lib.hid hnI
            clear hnI
            have hV12 := hV
            go_wp2_with fail
            refine HNI.out.mono ?_
            rintro e w13 ⟨ai, ni, ci, aI, nI, cI, bI, rfl, hbc, hiI, howI⟩
            dsimp only
            have hV := hV.quiet hbc
            have hlI : q < w13.heap.size := (blk_cell hV.hq).2.2
            have hWs : Ids w13 ai ni ci ws := ⟨own_sl howI, hwall⟩
            have hfw : ∀ x, ai = some x → q < x.block := fun x hx => by have := ((World.ownsRow.lt howI) x.block (by rw [hx]; rfl)).1; have := (blk_cell hV12.hq).2.2; omega
            clear howI
            clear HNI hbc c0p c1p hbp
            (repeat ((fail_if_success (with_reducible show wpList _ _ _ (Oper.mk _ (Op.store _ _ _) _ _ _ _ :: _) _ _)); first | go_values | go_skip | go_guarded | go_step | go_upon))
            have hzI := blk0 w13 #[.slice none 0 0, .bool false] 86
            refine wpList_store_seg (w := w13.alloc (.cells #[.slice none 0 0, .bool false] 86)) rfl 86 _ _ rfl rfl w13.heap.size 0 rfl #[.slice aI nI cI, .bool bI] rfl 86 #[.slice none 0 0, .bool false] hzI (by simp) info_in one_in #[.slice aI nI cI, .bool bI] rfl ?_
            intro w14 hqI hgI hsI
            clear hsI
            have hbI' : Below w13.heap.size w13 w14 := (grow1' w13 #[.slice none 0 0, .bool false] 86).grown hgI (by simp) (fun k hk => by cases hk; omega)
            have hRI : RB w w14 w13.heap.size T1 := ⟨aI, nI, cI, bI, hqI, hiI⟩
            clear hzI hgI hqI
            have hV := hV.quiet hbI'
            have hWs := hWs.below hbI'
            have hltI : q < w13.heap.size := hlI
            clear hbI'
            generalize w13.heap.size = pI at *
            obtain ⟨aI2, nI2, cI2, bI2, hbI2, hiI2⟩ := hRI
            have c0I2 := (blk_cell hbI2).1 0
            have c1I2 := (blk_cell hbI2).1 1
            simp only [List.getElem?_toArray, List.getElem?_cons_zero, List.getElem?_cons_succ] at c0I2 c1I2
            have hnJ := rgids_any 200 T1 aI2 nI2 cI2 bI2 w w14 hV.B hiI2 hT1 (by omega) (by omega)
            rw [F2] at hnJ
            have HNJ := Lib.hid hnJ
            clear hnJ
            have hV14 := hV
            go_wp2_with fail
            refine HNJ.out.mono ?_
            rintro e w15 ⟨aj, nj, cj, aJ, nJ, cJ, bJ, rfl, hbc, hiJ, howJ⟩
            dsimp only
            have hV := hV.quiet hbc
            have hlJ : q < w15.heap.size := (blk_cell hV.hq).2.2
            have hWs := hWs.below hbc
            have hHs : Ids w15 aj nj cj hs := ⟨own_sl howJ, hhall⟩
            have hfh : ∀ x, aj = some x → q < x.block := fun x hx => by have := ((World.ownsRow.lt howJ) x.block (by rw [hx]; rfl)).1; have := (blk_cell hV14.hq).2.2; omega
            clear howJ hV14 hV12
            clear HNJ hbc c0I2 c1I2 hbI2
            (repeat ((fail_if_success (with_reducible show wpList _ _ _ (Oper.mk _ (Op.store _ _ _) _ _ _ _ :: _) _ _)); first | go_values | go_skip | go_guarded | go_step | go_upon))
            have hzJ := blk0 w15 #[.slice none 0 0, .bool false] 86
            refine wpList_store_seg (w := w15.alloc (.cells #[.slice none 0 0, .bool false] 86)) rfl 86 _ _ rfl rfl w15.heap.size 0 rfl #[.slice aJ nJ cJ, .bool bJ] rfl 86 #[.slice none 0 0, .bool false] hzJ (by simp) info_in one_in #[.slice aJ nJ cJ, .bool bJ] rfl ?_
            intro w16 hqJ hgJ hsJ
            clear hsJ
            have hbJ' : Below w15.heap.size w15 w16 := (grow1' w15 #[.slice none 0 0, .bool false] 86).grown hgJ (by simp) (fun k hk => by cases hk; omega)
            have hRJ : RB w w16 w15.heap.size T2 := ⟨aJ, nJ, cJ, bJ, hqJ, hiJ⟩
            clear hzJ hgJ hqJ
            have hV := hV.quiet hbJ'
            have hWs := hWs.below hbJ'
            have hHs := hHs.below hbJ'
            have hltJ : q < w15.heap.size := hlJ
            clear hbJ'
            generalize w15.heap.size = pJ at *
            obtain ⟨aJ2, nJ2, cJ2, bJ2, hbJ2, hiJ2⟩ := hRJ
            have c0J2 := (blk_cell hbJ2).1 0
            have c1J2 := (blk_cell hbJ2).1 1
            simp only [List.getElem?_toArray, List.getElem?_cons_zero, List.getElem?_cons_succ] at c0J2 c1J2
            have hnK := rgnum_any 1048576 T2 aJ2 nJ2 cJ2 bJ2 w w16 hV.B hiJ2 hT2
            rw [F3] at hnK
            have HNK := Lib.hid hnK
            clear hnK
            go_wp2_with fail
            refine HNK.out.mono ?_
            rintro e w17 ⟨aK, nK, cK, bK, rfl, hbc, hiK⟩
            dsimp only
            have hV := hV.quiet hbc
            have hlK : q < w17.heap.size := (blk_cell hV.hq).2.2
            have hWs := hWs.below hbc
            have hHs := hHs.below hbc
            clear HNK hbc c0J2 c1J2 hbJ2
            (repeat ((fail_if_success (with_reducible show wpList _ _ _ (Oper.mk _ (Op.store _ _ _) _ _ _ _ :: _) _ _)); first | go_values | go_skip | go_guarded | go_step | go_upon))
            have hzK := blk0 w17 #[.slice none 0 0, .bool false] 86
            refine wpList_store_seg (w := w17.alloc (.cells #[.slice none 0 0, .bool false] 86)) rfl 86 _ _ rfl rfl w17.heap.size 0 rfl #[.slice aK nK cK, .bool bK] rfl 86 #[.slice none 0 0, .bool false] hzK (by simp) info_in one_in #[.slice aK nK cK, .bool bK] rfl ?_
            intro w18 hqK hgK hsK
            clear hsK
            have hbK' : Below w17.heap.size w17 w18 := (grow1' w17 #[.slice none 0 0, .bool false] 86).grown hgK (by simp) (fun k hk => by cases hk; omega)
            have hRK : RB w w18 w17.heap.size T3 := ⟨aK, nK, cK, bK, hqK, hiK⟩
            clear hzK hgK hqK
            have hV := hV.quiet hbK'
            have hWs := hWs.below hbK'
            have hHs := hHs.below hbK'
            have hltK : q < w17.heap.size := hlK
            clear hbK'
            generalize w17.heap.size = pK at *
            have cf := (blk_cell hV.hq).1 5
            have ff := (blk_cell hV.hq).2.1 5
            rw [show (letC (mk0 v1 v2 v3 v4) LS.none)[5]? = some (.slice none 0 0) from rfl] at cf
            go_upto_region 28 with fail
            clear cf ff
            have hHs : Ids (w18.setCell ⟨q, 5, none⟩ (.slice ai ni ci)) aj nj cj hs := ⟨Sl.grownAway hHs.row (grown_set _ q 5 _) (fun x hx => by have := hfh x hx; omega), hHs.all⟩
            have hRK := hRK.grown (grown_set _ q 5 (.slice ai ni ci)) (by omega)
            have hV := hV.setQ (l' := { mk0 v1 v2 v3 v4 with wants := ws }) (s' := { LS.none with wa := ai, wn := ni, wc := ci }) (grown_set _ q 5 (.slice ai ni ci)) ((heap_setCell_same _ q 5 _ _ (.slice ai ni ci) hV.hq).trans rfl) ⟨hV.la.refs, hWs, hV.la.haves, hV.la.data, hV.la.pack, hV.la.bytes, hV.la.packb⟩ (fun x hx => by rcases hx with h | h | h | h; (cases h); (exact hfw x h); (cases h); (cases h))
            generalize w18.setCell ⟨q, 5, none⟩ (.slice ai ni ci) = w19 at *
            have cf := (blk_cell hV.hq).1 6
            have ff := (blk_cell hV.hq).2.1 6
            rw [show (letC ({ mk0 v1 v2 v3 v4 with wants := ws }) ({ LS.none with wa := ai, wn := ni, wc := ci }))[6]? = some (.slice none 0 0) from rfl] at cf
            go_upto_region 29 with fail
            clear cf ff
            have hRK := hRK.grown (grown_set _ q 6 (.slice aj nj cj)) (by omega)
            have hV := hV.setQ (l' := { mk0 v1 v2 v3 v4 with wants := ws, haves := hs }) (s' := { LS.none with wa := ai, wn := ni, wc := ci, ha := aj, hn := nj, hc := cj }) (grown_set _ q 6 (.slice aj nj cj)) ((heap_setCell_same _ q 6 _ _ (.slice aj nj cj) hV.hq).trans rfl) ⟨hV.la.refs, hV.la.wants, hHs, hV.la.data, hV.la.pack, hV.la.bytes, hV.la.packb⟩ (fun x hx => by rcases hx with h | h | h | h; (cases h); (exact hfw x h); (exact hfh x h); (cases h))
            generalize w19.setCell ⟨q, 6, none⟩ (.slice aj nj cj) = w20 at *
            have cf := (blk_cell hV.hq).1 7
            have ff := (blk_cell hV.hq).2.1 7
            rw [show (letC ({ mk0 v1 v2 v3 v4 with wants := ws, haves := hs }) ({ LS.none with wa := ai, wn := ni, wc := ci, ha := aj, hn := nj, hc := cj }))[7]? = some (.int .i64 0) from rfl] at cf
            go_upto_region 30 with fail
            clear cf ff
            have hRK := hRK.grown (grown_set _ q 7 (.int .i64 ov)) (by omega)
            have hV := hV.setQ (l' := { mk0 v1 v2 v3 v4 with wants := ws, haves := hs, off := ov }) (s' := { LS.none with wa := ai, wn := ni, wc := ci, ha := aj, hn := nj, hc := cj }) (grown_set _ q 7 (.int .i64 ov)) ((heap_setCell_same _ q 7 _ _ (.int .i64 ov) hV.hq).trans rfl) ⟨hV.la.refs, hV.la.wants, hV.la.haves, hV.la.data, hV.la.pack, hV.la.bytes, hV.la.packb⟩ hV.far
            generalize w20.setCell ⟨q, 7, none⟩ (.int .i64 ov) = w21 at *
            obtain ⟨af, nf, cf, bf, hbf, hif⟩ := hRK
            have c0f := (blk_cell hbf).1 0
            have c1f := (blk_cell hbf).1 1
            simp only [List.getElem?_toArray, List.getElem?_cons_zero, List.getElem?_cons_succ] at c0f c1f
            (repeat ((fail_if_success (with_reducible show wpList _ _ _ (Oper.mk _ (Op.store _ _ _) _ _ _ _ :: _) _ _)); first | go_values | go_skip | go_guarded | go_step | go_upon))
            obtain ⟨ao, no, co, bo, hbo, _⟩ := hV.hp
            refine wpList_store_seg (w := w21) rfl 86 _ _ rfl rfl p 0 rfl #[.slice af nf cf, .bool bf] rfl 86 #[.slice ao no co, .bool bo] hbo (by simp) info_in one_in #[.slice af nf cf, .bool bf] rfl ?_
            intro w22 hqe hge hse
            clear hse
            have hV := hV.setP hge hqe hif hT3
            clear hqe hge hbo hbf hif c0f c1f
            have HLf := Lib.hid (show readL l = if doneB (T3) && rightB ({ mk0 v1 v2 v3 v4 with wants := ws, haves := hs, off := ov }) then some ({ mk0 v1 v2 v3 v4 with wants := ws, haves := hs, off := ov }) else none by rw [HL.out, HT.out])
            obtain ⟨az, nz, cz, bz, hbz, hiz⟩ := hV.hp
            have c0z := (blk_cell hbz).1 0
            have c1z := (blk_cell hbz).1 1
            simp only [List.getElem?_toArray, List.getElem?_cons_zero, List.getElem?_cons_succ] at c0z c1z
            have hsl := seg_let hV.hq hV.la.pack
            have HDn := Lib.hid (rgdone_any (T3) az nz cz bz w w22 hiz)
            have HRt := Lib.hid (fun W (hb : Below w22.heap.size w22 W) => dright_any ({ mk0 v1 v2 v3 v4 with wants := ws, haves := hs, off := ov }) ({ LS.none with wa := ai, wn := ni, wc := ci, ha := aj, hn := nj, hc := cj }) W (hV.la.below hb))
            have HV := Lib.hid hV
            have hX1 := Lib.hid (letC_one ({ mk0 v1 v2 v3 v4 with wants := ws, haves := hs, off := ov }) ({ LS.none with wa := ai, wn := ni, wc := ci, ha := aj, hn := nj, hc := cj }))
            have hXs := Lib.hid (letC_size ({ mk0 v1 v2 v3 v4 with wants := ws, haves := hs, off := ov }) ({ LS.none with wa := ai, wn := ni, wc := ci, ha := aj, hn := nj, hc := cj }) hV.la.pack)
            clear hbz hiz hV
            generalize hgd : doneB (T3) = dn at *
            generalize hgr : rightB ({ mk0 v1 v2 v3 v4 with wants := ws, haves := hs, off := ov }) = rt at *
            cases dn with
            | false =>
              have HP := Lib.hid (show readL l = none by rw [HLf.out]; rfl)
              clear hgd hgr
              go_upto_region 42 with (go_at_call 54; (with_reducible refine HDn.out.mono ?_); rintro e w70 ⟨rfl, hb70⟩; have hr := (hb70.block _ (blk_cell HV.out.hr).2.2).trans HV.out.hr)
              (repeat ((fail_if_success (with_reducible show wpList _ _ _ (Oper.mk _ (Op.store _ _ _) _ _ _ _ :: _) _ _)); first | go_values | go_skip | go_guarded | go_step | go_upon))
              refine wpList_store_idle rfl 37 _ _ rfl rfl w.heap.size rfl (letC zeroL LS.none) rfl 37 hr info_dlet (letC_one _ _) ?_
              go_wp2_with fail
              exact bodyPost_ret (results_cell_tmp rfl _ _ w.heap.size 37 (letC zeroL LS.none) (0, 0) _ (.bool false) rfl rfl hr Try.underlying37 rfl info_dlet) rfl (DRd.no HP.out (Below.next HV.out.B hb70))
            | true =>
              cases rt with
              | false =>
                have HP := Lib.hid (show readL l = none by rw [HLf.out]; rfl)
                clear hgd hgr
                generalize letC ({ mk0 v1 v2 v3 v4 with wants := ws, haves := hs, off := ov }) ({ LS.none with wa := ai, wn := ni, wc := ci, ha := aj, hn := nj, hc := cj }) = X at *
                go_upto_region 42 with (first
                  | (go_at_call 54; (with_reducible refine HDn.out.mono ?_); rintro e w70 ⟨rfl, hb70⟩; have hsl := seg_below hsl hb70)
                  | (go_at_call 10; (with_reducible refine (HRt.out _ hb70).mono ?_); rintro e w71 ⟨rfl, hb71⟩; have hb71 := Below.next hb70 hb71; have hr := (hb71.block _ (blk_cell HV.out.hr).2.2).trans HV.out.hr))
                (repeat ((fail_if_success (with_reducible show wpList _ _ _ (Oper.mk _ (Op.store _ _ _) _ _ _ _ :: _) _ _)); first | go_values | go_skip | go_guarded | go_step | go_upon))
                refine wpList_store_idle rfl 37 _ _ rfl rfl w.heap.size rfl (letC zeroL LS.none) rfl 37 hr info_dlet (letC_one _ _) ?_
                go_wp2_with fail
                exact bodyPost_ret (results_cell_tmp rfl _ _ w.heap.size 37 (letC zeroL LS.none) (0, 0) _ (.bool false) rfl rfl hr Try.underlying37 rfl info_dlet) rfl (DRd.no HP.out (Below.next HV.out.B hb71))
              | true =>
                have HP := Lib.hid (show readL l = some ({ mk0 v1 v2 v3 v4 with wants := ws, haves := hs, off := ov }) by rw [HLf.out]; rfl)
                clear hgd hgr
                generalize hXe : letC ({ mk0 v1 v2 v3 v4 with wants := ws, haves := hs, off := ov }) ({ LS.none with wa := ai, wn := ni, wc := ci, ha := aj, hn := nj, hc := cj }) = X at *
                have HXe := Lib.hid hXe
                clear hXe
                go_upto_region 43 with (first
                  | (go_at_call 54; (with_reducible refine HDn.out.mono ?_); rintro e w70 ⟨rfl, hb70⟩; have hsl := seg_below hsl hb70)
                  | (go_at_call 10; (with_reducible refine (HRt.out _ hb70).mono ?_); rintro e w71 ⟨rfl, hb71⟩; have hsl := seg_below hsl hb71; have hb71 := Below.next hb70 hb71; have hr := (hb71.block _ (blk_cell HV.out.hr).2.2).trans HV.out.hr; have hB71 := Below.next HV.out.B hb71))
                (repeat ((fail_if_success (with_reducible show wpList _ _ _ (Oper.mk _ (Op.store _ _ _) _ _ _ _ :: _) _ _)); first | go_values | go_skip | go_guarded | go_step | go_upon))
                refine wpList_store_seg rfl 37 _ _ rfl rfl w.heap.size 0 rfl X rfl 37 (letC zeroL LS.none) hr (by rw [hXs.out, letC_size _ _ rfl]; decide) (by rw [hXs.out]; exact info_dlet) hX1.out X (put_whole _ _ (by rw [hXs.out, letC_size _ _ rfl])) ?_
                intro w80 hq80 hg80 hs80
                clear hs80
                have hA80 := (HV.out.la.below hb71).grownAt HV.out.far hg80 (by have := HV.out.wp; have := HV.out.pq; omega)
                have hB80 := hB71.grown hg80 hB71.size (fun j hj => by cases hj; exact Nat.le_refl _)
                clear hsl hr hg80
                go_wp2_with fail
                exact bodyPost_ret (results_cell_tmp rfl _ _ w.heap.size 37 X (0, 0) _ (.bool true) rfl rfl hq80 Try.underlying37 rfl (by rw [hXs.out]; exact info_dlet)) rfl (HXe.out ▸ DRd.yes HP.out hB80 hA80)
          · by_cases hk4 : v1 = 4
            · have e2 : (v1 == 2) = false := by simp [hk4]
              have e3 : (v1 == 3) = false := by simp [hk4]
              have e4k : (v1 == 4) = true := by simp [hk4]
              obtain ⟨d, T1, F1⟩ : ∃ v S, getId S4 = (v, S) := ⟨_, _, rfl⟩
              obtain ⟨ov, T2, F2⟩ : ∃ v S, getNum 1048576 T1 = (v, S) := ⟨_, _, rfl⟩
              obtain ⟨tv, T3, F3⟩ : ∃ v S, getNum 1048576 T2 = (v, S) := ⟨_, _, rfl⟩
              obtain ⟨tx, T4, F4⟩ : ∃ v S, getText 500 T3 = (v, S) := ⟨_, _, rfl⟩
              have hT1 : RdBytes T1 := by have := hV.sb.getId; rwa [F1] at this
              have hT2 : RdBytes T2 := by have := hT1.getNum 1048576; rwa [F2] at this
              have hT3 : RdBytes T3 := by have := hT2.getNum 1048576; rwa [F3] at this
              have hT4 := hT3.getText 500
              have htl := getText_len (s := T3) 500 (by omega)
              have hd := getId_bytes hV.sb
              rw [F4] at hT4 htl
              rw [F1] at hd
              have HT := Lib.hid (show readTail (mk0 v1 v2 v3 v4) S4 = ({ mk0 v1 v2 v3 v4 with pack := d, off := ov, total := tv, data := tx }, T4) by rw [readTail_4 hk4, F1]; simp only [F2, F3, F4])
              have hd32 := hd.1
              have hts : (toS tx).size ≤ 140737488355328 := by rw [toS_size]; simp only at htl; omega
              have htS := strB_toS hT4.2
              have HtS := Lib.hid htS
              clear hk2 hk3 hk4 htS htl
              obtain ⟨ap, np, cp, bp, hbp, hip⟩ := hV.hp
              have c0p := (blk_cell hbp).1 0
              have c1p := (blk_cell hbp).1 1
              simp only [List.getElem?_toArray, List.getElem?_cons_zero, List.getElem?_cons_succ] at c0p c1p
              have hnI := rgid_any S4 ap np cp bp w w12 hV.B hip
              rw [F1] at hnI
              have HNI := Lib.hid hnI
              clear hnI
              go_wp2_with fail
              refine HNI.out.mono ?_
              rintro e w13 ⟨aI, nI, cI, bI, rfl, hbc, hiI⟩
              dsimp only
              have hV := hV.quiet hbc
              have hlI : q < w13.heap.size := (blk_cell hV.hq).2.2
              clear HNI hbc c0p c1p hbp
              (repeat ((fail_if_success (with_reducible show wpList _ _ _ (Oper.mk _ (Op.store _ _ _) _ _ _ _ :: _) _ _)); first | go_values | go_skip | go_guarded | go_step | go_upon))
              have hzA := blk0 w13 (idC zero32) 24
              have hzB := blk0 (w13.alloc (.cells (idC zero32) 24)) #[.slice none 0 0, .bool false] 86
              rw [show (w13.alloc (.cells (idC zero32) 24)).heap.size = w13.heap.size + 1 by simp] at hzB
              have hzA := (Below.heap_alloc (w13.alloc (.cells (idC zero32) 24)) (.cells #[.slice none 0 0, .bool false] 86) _ (blk_cell hzA).2.2).trans hzA
              have hb5 : Below w13.heap.size w13 ((w13.alloc (.cells (idC zero32) 24)).alloc (.cells #[.slice none 0 0, .bool false] 86)) := ((Below.refl _ _).alloc (Nat.le_refl _) _).alloc (by simp) _
              refine wpList_store_seg (w := (w13.alloc (.cells (idC zero32) 24)).alloc (.cells #[.slice none 0 0, .bool false] 86)) rfl 24 _ _ rfl rfl w13.heap.size 0 rfl (idC d) rfl 24 (idC zero32) hzA (by rw [idC_size hd32]; decide) (by rw [idC_size hd32]; exact size_arr) (cells_id d) (idC d) (put_whole _ _ (by rw [idC_size hd32]; rfl)) ?_
              intro w14 hq14 hg14 hs14
              have hzB := (hg14.block _ (blk_cell hzB).2.2 (by simp)).trans hzB
              (repeat ((fail_if_success (with_reducible show wpList _ _ _ (Oper.mk _ (Op.store _ _ _) _ _ _ _ :: _) _ _)); first | go_values | go_skip | go_guarded | go_step | go_upon))
              refine wpList_store_seg (w := w14) rfl 86 _ _ rfl rfl (w13.heap.size + 1) 0 rfl #[.slice aI nI cI, .bool bI] rfl 86 #[.slice none 0 0, .bool false] hzB (by simp) info_in one_in #[.slice aI nI cI, .bool bI] rfl ?_
              intro w15 hq15 hg15 hs15
              have hq14 := (hg15.block _ (blk_cell hq14).2.2 (by simp)).trans hq14
              have hb15 : Below w13.heap.size w13 w15 := (hb5.grown hg14 hb5.size (fun k hk => by cases hk; omega)).grown hg15 (by simp at hs14; omega) (fun k hk => by cases hk; omega)
              have hRI : RB w w15 (w13.heap.size + 1) T1 := ⟨aI, nI, cI, bI, hq15, hiI⟩
              have hV := hV.quiet hb15
              have hsd : w15.heap[w13.heap.size]? = some (.cells (idC d) 24 (0, 0)) := hq14
              clear hzA hzB hb5 hg14 hg15 hs14 hs15 hq14 hq15 hb15
              generalize w13.heap.size = pd at *
              obtain ⟨aI2, nI2, cI2, bI2, hbI2, hiI2⟩ := hRI
              have c0I2 := (blk_cell hbI2).1 0
              have c1I2 := (blk_cell hbI2).1 1
              simp only [List.getElem?_toArray, List.getElem?_cons_zero, List.getElem?_cons_succ] at c0I2 c1I2
              have hnJ := rgnum_any 1048576 T1 aI2 nI2 cI2 bI2 w w15 hV.B hiI2 hT1
              rw [F2] at hnJ
              have HNJ := Lib.hid hnJ
              clear hnJ
              go_wp2_with fail
              refine HNJ.out.mono ?_
              rintro e w16 ⟨aJ, nJ, cJ, bJ, rfl, hbc, hiJ⟩
              dsimp only
              have hV := hV.quiet hbc
              have hlJ : q < w16.heap.size := (blk_cell hV.hq).2.2
              have hsd := (hbc.block _ (blk_cell hsd).2.2).trans hsd
              clear HNJ hbc c0I2 c1I2 hbI2
              (repeat ((fail_if_success (with_reducible show wpList _ _ _ (Oper.mk _ (Op.store _ _ _) _ _ _ _ :: _) _ _)); first | go_values | go_skip | go_guarded | go_step | go_upon))
              have hzJ := blk0 w16 #[.slice none 0 0, .bool false] 86
              refine wpList_store_seg (w := w16.alloc (.cells #[.slice none 0 0, .bool false] 86)) rfl 86 _ _ rfl rfl w16.heap.size 0 rfl #[.slice aJ nJ cJ, .bool bJ] rfl 86 #[.slice none 0 0, .bool false] hzJ (by simp) info_in one_in #[.slice aJ nJ cJ, .bool bJ] rfl ?_
              intro w17 hqJ hgJ hsJ
              clear hsJ
              have hbJ' : Below w16.heap.size w16 w17 := (grow1' w16 #[.slice none 0 0, .bool false] 86).grown hgJ (by simp) (fun k hk => by cases hk; omega)
              have hRJ : RB w w17 w16.heap.size T2 := ⟨aJ, nJ, cJ, bJ, hqJ, hiJ⟩
              clear hzJ hgJ hqJ
              have hV := hV.quiet hbJ'
              have hltJ : q < w16.heap.size := hlJ
              have hsd := (hbJ'.block _ (blk_cell hsd).2.2).trans hsd
              clear hbJ'
              generalize w16.heap.size = pJ at *
              obtain ⟨aJ2, nJ2, cJ2, bJ2, hbJ2, hiJ2⟩ := hRJ
              have c0J2 := (blk_cell hbJ2).1 0
              have c1J2 := (blk_cell hbJ2).1 1
              simp only [List.getElem?_toArray, List.getElem?_cons_zero, List.getElem?_cons_succ] at c0J2 c1J2
              have hnK := rgnum_any 1048576 T2 aJ2 nJ2 cJ2 bJ2 w w17 hV.B hiJ2 hT2
              rw [F3] at hnK
              have HNK := Lib.hid hnK
              clear hnK
              go_wp2_with fail
              refine HNK.out.mono ?_
              rintro e w18 ⟨aK, nK, cK, bK, rfl, hbc, hiK⟩
              dsimp only
              have hV := hV.quiet hbc
              have hlK : q < w18.heap.size := (blk_cell hV.hq).2.2
              have hsd := (hbc.block _ (blk_cell hsd).2.2).trans hsd
              clear HNK hbc c0J2 c1J2 hbJ2
              (repeat ((fail_if_success (with_reducible show wpList _ _ _ (Oper.mk _ (Op.store _ _ _) _ _ _ _ :: _) _ _)); first | go_values | go_skip | go_guarded | go_step | go_upon))
              have hzK := blk0 w18 #[.slice none 0 0, .bool false] 86
              refine wpList_store_seg (w := w18.alloc (.cells #[.slice none 0 0, .bool false] 86)) rfl 86 _ _ rfl rfl w18.heap.size 0 rfl #[.slice aK nK cK, .bool bK] rfl 86 #[.slice none 0 0, .bool false] hzK (by simp) info_in one_in #[.slice aK nK cK, .bool bK] rfl ?_
              intro w19 hqK hgK hsK
              clear hsK
              have hbK' : Below w18.heap.size w18 w19 := (grow1' w18 #[.slice none 0 0, .bool false] 86).grown hgK (by simp) (fun k hk => by cases hk; omega)
              have hRK : RB w w19 w18.heap.size T3 := ⟨aK, nK, cK, bK, hqK, hiK⟩
              clear hzK hgK hqK
              have hV := hV.quiet hbK'
              have hltK : q < w18.heap.size := hlK
              have hsd := (hbK'.block _ (blk_cell hsd).2.2).trans hsd
              clear hbK'
              generalize w18.heap.size = pK at *
              obtain ⟨aK2, nK2, cK2, bK2, hbK2, hiK2⟩ := hRK
              have c0K2 := (blk_cell hbK2).1 0
              have c1K2 := (blk_cell hbK2).1 1
              simp only [List.getElem?_toArray, List.getElem?_cons_zero, List.getElem?_cons_succ] at c0K2 c1K2
              have hnO := rgtext_any 500 T3 aK2 nK2 cK2 bK2 w w19 hV.B hiK2 hT3
              rw [F4] at hnO
              have HNO := Lib.hid hnO
              clear hnO
              go_wp2_with fail
              refine HNO.out.mono ?_
              rintro e w20 ⟨aO, nO, cO, bO, rfl, hbc, hiO⟩
              dsimp only
              have hV := hV.quiet hbc
              have hlO : q < w20.heap.size := (blk_cell hV.hq).2.2
              have hsd := (hbc.block _ (blk_cell hsd).2.2).trans hsd
              clear HNO hbc c0K2 c1K2 hbK2
              (repeat ((fail_if_success (with_reducible show wpList _ _ _ (Oper.mk _ (Op.store _ _ _) _ _ _ _ :: _) _ _)); first | go_values | go_skip | go_guarded | go_step | go_upon))
              have hzO := blk0 w20 #[.slice none 0 0, .bool false] 86
              refine wpList_store_seg (w := w20.alloc (.cells #[.slice none 0 0, .bool false] 86)) rfl 86 _ _ rfl rfl w20.heap.size 0 rfl #[.slice aO nO cO, .bool bO] rfl 86 #[.slice none 0 0, .bool false] hzO (by simp) info_in one_in #[.slice aO nO cO, .bool bO] rfl ?_
              intro w21 hqO hgO hsO
              clear hsO
              have hbO' : Below w20.heap.size w20 w21 := (grow1' w20 #[.slice none 0 0, .bool false] 86).grown hgO (by simp) (fun k hk => by cases hk; omega)
              have hRO : RB w w21 w20.heap.size T4 := ⟨aO, nO, cO, bO, hqO, hiO⟩
              clear hzO hgO hqO
              have hV := hV.quiet hbO'
              have hltO : q < w20.heap.size := hlO
              have hsd := (hbO'.block _ (blk_cell hsd).2.2).trans hsd
              clear hbO'
              generalize w20.heap.size = pO at *
              have hsx := seg_of hsd 0 32 (by rw [idC_size hd32]; omega) (show (idC d).extract 0 (0 + 32) = idC d by have := idC_size hd32; rw [Nat.zero_add, ← this, Array.extract_size])
              (repeat ((fail_if_success (with_reducible show wpList _ _ _ (Oper.mk _ (Op.store _ _ _) _ _ _ _ :: _) _ _)); first | go_values | go_skip | go_guarded | go_step | go_upon))
              refine wpList_store_seg (w := w21) rfl 24 _ _ rfl rfl q 9 rfl (idC d) rfl 37 (letC (mk0 v1 v2 v3 v4) LS.none) hV.hq (by rw [idC_size hd32, letC_size _ _ rfl]; decide) (by rw [idC_size hd32]; exact size_arr) (cells_id d) (letC ({ mk0 v1 v2 v3 v4 with pack := d }) LS.none) (put_pk _ _ _ rfl hd32) ?_
              intro w22 hq22 hg22 hs22
              clear hs22 hsx
              have hRO := hRO.grown hg22 (by omega)
              have hV := hV.setQ hg22 hq22 ⟨hV.la.refs, hV.la.wants, hV.la.haves, hV.la.data, hd32, hV.la.bytes, hd.2⟩ hV.far
              clear hq22 hg22 hsd
              have cf := (blk_cell hV.hq).1 7
              have ff := (blk_cell hV.hq).2.1 7
              rw [show (letC ({ mk0 v1 v2 v3 v4 with pack := d }) LS.none)[7]? = some (.int .i64 0) from rfl] at cf
              go_upto_region 38 with fail
              clear cf ff
              have hRO := hRO.grown (grown_set _ q 7 (.int .i64 ov)) (by omega)
              have hV := hV.setQ (l' := { mk0 v1 v2 v3 v4 with pack := d, off := ov }) (s' := LS.none) (grown_set _ q 7 (.int .i64 ov)) ((heap_setCell_same _ q 7 _ _ (.int .i64 ov) hV.hq).trans rfl) ⟨hV.la.refs, hV.la.wants, hV.la.haves, hV.la.data, hV.la.pack, hV.la.bytes, hV.la.packb⟩ hV.far
              generalize w22.setCell ⟨q, 7, none⟩ (.int .i64 ov) = w23 at *
              have cf := (blk_cell hV.hq).1 8
              have ff := (blk_cell hV.hq).2.1 8
              rw [show (letC ({ mk0 v1 v2 v3 v4 with pack := d, off := ov }) LS.none)[8]? = some (.int .i64 0) from rfl] at cf
              go_upto_region 39 with fail
              clear cf ff
              have hRO := hRO.grown (grown_set _ q 8 (.int .i64 tv)) (by omega)
              have hV := hV.setQ (l' := { mk0 v1 v2 v3 v4 with pack := d, off := ov, total := tv }) (s' := LS.none) (grown_set _ q 8 (.int .i64 tv)) ((heap_setCell_same _ q 8 _ _ (.int .i64 tv) hV.hq).trans rfl) ⟨hV.la.refs, hV.la.wants, hV.la.haves, hV.la.data, hV.la.pack, hV.la.bytes, hV.la.packb⟩ hV.far
              generalize w23.setCell ⟨q, 8, none⟩ (.int .i64 tv) = w24 at *
              obtain ⟨w25, cc, hconv, hb25, hbs⟩ := conv_str (toS tx) w24 hts
              rw [HtS.out] at hbs
              have hV5 := hV.quiet hb25
              have hRO := hRO.below hb25
              have cf : w25.cell? ⟨q, 41, none⟩ = some (.slice none 0 0) := (blk_cell hV5.hq).1 41 |>.trans (by simp [letC, LS.none, hd32])
              have ff := (blk_cell hV5.hq).2.1 41
              have hl24 : q < w24.heap.size := (blk_cell hV.hq).2.2
              have HV5 := Lib.hid hV5
              clear hV5 hV
              go_upto_region 40 with fail
              clear cf ff hconv
              have hRO := hRO.grown (grown_set _ q 41 (.slice (some ⟨w24.heap.size, 0, none⟩) (toS tx).size cc)) (by omega)
              have hV := HV5.out.setQ (l' := { mk0 v1 v2 v3 v4 with pack := d, off := ov, total := tv, data := tx }) (s' := { LS.none with da := some ⟨w24.heap.size, 0, none⟩, dn := (toS tx).size, dc := cc }) (grown_set _ q 41 (.slice (some ⟨w24.heap.size, 0, none⟩) (toS tx).size cc)) ((heap_setCell_same _ q 41 _ _ _ HV5.out.hq).trans (by rw [set_last _ _ _ _ _ tx hd32])) ⟨HV5.out.la.refs, HV5.out.la.wants, HV5.out.la.haves, hbs, HV5.out.la.pack, hT4.2, HV5.out.la.packb⟩ (fun x hx => by rcases hx with h | h | h | h; (cases h); (cases h); (cases h); (cases h; exact hl24))
              clear HV5 hb25 hbs
              generalize w25.setCell ⟨q, 41, none⟩ (.slice (some ⟨w24.heap.size, 0, none⟩) (toS tx).size cc) = w26 at *
              obtain ⟨af, nf, cf, bf, hbf, hif⟩ := hRO
              have c0f := (blk_cell hbf).1 0
              have c1f := (blk_cell hbf).1 1
              simp only [List.getElem?_toArray, List.getElem?_cons_zero, List.getElem?_cons_succ] at c0f c1f
              (repeat ((fail_if_success (with_reducible show wpList _ _ _ (Oper.mk _ (Op.store _ _ _) _ _ _ _ :: _) _ _)); first | go_values | go_skip | go_guarded | go_step | go_upon))
              obtain ⟨ao, no, co, bo, hbo, _⟩ := hV.hp
              refine wpList_store_seg (w := w26) rfl 86 _ _ rfl rfl p 0 rfl #[.slice af nf cf, .bool bf] rfl 86 #[.slice ao no co, .bool bo] hbo (by simp) info_in one_in #[.slice af nf cf, .bool bf] rfl ?_
              intro w27 hqe hge hse
              clear hse
              have hV := hV.setP hge hqe hif hT4.1
              clear hqe hge hbo hbf hif c0f c1f
              have HLf := Lib.hid (show readL l = if doneB (T4) && rightB ({ mk0 v1 v2 v3 v4 with pack := d, off := ov, total := tv, data := tx }) then some ({ mk0 v1 v2 v3 v4 with pack := d, off := ov, total := tv, data := tx }) else none by rw [HL.out, HT.out])
              obtain ⟨az, nz, cz, bz, hbz, hiz⟩ := hV.hp
              have c0z := (blk_cell hbz).1 0
              have c1z := (blk_cell hbz).1 1
              simp only [List.getElem?_toArray, List.getElem?_cons_zero, List.getElem?_cons_succ] at c0z c1z
              have hsl := seg_let hV.hq hV.la.pack
              have HDn := Lib.hid (rgdone_any (T4) az nz cz bz w w27 hiz)
              have HRt := Lib.hid (fun W (hb : Below w27.heap.size w27 W) => dright_any ({ mk0 v1 v2 v3 v4 with pack := d, off := ov, total := tv, data := tx }) ({ LS.none with da := some ⟨w24.heap.size, 0, none⟩, dn := (toS tx).size, dc := cc }) W (hV.la.below hb))
              have HV := Lib.hid hV
              have hX1 := Lib.hid (letC_one ({ mk0 v1 v2 v3 v4 with pack := d, off := ov, total := tv, data := tx }) ({ LS.none with da := some ⟨w24.heap.size, 0, none⟩, dn := (toS tx).size, dc := cc }))
              have hXs := Lib.hid (letC_size ({ mk0 v1 v2 v3 v4 with pack := d, off := ov, total := tv, data := tx }) ({ LS.none with da := some ⟨w24.heap.size, 0, none⟩, dn := (toS tx).size, dc := cc }) hV.la.pack)
              clear hbz hiz hV
              generalize hgd : doneB (T4) = dn at *
              generalize hgr : rightB ({ mk0 v1 v2 v3 v4 with pack := d, off := ov, total := tv, data := tx }) = rt at *
              cases dn with
              | false =>
                have HP := Lib.hid (show readL l = none by rw [HLf.out]; rfl)
                clear hgd hgr
                go_upto_region 42 with (go_at_call 54; (with_reducible refine HDn.out.mono ?_); rintro e w70 ⟨rfl, hb70⟩; have hr := (hb70.block _ (blk_cell HV.out.hr).2.2).trans HV.out.hr)
                (repeat ((fail_if_success (with_reducible show wpList _ _ _ (Oper.mk _ (Op.store _ _ _) _ _ _ _ :: _) _ _)); first | go_values | go_skip | go_guarded | go_step | go_upon))
                refine wpList_store_idle rfl 37 _ _ rfl rfl w.heap.size rfl (letC zeroL LS.none) rfl 37 hr info_dlet (letC_one _ _) ?_
                go_wp2_with fail
                exact bodyPost_ret (results_cell_tmp rfl _ _ w.heap.size 37 (letC zeroL LS.none) (0, 0) _ (.bool false) rfl rfl hr Try.underlying37 rfl info_dlet) rfl (DRd.no HP.out (Below.next HV.out.B hb70))
              | true =>
                cases rt with
                | false =>
                  have HP := Lib.hid (show readL l = none by rw [HLf.out]; rfl)
                  clear hgd hgr
                  generalize letC ({ mk0 v1 v2 v3 v4 with pack := d, off := ov, total := tv, data := tx }) ({ LS.none with da := some ⟨w24.heap.size, 0, none⟩, dn := (toS tx).size, dc := cc }) = X at *
                  go_upto_region 42 with (first
                    | (go_at_call 54; (with_reducible refine HDn.out.mono ?_); rintro e w70 ⟨rfl, hb70⟩; have hsl := seg_below hsl hb70)
                    | (go_at_call 10; (with_reducible refine (HRt.out _ hb70).mono ?_); rintro e w71 ⟨rfl, hb71⟩; have hb71 := Below.next hb70 hb71; have hr := (hb71.block _ (blk_cell HV.out.hr).2.2).trans HV.out.hr))
                  (repeat ((fail_if_success (with_reducible show wpList _ _ _ (Oper.mk _ (Op.store _ _ _) _ _ _ _ :: _) _ _)); first | go_values | go_skip | go_guarded | go_step | go_upon))
                  refine wpList_store_idle rfl 37 _ _ rfl rfl w.heap.size rfl (letC zeroL LS.none) rfl 37 hr info_dlet (letC_one _ _) ?_
                  go_wp2_with fail
                  exact bodyPost_ret (results_cell_tmp rfl _ _ w.heap.size 37 (letC zeroL LS.none) (0, 0) _ (.bool false) rfl rfl hr Try.underlying37 rfl info_dlet) rfl (DRd.no HP.out (Below.next HV.out.B hb71))
                | true =>
                  have HP := Lib.hid (show readL l = some ({ mk0 v1 v2 v3 v4 with pack := d, off := ov, total := tv, data := tx }) by rw [HLf.out]; rfl)
                  clear hgd hgr
                  generalize hXe : letC ({ mk0 v1 v2 v3 v4 with pack := d, off := ov, total := tv, data := tx }) ({ LS.none with da := some ⟨w24.heap.size, 0, none⟩, dn := (toS tx).size, dc := cc }) = X at *
                  have HXe := Lib.hid hXe
                  clear hXe
                  go_upto_region 43 with (first
                    | (go_at_call 54; (with_reducible refine HDn.out.mono ?_); rintro e w70 ⟨rfl, hb70⟩; have hsl := seg_below hsl hb70)
                    | (go_at_call 10; (with_reducible refine (HRt.out _ hb70).mono ?_); rintro e w71 ⟨rfl, hb71⟩; have hsl := seg_below hsl hb71; have hb71 := Below.next hb70 hb71; have hr := (hb71.block _ (blk_cell HV.out.hr).2.2).trans HV.out.hr; have hB71 := Below.next HV.out.B hb71))
                  (repeat ((fail_if_success (with_reducible show wpList _ _ _ (Oper.mk _ (Op.store _ _ _) _ _ _ _ :: _) _ _)); first | go_values | go_skip | go_guarded | go_step | go_upon))
                  refine wpList_store_seg rfl 37 _ _ rfl rfl w.heap.size 0 rfl X rfl 37 (letC zeroL LS.none) hr (by rw [hXs.out, letC_size _ _ rfl]; decide) (by rw [hXs.out]; exact info_dlet) hX1.out X (put_whole _ _ (by rw [hXs.out, letC_size _ _ rfl])) ?_
                  intro w80 hq80 hg80 hs80
                  clear hs80
                  have hA80 := (HV.out.la.below hb71).grownAt HV.out.far hg80 (by have := HV.out.wp; have := HV.out.pq; omega)
                  have hB80 := hB71.grown hg80 hB71.size (fun j hj => by cases hj; exact Nat.le_refl _)
                  clear hsl hr hg80
                  go_wp2_with fail
                  exact bodyPost_ret (results_cell_tmp rfl _ _ w.heap.size 37 X (0, 0) _ (.bool true) rfl rfl hq80 Try.underlying37 rfl (by rw [hXs.out]; exact info_dlet)) rfl (HXe.out ▸ DRd.yes HP.out hB80 hA80)
            · have e2 : (v1 == 2) = false := by simp [hk2]
              have e3 : (v1 == 3) = false := by simp [hk3]
              have e4k : (v1 == 4) = false := by simp [hk4]
              have HT := Lib.hid (readTail_0 (f := v2) (t := v3) (n := v4) (S := S4) hk2 hk3 hk4)
              clear hk2 hk3 hk4
              have HLf := Lib.hid (show readL l = if doneB (S4) && rightB (mk0 v1 v2 v3 v4) then some (mk0 v1 v2 v3 v4) else none by rw [HL.out, HT.out])
              obtain ⟨az, nz, cz, bz, hbz, hiz⟩ := hV.hp
              have c0z := (blk_cell hbz).1 0
              have c1z := (blk_cell hbz).1 1
              simp only [List.getElem?_toArray, List.getElem?_cons_zero, List.getElem?_cons_succ] at c0z c1z
              have hsl := seg_let hV.hq hV.la.pack
              have HDn := Lib.hid (rgdone_any (S4) az nz cz bz w w12 hiz)
              have HRt := Lib.hid (fun W (hb : Below w12.heap.size w12 W) => dright_any (mk0 v1 v2 v3 v4) (LS.none) W (hV.la.below hb))
              have HV := Lib.hid hV
              have hX1 := Lib.hid (letC_one (mk0 v1 v2 v3 v4) (LS.none))
              have hXs := Lib.hid (letC_size (mk0 v1 v2 v3 v4) (LS.none) hV.la.pack)
              clear hbz hiz hV
              generalize hgd : doneB (S4) = dn at *
              generalize hgr : rightB (mk0 v1 v2 v3 v4) = rt at *
              cases dn with
              | false =>
                have HP := Lib.hid (show readL l = none by rw [HLf.out]; rfl)
                clear hgd hgr
                go_upto_region 42 with (go_at_call 54; (with_reducible refine HDn.out.mono ?_); rintro e w70 ⟨rfl, hb70⟩; have hr := (hb70.block _ (blk_cell HV.out.hr).2.2).trans HV.out.hr)
                (repeat ((fail_if_success (with_reducible show wpList _ _ _ (Oper.mk _ (Op.store _ _ _) _ _ _ _ :: _) _ _)); first | go_values | go_skip | go_guarded | go_step | go_upon))
                refine wpList_store_idle rfl 37 _ _ rfl rfl w.heap.size rfl (letC zeroL LS.none) rfl 37 hr info_dlet (letC_one _ _) ?_
                go_wp2_with fail
                exact bodyPost_ret (results_cell_tmp rfl _ _ w.heap.size 37 (letC zeroL LS.none) (0, 0) _ (.bool false) rfl rfl hr Try.underlying37 rfl info_dlet) rfl (DRd.no HP.out (Below.next HV.out.B hb70))
              | true =>
                cases rt with
                | false =>
                  have HP := Lib.hid (show readL l = none by rw [HLf.out]; rfl)
                  clear hgd hgr
                  generalize letC (mk0 v1 v2 v3 v4) (LS.none) = X at *
                  go_upto_region 42 with (first
                    | (go_at_call 54; (with_reducible refine HDn.out.mono ?_); rintro e w70 ⟨rfl, hb70⟩; have hsl := seg_below hsl hb70)
                    | (go_at_call 10; (with_reducible refine (HRt.out _ hb70).mono ?_); rintro e w71 ⟨rfl, hb71⟩; have hb71 := Below.next hb70 hb71; have hr := (hb71.block _ (blk_cell HV.out.hr).2.2).trans HV.out.hr))
                  (repeat ((fail_if_success (with_reducible show wpList _ _ _ (Oper.mk _ (Op.store _ _ _) _ _ _ _ :: _) _ _)); first | go_values | go_skip | go_guarded | go_step | go_upon))
                  refine wpList_store_idle rfl 37 _ _ rfl rfl w.heap.size rfl (letC zeroL LS.none) rfl 37 hr info_dlet (letC_one _ _) ?_
                  go_wp2_with fail
                  exact bodyPost_ret (results_cell_tmp rfl _ _ w.heap.size 37 (letC zeroL LS.none) (0, 0) _ (.bool false) rfl rfl hr Try.underlying37 rfl info_dlet) rfl (DRd.no HP.out (Below.next HV.out.B hb71))
                | true =>
                  have HP := Lib.hid (show readL l = some (mk0 v1 v2 v3 v4) by rw [HLf.out]; rfl)
                  clear hgd hgr
                  generalize hXe : letC (mk0 v1 v2 v3 v4) (LS.none) = X at *
                  have HXe := Lib.hid hXe
                  clear hXe
                  go_upto_region 43 with (first
                    | (go_at_call 54; (with_reducible refine HDn.out.mono ?_); rintro e w70 ⟨rfl, hb70⟩; have hsl := seg_below hsl hb70)
                    | (go_at_call 10; (with_reducible refine (HRt.out _ hb70).mono ?_); rintro e w71 ⟨rfl, hb71⟩; have hsl := seg_below hsl hb71; have hb71 := Below.next hb70 hb71; have hr := (hb71.block _ (blk_cell HV.out.hr).2.2).trans HV.out.hr; have hB71 := Below.next HV.out.B hb71))
                  (repeat ((fail_if_success (with_reducible show wpList _ _ _ (Oper.mk _ (Op.store _ _ _) _ _ _ _ :: _) _ _)); first | go_values | go_skip | go_guarded | go_step | go_upon))
                  refine wpList_store_seg rfl 37 _ _ rfl rfl w.heap.size 0 rfl X rfl 37 (letC zeroL LS.none) hr (by rw [hXs.out, letC_size _ _ rfl]; decide) (by rw [hXs.out]; exact info_dlet) hX1.out X (put_whole _ _ (by rw [hXs.out, letC_size _ _ rfl])) ?_
                  intro w80 hq80 hg80 hs80
                  clear hs80
                  have hA80 := (HV.out.la.below hb71).grownAt HV.out.far hg80 (by have := HV.out.wp; have := HV.out.pq; omega)
                  have hB80 := hB71.grown hg80 hB71.size (fun j hj => by cases hj; exact Nat.le_refl _)
                  clear hsl hr hg80
                  go_wp2_with fail
                  exact bodyPost_ret (results_cell_tmp rfl _ _ w.heap.size 37 X (0, 0) _ (.bool true) rfl rfl hq80 Try.underlying37 rfl (by rw [hXs.out]; exact info_dlet)) rfl (HXe.out ▸ DRd.yes HP.out hB80 hA80)
      · have hne : (((unfour (l.drop m) : Nat) : Int) != ((sumL (l.take m) : Nat) : Int)) = true := by simp; omega
        have HP := Lib.hid (readL_sum (b := l) (by rw [HN.out, HM.out, Nat.add_sub_cancel]; exact hs))
        clear hs
        go_upto_region 6 with (go_at_call 48; (with_reducible refine (HSm.out _ hB).mono ?_); rintro e w3 ⟨rfl, hb3⟩; have hr := (hb3.block _ (blk_cell hr).2.2).trans hr; have hB := Below.next hB hb3)
        (repeat ((fail_if_success (with_reducible show wpList _ _ _ (Oper.mk _ (Op.store _ _ _) _ _ _ _ :: _) _ _)); first | go_values | go_skip | go_guarded | go_step | go_upon))
        refine wpList_store_idle rfl 37 _ _ rfl rfl w.heap.size rfl (letC zeroL LS.none) rfl 37 hr info_dlet (letC_one _ _) ?_
        go_wp2_with fail
        exact bodyPost_ret (results_cell_tmp rfl _ _ w.heap.size 37 (letC zeroL LS.none) (0, 0) _ (.bool false) rfl rfl hr Try.underlying37 rfl info_dlet) rfl (DRd.no HP.out hB)

end Go.Proofs.Ytfjbmgfkfeehnaa
