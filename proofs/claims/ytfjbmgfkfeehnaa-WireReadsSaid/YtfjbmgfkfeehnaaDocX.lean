/- A right letter's bytes, the document's way: Write. -/
import Derived.Test.YtfjbmgfkfeehnaaDocW
namespace Go.Proofs.Ytfjbmgfkfeehnaa
open Go.RowKit

theorem wid_any' (d : List Int) (w : World) (hd : d.length = 32) : Calls Try.prog 45 #[.agg (idF d).toArray] w (RetB w d) := wid_any d w hd
theorem idsL_len {l : List (List Int)} (h : ∀ d ∈ l, d.length = 32 ∧ IsBytes d) : (idsL l).length ≤ 9 + l.length * 32 := by
  have h1 := numL_len (l.length : Int)
  have h2 := flat_len l h
  simp only [idsL, List.length_append]
  omega
theorem Rfs.idrange {w w' : World} {a : Option Addr} {n c : Nat} {l : List RfL} (h : Rfs w a n c l) {b off : Nat} (ha : a = some ⟨b, off, none⟩) {i : Nat} {r : RfL} (hr : l[i]? = some r) (hb : Below w.heap.size w w') : w'.rangeAt b (off + i * 33 + 1) (idF r.id) := by
  obtain ⟨hi, rfl⟩ := List.getElem?_eq_some_iff.1 hr
  have hn := h.len
  have hid := (h.all _ (List.getElem_mem hi)).1.1
  obtain ⟨b', off', e, hc⟩ := h.row.cells (by omega)
  rw [ha] at e
  cases e
  have h33 := rowC_at (k := 33) (f := rfF) l (fun x hx => rfF_len (h.all x hx).1.1) i hi
  intro j v hv
  have hj : j < 32 := by
    rcases Nat.lt_or_ge j 32 with h | h
    · exact h
    · rw [List.getElem?_eq_none (by rw [idF_len hid]; exact h)] at hv
      cases hv
  refine Below.old hb (Nat.le_refl _) ?_
  rw [show off + i * 33 + 1 + j = off + (i * 33 + (1 + j)) by omega, hc _ (by omega)]
  have h2 : (((rowC 33 rfF l).drop (i * 33)).take 33)[1 + j]? = (rfF l[i])[1 + j]? := by rw [h33]
  rw [List.getElem?_take_of_lt (by omega), List.getElem?_drop] at h2
  rw [h2]
  simpa [rfF, idF, Nat.add_comm 1 j] using hv
theorem Bs.cast {w : World} {a : Option Addr} {n c : Nat} {l l' : List Int} (h : Bs w a n c l) (e : l = l') : Bs w a n c l' := e ▸ h

set_option maxRecDepth 100000 in
set_option maxHeartbeats 8000000 in
theorem dwrite_any (l : LetL) (s : LS) (w : World) (h : LetA w l s) (hr : rightB l = true) :
    Calls Try.prog 17 #[.agg (letC l s)] w (RetB w (wireL l)) := by
  obtain ⟨hsz, x0, x1, x2, x3, x4, x5, x6, x7, x8, x41, xp, xa⟩ := letC_x l s h.pack
  have hx := blk0 w (letC l s) 37
  have hB0 : Below w.heap.size w (w.alloc (.cells (letC l s) 37)) := (Below.refl _ _).alloc (Nat.le_refl _) _
  have hHA := h.below hB0
  have hpk := h.pack
  have HO := Lib.hid h.ok
  have HR := Lib.hid hr
  have HBb := Lib.hid (body_bytes h.ok)
  have HBl := Lib.hid (body_len hr h.ok)
  have n1 := numL_len l.kind
  have n2 := numL_len l.from_
  have n3 := numL_len l.to_
  have n4 := numL_len l.session
  have HL1 := Lib.hid (show ([] : List Int).length + 9 ≤ 140737488355328 by simp)
  have HL2 := Lib.hid (show ([] ++ numL l.kind).length + 9 ≤ 140737488355328 by simp only [List.length_append, List.length_nil]; omega)
  have HL3 := Lib.hid (show ([] ++ numL l.kind ++ numL l.from_).length + 9 ≤ 140737488355328 by simp only [List.length_append, List.length_nil]; omega)
  have HL4 := Lib.hid (show ([] ++ numL l.kind ++ numL l.from_ ++ numL l.to_).length + 9 ≤ 140737488355328 by simp only [List.length_append, List.length_nil]; omega)
  have HX0 := Lib.hid (show [] ++ numL l.kind ++ numL l.from_ ++ numL l.to_ ++ numL l.session = (nums l).flatMap numL by simp [nums])
  clear h hr xa n1 n2 n3 n4
  generalize letC l s = X at *
  go_enter Try.func17, Try.ntmps17
  go_upto_region 1 with fail
  generalize w.alloc (.cells X 37) = W0 at *
  have hcx := (blk_cell hx).1
  have g0 := (hcx 0).trans x0
  have g1 := (hcx 1).trans x1
  have g2 := (hcx 2).trans x2
  have g3 := (hcx 3).trans x3
  have hS : W0.cell? ⟨w.heap.size, 0, none⟩ = some (.int .i64 l.kind) ∧ W0.cell? ⟨w.heap.size, 1, none⟩ = some (.int .i64 l.from_) ∧ W0.cell? ⟨w.heap.size, 2, none⟩ = some (.int .i64 l.to_) ∧ W0.cell? ⟨w.heap.size, 3, none⟩ = some (.int .i64 l.session) := ⟨g0, g1, g2, g3⟩
  have HSk := Lib.hid (show ∀ W', Below W0.heap.size W0 W' → W'.cell? ⟨w.heap.size, 0, none⟩ = some (.int .i64 l.kind) ∧ W'.cell? ⟨w.heap.size, 1, none⟩ = some (.int .i64 l.from_) ∧ W'.cell? ⟨w.heap.size, 2, none⟩ = some (.int .i64 l.to_) ∧ W'.cell? ⟨w.heap.size, 3, none⟩ = some (.int .i64 l.session) from
    fun W' hb => ⟨Below.old hb (Nat.le_refl _) g0, Below.old hb (Nat.le_refl _) g1, Below.old hb (Nat.le_refl _) g2, Below.old hb (Nat.le_refl _) g3⟩)
  have hBa := (Below.refl W0.heap.size W0).drew
  have hBd := ((Below.refl W0.heap.size W0).alloc (Nat.le_refl _) (.cells #[] 5)).drew
  have HX := Lib.hid hx
  have HC := Lib.hid hcx
  clear hx hcx g0 g1 g2 g3
  go_region_held3 (fun w' => w'.cell? ⟨w.heap.size, 0, none⟩ = some (.int .i64 l.kind) ∧ w'.cell? ⟨w.heap.size, 1, none⟩ = some (.int .i64 l.from_) ∧ w'.cell? ⟨w.heap.size, 2, none⟩ = some (.int .i64 l.to_) ∧ w'.cell? ⟨w.heap.size, 3, none⟩ = some (.int .i64 l.session)) (first | assumption | (with_reducible exact HSk.out _ (by assumption)))
    (first
      | (go_at_call 42; (with_reducible refine (dnum_any _ 0 _ [] l.kind _ (Bs.none0 rfl rfl (by decide)) HL1.out).mono ?_); rintro e w1 ⟨a1, k1, c1, rfl, hb1, hown1⟩; have hs1 := own_bs hown1; have hBd := Below.next hBd hb1)
      | (go_at_call 42; (with_reducible refine (dnum_any _ _ _ _ l.from_ _ hs1 HL2.out).mono ?_); rintro e w2 ⟨a2, k2, c2, rfl, hb2, hown2⟩; have hs2 := own_bs hown2; have hBd := Below.next hBd hb2)
      | (go_at_call 42; (with_reducible refine (dnum_any _ _ _ _ l.to_ _ hs2 HL3.out).mono ?_); rintro e w3 ⟨a3, k3, c3, rfl, hb3, hown3⟩; have hs3 := own_bs hown3; have hBd := Below.next hBd hb3)
      | (go_at_call 42; (with_reducible refine (dnum_any _ _ _ _ l.session _ hs3 HL4.out).mono ?_); rintro e w4 ⟨a4, k4, c4, rfl, hb4, hown4⟩; have hs4 := own_bs hown4; have hBe := Below.next hBd hb4))
  have hB4 := Below.next hB0 hBe
  have hx := (hBe.block _ (blk_cell HX.out).2.2).trans HX.out
  have hHA := hHA.below hBe
  have hs4 := Bs.cast hs4 HX0.out
  have hO4 := own_base (base' := w.heap.size) hown4 (Below.next hB0 hBd).size
  rw [HX0.out] at hO4
  have HO4 := Lib.hid hO4
  clear hO4 hown1 hown2 hown3 hown4 hs1 hs2 hs3 hb1 hb2 hb3 hb4 hBd hBa hBe hS HSk HX HC hB0
  by_cases hk2 : l.kind = 2
  · have e2 : (l.kind == 2) = true := by simp [hk2]
    have HT := Lib.hid (show bodyL l = (nums l).flatMap numL ++ numL l.refs.length ++ l.refs.flatMap refB by simp only [bodyL, tailL, if_pos hk2, rfsL, List.append_assoc])
    have hrr := right_k2 HR.out hk2
    have HRr := Lib.hid hrr
    have HRl := Lib.hid hHA.refs.len
    have hrn : s.rn ≤ 100 := by have := rfs_len hrr; have h2 := HRl.out; omega
    have hlx : ((nums l).flatMap numL).length + 9 ≤ 140737488355328 := by
      have := nums_len (nums l)
      simp only [nums, List.length_cons, List.length_nil] at this ⊢
      omega
    have HA := Lib.hid hHA.refs
    have hc4 := ((blk_cell hx).1 4).trans x4
    have c0 := ((blk_cell hx).1 0).trans x0
    clear hrr hHA
    go_upto_region 6 with (go_at_call 42; (with_reducible refine (dnum_any _ _ _ _ _ _ hs4 hlx).mono ?_); rintro e w5 ⟨a5, k5, c5, rfl, hb5, hown5⟩; have hc4 := Below.old hb5 (Nat.le_refl _) hc4)
    have HK5 := Lib.hid (retB_len hown5)
    have HO5 := Lib.hid (own_base (base' := w.heap.size) hown5 hB4.size)
    have hB5 := Below.next hB4 hb5
    have HA5 := Lib.hid (HA.out.below hb5)
    have hx := (hb5.block _ (blk_cell hx).2.2).trans hx
    have HX5 := Lib.hid hx
    clear hown5 hb5 hs4 c0 hx hc4
    go_loopw [3, 4] (fun v i wz => ∃ (j : Nat) (ys : List Int), j ≤ s.rn ∧ i = .int .i64 j ∧ ys = (nums l).flatMap numL ++ numL l.refs.length ++ (l.refs.take j).flatMap refB ∧ wz.ownsRow w.heap.size 5 1 v ys.length (ys.map (Value.int .u8)) ∧ Below w5.heap.size w5 wz) (fun _ i _ => s.rn - (intOf i).toNat)
    case atStart =>
      refine ⟨0, (nums l).flatMap numL ++ numL l.refs.length, Nat.zero_le _, rfl, by simp, ?_, Below.refl _ _⟩
      rw [HRl.out]
      exact HK5.out ▸ HO5.out
    case round =>
      obtain ⟨j, ys, hj, rfl, hys, hown, hbz⟩ := hrel
      have HY := Lib.hid hys
      clear hys
      obtain ⟨aa, cc, rfl, hss⟩ := own_form hown
      have hbv : Bs wr aa ys.length cc ys := hss
      have hx := (hbz.block _ (blk_cell HX5.out).2.2).trans HX5.out
      have hBw := Below.next hB5 hbz
      clear hss
      by_cases hjn : j < s.rn
      · obtain ⟨b, off, hab, hc⟩ := HA5.out.seg (by omega)
        obtain ⟨r, hr⟩ : ∃ r, l.refs[j]? = some r := ⟨_, List.getElem?_eq_getElem (by have := HRl.out; omega)⟩
        have G := hc j r hr
        have lr := G.1.1.1
        have hnm := (nameB_size (rfs_name HRr.out (List.mem_of_getElem? hr))).2
        have hnm0 : r.name.size ≤ 140737488351232 := by omega
        have q1 := Below.old hbz (Nat.le_refl _) (HA5.out.name hab hr)
        have q2 := Rfs.idrange HA5.out hab hr hbz
        rw [hab] at x4
        have hc4 := ((blk_cell hx).1 4).trans x4
        have HRj := Lib.hid hr
        have hyl : ys.length + 200 ≤ 140737488355328 := by
          have h1 := HBl.out
          have h2 := congrArg List.length (take_refs HRj.out)
          have h3 : (l.refs.flatMap refB).length = ((l.refs.take j).flatMap refB).length + ((l.refs.drop j).flatMap refB).length := by
            rw [← List.length_append, ← List.flatMap_append, List.take_append_drop]
          rw [HT.out] at h1
          rw [HY.out]
          simp only [List.length_append] at h1 ⊢
          omega
        have htl : (textL r.name).length ≤ 69 := by
          have h1 := numL_len r.name.size
          have h2 := strB_len r.name
          simp only [textL, List.length_append]
          omega
        have hu := Try.underlying24
        have hin : (Try.prog.info? 24).map (·.size) = some (idF r.id).length := by rw [idF_len lr]; exact size_arr
        have hln := idF_len lr
        have hj0 : (0 : Int) ≤ (j : Int) := by omega
        have hjI : (j : Int) < (s.rn : Int) := by omega
        have hJ1 := Lib.hid (show (textL r.name).length + r.id.length ≤ 140737488355328 by omega)
        have hJ2 := Lib.hid (show ys.length + (textL r.name ++ r.id).length ≤ 140737488355328 by rw [List.length_append]; omega)
        clear hc hr G hown hx hab
        go_upto_region 8 with fail
        have hS : wr.cell? ⟨w.heap.size, 4, none⟩ = some (.slice (some ⟨b, off, none⟩) s.rn s.rc) ∧ wr.cell? ⟨b, off + j * 33, none⟩ = some (.string r.name) ∧ wr.rangeAt b (off + j * 33 + 1) (idF r.id) := ⟨hc4, q1, q2⟩
        have HSk := Lib.hid (show ∀ W', Below wr.heap.size wr W' → W'.cell? ⟨w.heap.size, 4, none⟩ = some (.slice (some ⟨b, off, none⟩) s.rn s.rc) ∧ W'.cell? ⟨b, off + j * 33, none⟩ = some (.string r.name) ∧ W'.rangeAt b (off + j * 33 + 1) (idF r.id) from
          fun W' hb => ⟨Below.old hb (Nat.le_refl _) hc4, Below.old hb (Nat.le_refl _) q1, range_below q2 hb⟩)
        have hBd := (Below.refl wr.heap.size wr).drew
        have hbv := hbv.drew
        clear hc4 q1 q2
        go_region_held3 (fun w' => w'.cell? ⟨w.heap.size, 4, none⟩ = some (.slice (some ⟨b, off, none⟩) s.rn s.rc) ∧ w'.cell? ⟨b, off + j * 33, none⟩ = some (.string r.name) ∧ w'.rangeAt b (off + j * 33 + 1) (idF r.id)) (first | assumption | (with_reducible exact HSk.out _ (by assumption)))
          (first
            | (go_at_call 44; (with_reducible refine (wtext_any r.name _ hnm0).mono ?_); rintro e w6 ⟨a6, k6, c6, rfl, hb6, hown6⟩; have hst := own_bs hown6; (try have hsi := hsi.below hb6); have hbv := hbv.below hb6; have hBd := Below.next hBd hb6)
            | (go_at_call 45; (with_reducible refine (wid_any' r.id _ lr).mono ?_); rintro e w7 ⟨a7, k7, c7, rfl, hb7, hown7⟩; have hsi := own_bs hown7; (try have hst := hst.below hb7); have hbv := hbv.below hb7; have hBd := Below.next hBd hb7)
            | (go_at_call 43; (with_reducible refine (join_any _ _ _ _ _ _ _ _ _ hst hsi hJ1.out).mono ?_); rintro e w8 ⟨a8, k8, c8, rfl, hb8, hown8⟩; have hsj := own_bs hown8; have hbv := hbv.below hb8; have hBd := Below.next hBd hb8)
            | (go_at_call 43; (with_reducible refine (join_any _ _ _ _ _ _ _ _ _ hbv hsj hJ2.out).mono ?_); rintro e w9 ⟨a9, k9, c9, rfl, hb9, hown9⟩; have hBe := Below.next hBd hb9))
        all_goals
          have HK9 := Lib.hid (retB_len hown9)
          have hO9 := own_base (base' := w.heap.size) hown9 (Below.next hBw hBd).size
          have hB9 := Below.next hbz hBe
          clear hown9 hS HSk hBd hBe hsj hst hsi hbv
          go_wp2_with fail
          go_roundw
          case rel =>
            refine ⟨j + 1, ys ++ (textL r.name ++ r.id), by omega, by go_num, ?_, HK9.out ▸ hO9, hB9⟩
            rw [HY.out, take_refs HRj.out, refB]
            simp only [List.append_assoc]
          case measure => simp [intOf]; omega
      · obtain rfl : j = s.rn := by omega
        have hyb : ys = bodyL l := by rw [HY.out, HT.out, List.take_of_length_le (by rw [HRl.out]; exact Nat.le_refl _)]
        have hbF := Bs.cast hbv hyb
        have hBF := hBw
        have hc4 := ((blk_cell hx).1 4).trans x4
        clear hbv hyb hown
        go_wp2_with (first
          | (go_at_call 48; (with_reducible refine (rsum_any _ _ _ (bodyL l) _ hbF HBb.out).mono ?_); rintro e w7 ⟨rfl, hb7⟩; have hbF := hbF.below hb7; have hBF := Below.next hBF hb7)
          | (go_at_call 47; (with_reducible refine (wfour_any (sumL (bodyL l)) _ (sumL_lt _)).mono ?_); rintro e w8 ⟨a8, n8, c8, rfl, hb8, hown8⟩; have hs8 := own_bs hown8; have hbF := hbF.below hb8; have hBF := Below.next hBF hb8)
          | (go_at_call 43; (with_reducible refine (join_any _ _ _ _ _ _ _ _ _ hbF hs8 (by rw [fourL_len]; have := HBl.out; omega)).mono ?_); rintro e w9 ⟨a9, n9, c9, rfl, hb9, hown9⟩))
        go_ret
        exact RetB.mk (Below.next hBF hb9) (own_base hown9 hBF.size) rfl
  · by_cases hk3 : l.kind = 3
    · have e2 : (l.kind == 2) = false := by simp [hk3]
      have e3 : (l.kind == 3) = true := by simp [hk3]
      have HT := Lib.hid (show (nums l).flatMap numL ++ idsL l.wants ++ idsL l.haves ++ numL l.off = bodyL l by simp only [bodyL, tailL, if_neg (show ¬ l.kind = 2 by omega), if_pos hk3, List.append_assoc])
      have h3 := right_k3 HR.out hk3
      have hwl := hHA.wants.len
      have hhl := hHA.haves.len
      have hnl := nums_len (nums l)
      simp only [show (nums l).length = 4 from rfl] at hnl
      have hil := idsL_len hHA.wants.all
      have hil' := idsL_len hHA.haves.all
      have HJ1 := Lib.hid (show ((nums l).flatMap numL).length + 9 + s.wn * 32 ≤ 140737488355328 by omega)
      have HJ2 := Lib.hid (show ((nums l).flatMap numL ++ idsL l.wants).length + 9 + s.hn * 32 ≤ 140737488355328 by simp only [List.length_append]; omega)
      have HJ3 := Lib.hid (show ((nums l).flatMap numL ++ idsL l.wants ++ idsL l.haves).length + 9 ≤ 140737488355328 by simp only [List.length_append]; omega)
      have c0 := ((blk_cell hx).1 0).trans x0
      have g5 := ((blk_cell hx).1 5).trans x5
      have g6 := ((blk_cell hx).1 6).trans x6
      have g7 := ((blk_cell hx).1 7).trans x7
      have HW := Lib.hid hHA.wants; have HH := Lib.hid hHA.haves
      clear h3 hwl hhl hnl hil hil' hHA
      go_upto_region 10 with fail
      have hS : w4.cell? ⟨w.heap.size, 5, none⟩ = some (.slice s.wa s.wn s.wc) ∧ w4.cell? ⟨w.heap.size, 6, none⟩ = some (.slice s.ha s.hn s.hc) ∧ w4.cell? ⟨w.heap.size, 7, none⟩ = some (.int .i64 l.off) := ⟨g5, g6, g7⟩
      have HSk := Lib.hid (show ∀ W', Below w4.heap.size w4 W' → W'.cell? ⟨w.heap.size, 5, none⟩ = some (.slice s.wa s.wn s.wc) ∧ W'.cell? ⟨w.heap.size, 6, none⟩ = some (.slice s.ha s.hn s.hc) ∧ W'.cell? ⟨w.heap.size, 7, none⟩ = some (.int .i64 l.off) from
        fun W' hb => ⟨Below.old hb (Nat.le_refl _) g5, Below.old hb (Nat.le_refl _) g6, Below.old hb (Nat.le_refl _) g7⟩)
      have hBd := (Below.refl w4.heap.size w4).drew
      clear g5 g6 g7 c0
      go_region_held3 (fun w' => w'.cell? ⟨w.heap.size, 5, none⟩ = some (.slice s.wa s.wn s.wc) ∧ w'.cell? ⟨w.heap.size, 6, none⟩ = some (.slice s.ha s.hn s.hc) ∧ w'.cell? ⟨w.heap.size, 7, none⟩ = some (.int .i64 l.off)) (first | assumption | (with_reducible exact HSk.out _ (by assumption)))
        (first
          | (go_at_call 46; (with_reducible refine (dids_any _ _ _ _ _ _ _ l.wants _ (hs4.below (Below.drew (Below.refl _ _))) (HW.out.below (Below.drew (Below.refl _ _))) HJ1.out).mono ?_); rintro e w5 ⟨a5, k5, c5, rfl, hb5, hown5⟩; have hs5 := own_bs hown5; have hBd := Below.next hBd hb5)
          | (go_at_call 46; (with_reducible refine (dids_any _ _ _ _ _ _ _ l.haves _ hs5 (HH.out.below hBd) HJ2.out).mono ?_); rintro e w6 ⟨a6, k6, c6, rfl, hb6, hown6⟩; have hs6 := own_bs hown6; have hBd := Below.next hBd hb6)
          | (go_at_call 42; (with_reducible refine (dnum_any _ _ _ _ l.off _ hs6 HJ3.out).mono ?_); rintro e w7 ⟨a7, k7, c7, rfl, hb7, hown7⟩; have hs7 := own_bs hown7; have hBd := Below.next hBd hb7))
      have hbF := Bs.cast hs7 HT.out
      have hBF := Below.next hB4 hBd
      clear hs4 hs5 hs6 hs7 hown5 hown6 hown7 hb5 hb6 hb7 hBd hS HSk
      go_wp2_with (first
        | (go_at_call 48; (with_reducible refine (rsum_any _ _ _ (bodyL l) _ hbF HBb.out).mono ?_); rintro e w7 ⟨rfl, hb7⟩; have hbF := hbF.below hb7; have hBF := Below.next hBF hb7)
        | (go_at_call 47; (with_reducible refine (wfour_any (sumL (bodyL l)) _ (sumL_lt _)).mono ?_); rintro e w8 ⟨a8, n8, c8, rfl, hb8, hown8⟩; have hs8 := own_bs hown8; have hbF := hbF.below hb8; have hBF := Below.next hBF hb8)
        | (go_at_call 43; (with_reducible refine (join_any _ _ _ _ _ _ _ _ _ hbF hs8 (by rw [fourL_len]; have := HBl.out; omega)).mono ?_); rintro e w9 ⟨a9, n9, c9, rfl, hb9, hown9⟩))
      go_ret
      exact RetB.mk (Below.next hBF hb9) (own_base hown9 hBF.size) rfl
    · by_cases hk4 : l.kind = 4
      · have e2 : (l.kind == 2) = false := by simp [hk4]
        have e3 : (l.kind == 3) = false := by simp [hk4]
        have e4 : (l.kind == 4) = true := by simp [hk4]
        have HT := Lib.hid (show (nums l).flatMap numL ++ l.pack ++ numL l.off ++ numL l.total ++ textL (toS l.data) = bodyL l by simp only [bodyL, tailL, if_neg (show ¬ l.kind = 2 by omega), if_neg (show ¬ l.kind = 3 by omega), if_pos hk4, List.append_assoc])
        have h4 := right_k4 HR.out hk4
        have hnl := nums_len (nums l)
        simp only [show (nums l).length = 4 from rfl] at hnl
        have n5 := numL_len l.off
        have n6 := numL_len l.total
        have hts := toS_size l.data
        have htl : (textL (toS l.data)).length ≤ 509 := by
          have h1 := numL_len (toS l.data).size
          have h2 := strB_len (toS l.data)
          simp only [textL, List.length_append]
          omega
        have HJ1 := Lib.hid (show ((nums l).flatMap numL).length + l.pack.length ≤ 140737488355328 by omega)
        have HJ2 := Lib.hid (show ((nums l).flatMap numL ++ l.pack).length + 9 ≤ 140737488355328 by simp only [List.length_append]; omega)
        have HJ3 := Lib.hid (show ((nums l).flatMap numL ++ l.pack ++ numL l.off).length + 9 ≤ 140737488355328 by simp only [List.length_append]; omega)
        have HJ4 := Lib.hid (show ((nums l).flatMap numL ++ l.pack ++ numL l.off ++ numL l.total).length + (textL (toS l.data)).length ≤ 140737488355328 by simp only [List.length_append]; omega)
        have hts0 : (toS l.data).size ≤ 140737488351232 := by omega
        have c0 := ((blk_cell hx).1 0).trans x0
        have g7 := ((blk_cell hx).1 7).trans x7
        have g8 := ((blk_cell hx).1 8).trans x8
        have g41 := ((blk_cell hx).1 41).trans x41
        have g9 := range_of hx hpk (o := 9) (by omega) xp
        have HD := Lib.hid hHA.data
        have hu := Try.underlying24
        have hin : (Try.prog.info? 24).map (·.size) = some (idF l.pack).length := by rw [idF_len hpk]; exact size_arr
        have hln := idF_len hpk
        clear h4 hnl n5 n6 hts htl hHA
        go_upto_region 12 with fail
        have hS : w4.rangeAt w.heap.size 9 (idF l.pack) ∧ w4.cell? ⟨w.heap.size, 7, none⟩ = some (.int .i64 l.off) ∧ w4.cell? ⟨w.heap.size, 8, none⟩ = some (.int .i64 l.total) := ⟨g9, g7, g8⟩
        have HSk := Lib.hid (show ∀ W', Below w4.heap.size w4 W' → W'.rangeAt w.heap.size 9 (idF l.pack) ∧ W'.cell? ⟨w.heap.size, 7, none⟩ = some (.int .i64 l.off) ∧ W'.cell? ⟨w.heap.size, 8, none⟩ = some (.int .i64 l.total) from
          fun W' hb => ⟨range_below g9 hb, Below.old hb (Nat.le_refl _) g7, Below.old hb (Nat.le_refl _) g8⟩)
        have hBd := (Below.refl w4.heap.size w4).drew
        clear g9 g7 g8 c0
        go_region_held3 (fun w' => w'.rangeAt w.heap.size 9 (idF l.pack) ∧ w'.cell? ⟨w.heap.size, 7, none⟩ = some (.int .i64 l.off) ∧ w'.cell? ⟨w.heap.size, 8, none⟩ = some (.int .i64 l.total)) (first | assumption | (with_reducible exact HSk.out _ (by assumption)))
          (first
            | (go_at_call 45; (with_reducible refine (wid_any' l.pack _ hpk).mono ?_); rintro e w5 ⟨a5, k5, c5, rfl, hb5, hown5⟩; have hs5 := own_bs hown5; have hBd := Below.next hBd hb5; have hs4 := hs4.below hBd)
            | (go_at_call 43; (with_reducible refine (join_any _ _ _ _ _ _ _ _ _ hs4 hs5 HJ1.out).mono ?_); rintro e w6 ⟨a6, k6, c6, rfl, hb6, hown6⟩; have hs6 := own_bs hown6; have hBd := Below.next hBd hb6)
            | (go_at_call 42; (with_reducible refine (dnum_any _ _ _ _ l.off _ hs6 HJ2.out).mono ?_); rintro e w7 ⟨a7, k7, c7, rfl, hb7, hown7⟩; have hs7 := own_bs hown7; have hBd := Below.next hBd hb7)
            | (go_at_call 42; (with_reducible refine (dnum_any _ _ _ _ l.total _ hs7 HJ3.out).mono ?_); rintro e w8 ⟨a8, k8, c8, rfl, hb8, hown8⟩; have hs8 := own_bs hown8; have hBd := Below.next hBd hb8))
        have g41 := Below.old hBd (Nat.le_refl _) g41
        have hBx := Below.next hB4 hBd
        have hconv := conv_bs (HD.out.below hBd)
        have HD := Lib.hid (HD.out.below hBd)
        clear hs4 hs5 hs6 hs7 hown5 hown6 hown7 hown8 hb5 hb6 hb7 hb8 hBd hS HSk
        go_upto_region 14 with (first
          | (go_at_call 44; (with_reducible refine (wtext_any (toS l.data) _ hts0).mono ?_); rintro e w9 ⟨a9, k9, c9, rfl, hb9, hown9⟩; have hs9 := own_bs hown9; have hs8 := hs8.below hb9; have hBx := Below.next hBx hb9)
          | (go_at_call 43; (with_reducible refine (join_any _ _ _ _ _ _ _ _ _ hs8 hs9 HJ4.out).mono ?_); rintro e w10 ⟨a10, k10, c10, rfl, hb10, hown10⟩; have hbF := Bs.cast (own_bs hown10) HT.out; have hBF := Below.next hBx hb10))
        clear hs8 hs9 hown9 hown10 hb9 hb10 hconv g41 hBx
        go_wp2_with (first
          | (go_at_call 48; (with_reducible refine (rsum_any _ _ _ (bodyL l) _ hbF HBb.out).mono ?_); rintro e w7 ⟨rfl, hb7⟩; have hbF := hbF.below hb7; have hBF := Below.next hBF hb7)
          | (go_at_call 47; (with_reducible refine (wfour_any (sumL (bodyL l)) _ (sumL_lt _)).mono ?_); rintro e w8 ⟨a8, n8, c8, rfl, hb8, hown8⟩; have hs8 := own_bs hown8; have hbF := hbF.below hb8; have hBF := Below.next hBF hb8)
          | (go_at_call 43; (with_reducible refine (join_any _ _ _ _ _ _ _ _ _ hbF hs8 (by rw [fourL_len]; have := HBl.out; omega)).mono ?_); rintro e w9 ⟨a9, n9, c9, rfl, hb9, hown9⟩))
        go_ret
        exact RetB.mk (Below.next hBF hb9) (own_base hown9 hBF.size) rfl
      · have e2 : (l.kind == 2) = false := by simp [hk2]
        have e3 : (l.kind == 3) = false := by simp [hk3]
        have e4 : (l.kind == 4) = false := by simp [hk4]
        have HT := Lib.hid (show (nums l).flatMap numL = bodyL l by simp only [bodyL, tailL, if_neg hk2, if_neg hk3, if_neg hk4, List.append_nil])
        have c0 := ((blk_cell hx).1 0).trans x0
        have hbF := Bs.cast hs4 HT.out
        have hBF := hB4
        clear hs4 hHA hk2 hk3 hk4
        go_wp2_with (first
          | (go_at_call 48; (with_reducible refine (rsum_any _ _ _ (bodyL l) _ hbF HBb.out).mono ?_); rintro e w7 ⟨rfl, hb7⟩; have hbF := hbF.below hb7; have hBF := Below.next hBF hb7)
          | (go_at_call 47; (with_reducible refine (wfour_any (sumL (bodyL l)) _ (sumL_lt _)).mono ?_); rintro e w8 ⟨a8, n8, c8, rfl, hb8, hown8⟩; have hs8 := own_bs hown8; have hbF := hbF.below hb8; have hBF := Below.next hBF hb8)
          | (go_at_call 43; (with_reducible refine (join_any _ _ _ _ _ _ _ _ _ hbF hs8 (by rw [fourL_len]; have := HBl.out; omega)).mono ?_); rintro e w9 ⟨a9, n9, c9, rfl, hb9, hown9⟩))
        go_ret
        exact RetB.mk (Below.next hBF hb9) (own_base hown9 hBF.size) rfl

end Go.Proofs.Ytfjbmgfkfeehnaa
