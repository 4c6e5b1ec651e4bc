/- A letter is written: the program's function. -/
import Derived.Test.YtfjbmgfkfeehnaaMid
namespace Go.Proofs.Ytfjbmgfkfeehnaa
open Go.RowKit

/-- What Write hands back. -/
def WrPost (w : World) (l : LetL) (e : Ending) (w' : World) : Prop :=
  if rightB l = true then ∃ a n c, e = .returned (.tuple #[.slice a n c, .int .i64 0]) ∧ Below w.heap.size w w' ∧ w'.ownsRow w.heap.size 5 1 (.slice a n c) n ((wireL l).map (Value.int .u8))
  else e = .returned (.tuple #[.slice none 0 0, .int .i64 1]) ∧ Below w.heap.size w w'

theorem take_nums {l : List Int} {k : Nat} {n : Int} (h : l[k]? = some n) : (l.take (k + 1)).flatMap numL = (l.take k).flatMap numL ++ numL n := by
  obtain ⟨hk, rfl⟩ := List.getElem?_eq_some_iff.1 h
  rw [List.take_succ_eq_append_getElem hk]
  simp only [List.flatMap_append, List.flatMap_cons, List.flatMap_nil, List.append_nil]
theorem take_refs {l : List RfL} {k : Nat} {r : RfL} (h : l[k]? = some r) : (l.take (k + 1)).flatMap refB = (l.take k).flatMap refB ++ refB r := by
  obtain ⟨hk, rfl⟩ := List.getElem?_eq_some_iff.1 h
  rw [List.take_succ_eq_append_getElem hk]
  simp only [List.flatMap_append, List.flatMap_cons, List.flatMap_nil, List.append_nil]
theorem nums_len : ∀ (l : List Int), (l.flatMap numL).length ≤ l.length * 9
  | [] => by simp
  | n :: l => by
    have := nums_len l
    have := numL_len n
    simp only [List.flatMap_cons, List.length_append, List.length_cons]
    omega

theorem range_of {w : World} {g o : Nat} {t : TypeId} {fr : Nat × Nat} {X : Array Value} {p : List Int} (h : w.heap[g]? = some (.cells X t fr)) (hp : p.length = 32) (hs : o + 32 ≤ X.size) (he : X.extract o (o + 32) = idC p) : w.rangeAt g o (idF p) := fun j v hv => by
  have hj : j < 32 := by
    rcases Nat.lt_or_ge j 32 with h | h
    · exact h
    · rw [List.getElem?_eq_none (by rw [idF_len hp]; exact h)] at hv
      cases hv
  rw [cell_of_row w g (o + j) X t fr h]
  have h2 : (X.extract o (o + 32))[j]? = (idC p)[j]? := by rw [he]
  rw [Array.getElem?_extract, if_pos (by omega)] at h2
  rw [h2]
  simpa [idC, idF] using hv
theorem range_below {W W' : World} {b o : Nat} {cs : List Value} (h : W.rangeAt b o cs) (hb : Below W.heap.size W W') : W'.rangeAt b o cs := fun j v hv => Below.old hb (Nat.le_refl _) (h j v hv)
theorem id_any' (a : Option Addr) (k c : Nat) (l d : List Int) (w : World) (h : Bs w a k c l) (hl : l.length + 32 ≤ 140737488355328) (hd : d.length = 32) :
    Calls Try.prog 20 #[.slice a k c, .agg (idF d).toArray] w (RetB w (l ++ d)) := id_any a k c l d w h hl hd

set_option maxRecDepth 100000 in
set_option maxHeartbeats 4000000 in
theorem wirewrite_any (l : LetL) (s : LS) (w : World) (h : LetA w l s) :
    Calls Try.prog 9 #[.agg (letC l s)] w (WrPost w l) := by
  obtain ⟨hsz, x0, x1, x2, x3, x4, x5, x6, x7, x8, x41, xp, xa⟩ := letC_x l s h.pack
  have hx := blk0 w (letC l s) 28
  have hB0 : Below w.heap.size w (w.alloc (.cells (letC l s) 28)) := (Below.refl _ _).alloc (Nat.le_refl _) _
  have hcx := (blk_cell hx).1
  have hsl := seg_let hx h.pack
  have HR := Lib.hid (fun W (hb : Below w.heap.size w W) => right_any l s W (h.below hb))
  have HA := Lib.hid h
  have HO := Lib.hid h.ok
  have HS := Lib.hid hsz
  clear h xa hsz
  revert x0 x1 x2 x3 x4 x5 x6 x7 x8 x41 xp
  generalize letC l s = X at *
  intro x0 x1 x2 x3 x4 x5 x6 x7 x8 x41 xp
  cases hr : rightB l with
  | false =>
    rw [hr] at HR
    have HP := Lib.hid (show ∀ W, Below w.heap.size w W → WrPost w l (.returned (.tuple #[.slice none 0 0, .int .i64 1])) W from fun W hb => by
      unfold WrPost
      rw [if_neg (by rw [hr]; decide)]
      exact ⟨rfl, hb⟩)
    clear hr
    go_enter Try.func9, Try.ntmps9
    go_wp2_with (go_at_call 12; (with_reducible refine (HR.out _ hB0).mono ?_); rintro e w1 ⟨rfl, hb1⟩; have hB := Below.next hB0 hb1)
    exact bodyPost_ret (v := .tuple #[.slice none 0 0, .int .i64 1]) (by simp [results, Try.results9, go_sem]) rfl (HP.out _ hB)
  | true =>
    rw [hr] at HR
    have HP := Lib.hid (show ∀ W a n c, Below w.heap.size w W → W.ownsRow w.heap.size 5 1 (.slice a n c) n ((wireL l).map (Value.int .u8)) → WrPost w l (.returned (.tuple #[.slice a n c, .int .i64 0])) W from fun W a n c hb ho => by
      unfold WrPost
      rw [if_pos hr]
      exact ⟨a, n, c, rfl, hb, ho⟩)
    have HRt := Lib.hid hr
    clear hr
    go_enter Try.func9, Try.ntmps9
    go_upto_region 5 with (go_at_call 12; (with_reducible refine (HR.out _ hB0).mono ?_); rintro e w1 ⟨rfl, hb1⟩; have hB := Below.next hB0 hb1; have hx := (hb1.block _ (blk_cell hx).2.2).trans hx; have hcx := (blk_cell hx).1)
    have hnb := blk0 w1 #[.int .i64 l.kind, .int .i64 l.from_, .int .i64 l.to_, .int .i64 l.session] 2
    have hnc : ∀ (j : Nat) (z : Int), (nums l)[j]? = some z → (w1.alloc (.cells #[.int .i64 l.kind, .int .i64 l.from_, .int .i64 l.to_, .int .i64 l.session] 2)).cell? ⟨w1.heap.size, j, none⟩ = some (.int .i64 z) := fun j z hz => by
      rw [(blk_cell hnb).1 j]
      match j, hz with
      | 0, hz => cases hz; rfl
      | 1, hz => cases hz; rfl
      | 2, hz => cases hz; rfl
      | 3, hz => cases hz; rfl
      | j + 4, hz => simp [nums] at hz
    have hx := (Below.heap_alloc w1 (.cells #[.int .i64 l.kind, .int .i64 l.from_, .int .i64 l.to_, .int .i64 l.session] 2) _ (blk_cell hx).2.2).trans hx
    have hB := hB.alloc hB.size (.cells #[.int .i64 l.kind, .int .i64 l.from_, .int .i64 l.to_, .int .i64 l.session] 2)
    clear hcx hB0 hb1 hnb hsl
    revert hnc hx hB
    generalize w1.alloc (.cells #[.int .i64 l.kind, .int .i64 l.from_, .int .i64 l.to_, .int .i64 l.session] 2) = W
    generalize w1.heap.size = q
    intro hnc hx hB
    have HN := Lib.hid hnc
    clear hnc
    go_loopw [4, 22] (fun v i wr => ∃ (j : Nat) (xs : List Int), j ≤ 4 ∧ i = .int .i64 j ∧ xs = ((nums l).take j).flatMap numL ∧ wr.ownsRow w.heap.size 5 1 v xs.length (xs.map (Value.int .u8)) ∧ Below W.heap.size W wr) (fun _ i _ => 4 - (intOf i).toNat)
    case atStart => exact ⟨0, [], Nat.zero_le _, rfl, rfl, World.ownsRow_nil _ _ _ _, Below.refl _ _⟩
    case round =>
      obtain ⟨j, xs, hj, rfl, hxs, hown, hb⟩ := hrel
      have HX := Lib.hid hxs
      clear hxs
      obtain ⟨a2, c2, rfl, hs2⟩ := own_form hown
      have hb2 : Bs wr a2 xs.length c2 xs := hs2
      clear hs2
      by_cases hjn : j < 4
      · obtain ⟨z, hz⟩ : ∃ z, (nums l)[j]? = some z := ⟨_, List.getElem?_eq_getElem hjn⟩
        have g1 := Below.old hb (Nat.le_refl _) (HN.out j z hz)
        have HZ := Lib.hid hz
        have hlen : xs.length + 9 ≤ 140737488355328 := by
          have := nums_len ((nums l).take j)
          rw [HX.out]
          simp only [List.length_take] at this
          omega
        clear hz
        go_wp2_with (go_at_call 19; refine (num_any _ _ _ _ _ _ hb2 hlen).mono ?_; rintro e w4 ⟨a4, k4, c4, rfl, hb4, hown4⟩)
        have HK4 := Lib.hid (retB_len hown4)
        have hO4 := own_base (base' := w.heap.size) hown4 (Below.next hB hb).size
        have hB4 := Below.next hb hb4
        clear hown4 hb hb4
        go_roundw
        case rel => exact ⟨j + 1, xs ++ numL z, by omega, by go_num, by rw [HX.out, take_nums HZ.out], HK4.out ▸ hO4, hB4⟩
        case measure => simp [intOf]; omega
      · obtain rfl : j = 4 := by omega
        have hx := (hb.block _ (blk_cell hx).2.2).trans hx
        have hB := Below.next hB hb
        have hcx := (blk_cell hx).1
        have hxs : xs = (nums l).flatMap numL := by rw [HX.out]; rfl
        have HX := Lib.hid hxs
        have hlx : xs.length ≤ 36 := by
          have := nums_len (nums l)
          rw [hxs]
          exact this
        clear hxs hb HN
        have HBb := Lib.hid (body_bytes HO.out)
        have HBl := Lib.hid (show (bodyL l).length + 4 ≤ 140737488355328 by have := body_len HRt.out HO.out; omega)
        by_cases hk2 : l.kind = 2
        · have e2 : (l.kind == 2) = true := by simp [hk2]
          have HT := Lib.hid (show bodyL l = xs ++ numL l.refs.length ++ l.refs.flatMap refB by rw [HX.out]; simp only [bodyL, tailL, if_pos hk2, rfsL, List.append_assoc])
          have hrr := right_k2 HRt.out hk2
          have HRr := Lib.hid hrr
          have hrl := HA.out.refs.len
          have HRl := Lib.hid hrl
          have hrn : s.rn ≤ 100 := by have := rfs_len hrr; omega
          have hcap := HA.out.refs.row.cap
          have hle := HA.out.refs.row.le
          unfold maxLen at hcap
          have hA := Lib.hid (HA.out.below hB)
          clear hrr hrl
          have hc4 := (hcx 4).trans x4
          go_upto_region 13 with (go_at_call 19; (with_reducible refine (num_any _ _ _ _ _ _ hb2 (by omega)).mono ?_); rintro e w4 ⟨a4, k4, c4, rfl, hb4, hown4⟩; have hc4 := Below.old hb4 (Nat.le_refl _) hc4)
          have HK4 := Lib.hid (retB_len hown4)
          have HO4 := Lib.hid (own_base (base' := w.heap.size) hown4 hB.size)
          have hBn := Below.next hB hb4
          have HA4 := Lib.hid (hA.out.refs.below hb4)
          clear hown4 hb4 hb2 hown
          go_loopw [4, 42] (fun v i wz => ∃ (j : Nat) (ys : List Int), j ≤ s.rn ∧ i = .int .i64 j ∧ ys = xs ++ numL l.refs.length ++ (l.refs.take j).flatMap refB ∧ wz.ownsRow w.heap.size 5 1 v ys.length (ys.map (Value.int .u8)) ∧ Below w4.heap.size w4 wz) (fun _ i _ => s.rn - (intOf i).toNat)
          case atStart =>
            refine ⟨0, xs ++ numL l.refs.length, Nat.zero_le _, rfl, by simp, ?_, Below.refl _ _⟩
            rw [HRl.out]
            exact HK4.out ▸ HO4.out
          case round =>
            obtain ⟨j, ys, hj, rfl, hys, hown, hbz⟩ := hrel
            have HY := Lib.hid hys
            clear hys
            obtain ⟨a5, c5, rfl, hs5⟩ := own_form hown
            have hb5 : Bs wr a5 ys.length c5 ys := hs5
            clear hs5
            by_cases hjn : j < s.rn
            · obtain ⟨b, off, hab, hc⟩ := HA4.out.seg (by omega)
              rw [hab] at *
              obtain ⟨r, hr⟩ : ∃ r, l.refs[j]? = some r := ⟨_, List.getElem?_eq_getElem (by have := HRl.out; omega)⟩
              have G := hc j r hr
              have hs := seg_below G.2 hbz
              have HR5 := Lib.hid hr
              have lr := G.1.1.1
              have hnm := (nameB_size (rfs_name HRr.out (List.mem_of_getElem? hr))).2
              clear hc hr
              (repeat ((fail_if_success (with_reducible show wpList _ _ _ (Oper.mk _ (Op.store _ _ _) _ _ _ _ :: _) _ _)); first | go_values | go_skip | go_guarded | go_step | go_upon))
              have hz := blk0 wr (rfC rf0) 52
              refine wpList_store_seg (w := wr.alloc (.cells (rfC rf0) 52)) rfl 52 _ _ rfl rfl wr.heap.size 0 rfl (rfC r) rfl 52 (rfC rf0) hz (by rw [rfC_size lr]; decide) (info_rf' lr) (one_rf r) (rfC r) (put_whole _ _ (by rw [rfC_size lr]; rfl)) ?_
              intro w3 hq3 hg3 _
              have hB3 : Below wr.heap.size wr w3 := ((Below.refl _ _).alloc (Nat.le_refl _) (.cells (rfC rf0) 52)).grown hg3 (by simp) (fun k hk => by cases hk; omega)
              have hb5 := hb5.below hB3
              have hbz := Below.next hbz hB3
              have hsx := range_of hq3 lr (o := 1) (by rw [rfC_size lr]; omega) (rfC_id r lr)
              have hu := Try.underlying25
              have hin : (Try.prog.info? 25).map (·.size) = some (idF r.id).length := by rw [idF_len lr]; exact size_id
              have hln := idF_len lr
              have hyl : ys.length + 200 ≤ 140737488355328 := by
                have h1 := body_len HRt.out HO.out
                have h2 := congrArg List.length (take_refs HR5.out)
                have h3 : (l.refs.flatMap refB).length = ((l.refs.take j).flatMap refB).length + ((l.refs.drop j).flatMap refB).length := by
                  rw [← List.length_append, ← List.flatMap_append, List.take_append_drop]
                rw [HT.out] at h1
                rw [HY.out]
                simp only [List.length_append] at h1 ⊢
                omega
              have k0 := show w3.cell? ⟨wr.heap.size, 0, none⟩ = some (.string r.name) from (blk_cell hq3).1 0
              clear hz hg3 hs hq3 hown hB3
              generalize wr.heap.size = q5 at *
              have hS : w3.cell? ⟨q5, 0, none⟩ = some (.string r.name) ∧ w3.rangeAt q5 1 (idF r.id) := ⟨k0, hsx⟩
              have HSk := Lib.hid (show ∀ W', Below w3.heap.size w3 W' → W'.cell? ⟨q5, 0, none⟩ = some (.string r.name) ∧ W'.rangeAt q5 1 (idF r.id) from fun W' hb => ⟨Below.old hb (Nat.le_refl _) hS.1, range_below hS.2 hb⟩)
              go_upto_region 15 with fail
              have hBd := (Below.refl w3.heap.size w3).drew
              go_region_held3 (fun w' => w'.cell? ⟨q5, 0, none⟩ = some (.string r.name) ∧ w'.rangeAt q5 1 (idF r.id)) (first | assumption | (with_reducible exact HSk.out _ (by assumption)))
                (first
                  | (go_at_call 21; (with_reducible refine (text_any _ _ _ _ _ _ (hb5.below hBd) (by omega)).mono ?_); rintro e w5 ⟨a6, k6, c6, rfl, hb6, hown6⟩; have hs6 := own_bs hown6; have HK6 := Lib.hid (retB_len hown6); have hBe := Below.next hBd hb6)
                  | (go_at_call 20; (with_reducible refine (id_any' _ _ _ _ _ _ hs6 (by have h1 := numL_len r.name.size; have h2 := strB_len r.name; simp only [List.length_append, textL]; omega) lr).mono ?_); rintro e w6 ⟨a7, k7, c7, rfl, hb7, hown7⟩; have HK7 := Lib.hid (retB_len hown7); have hBf := Below.next hBe hb7))
              have hOw := own_base (base' := w.heap.size) hown7 (Below.size (Below.next (Below.next hBn hbz) hBe))
              have hBz := Below.next hbz hBf
              clear hown7 hown6 hb6 hb7 hBe hBf hBd hS hsx k0
              go_wp2_with fail
              go_roundw
              case rel =>
                refine ⟨j + 1, ys ++ textL r.name ++ r.id, by omega, by go_num, ?_, HK7.out ▸ hOw, hBz⟩
                rw [HY.out, take_refs HR5.out, refB]
                simp only [List.append_assoc]
              case measure => simp [intOf]; omega
            · obtain rfl : j = s.rn := by omega
              have hyb : ys = bodyL l := by rw [HY.out, HT.out, List.take_of_length_le (by rw [HRl.out]; exact Nat.le_refl _)]
              have hb6 : Bs wr a5 ys.length c5 (bodyL l) := by
                have := hb5
                rwa [hyb] at this ⊢
              have hB := Below.next hBn hbz
              clear hb5 hyb hown hcx
              go_wp2_with (first
                | (go_at_call 24; (with_reducible refine (sum_any _ _ _ (bodyL l) _ hb6 HBb.out).mono ?_); rintro e w7 ⟨rfl, hb7⟩; have hb6 := hb6.below hb7; have hB := Below.next hB hb7)
                | (go_at_call 23; (with_reducible refine (four_any _ _ _ (bodyL l) _ _ hb6 HBl.out (sumL_lt _)).mono ?_); rintro e w8 ⟨a8, n8, c8, rfl, hb8, hown8⟩))
              exact bodyPost_ret (v := .tuple #[.slice a8 n8 c8, .int .i64 0]) (by simp [results, Try.results9, go_sem]) rfl (HP.out _ a8 n8 c8 (Below.next hB hb8) (own_base hown8 hB.size))
        · have e2 : (l.kind == 2) = false := by simp [hk2]
          by_cases hk3 : l.kind = 3
          · have e3 : (l.kind == 3) = true := by simp [hk3]
            have HT := Lib.hid (show bodyL l = xs ++ idsL l.wants ++ idsL l.haves ++ numL l.off by rw [HX.out]; simp only [bodyL, tailL, if_neg hk2, if_pos hk3, List.append_assoc])
            have hk := right_k3 HRt.out hk3
            have HLs := Lib.hid (show xs.length + (idsL l.wants).length + (idsL l.haves).length ≤ 20000 by have h1 := body_len HRt.out HO.out; rw [HT.out] at h1; simp only [List.length_append] at h1; omega)
            have hwn : s.wn ≤ 100 := by have := HA.out.wants.len; omega
            have hhn : s.hn ≤ 200 := by have := HA.out.haves.len; omega
            go_upto_region 18 with fail
            have hA := Lib.hid (HA.out.below hB)
            have hS : wr.cell? ⟨w.heap.size, 5, none⟩ = some (.slice s.wa s.wn s.wc) ∧ wr.cell? ⟨w.heap.size, 6, none⟩ = some (.slice s.ha s.hn s.hc) ∧ wr.cell? ⟨w.heap.size, 7, none⟩ = some (.int .i64 l.off) := ⟨(hcx 5).trans x5, (hcx 6).trans x6, (hcx 7).trans x7⟩
            have HSk := Lib.hid (show ∀ W', Below wr.heap.size wr W' → W'.cell? ⟨w.heap.size, 5, none⟩ = some (.slice s.wa s.wn s.wc) ∧ W'.cell? ⟨w.heap.size, 6, none⟩ = some (.slice s.ha s.hn s.hc) ∧ W'.cell? ⟨w.heap.size, 7, none⟩ = some (.int .i64 l.off) from fun W' hb => ⟨Below.old hb (Nat.le_refl _) hS.1, Below.old hb (Nat.le_refl _) hS.2.1, Below.old hb (Nat.le_refl _) hS.2.2⟩)
            have hBr := Below.refl wr.heap.size wr
            have hBd := hBr.drew
            go_region_held3 (fun w' => w'.cell? ⟨w.heap.size, 5, none⟩ = some (.slice s.wa s.wn s.wc) ∧ w'.cell? ⟨w.heap.size, 6, none⟩ = some (.slice s.ha s.hn s.hc) ∧ w'.cell? ⟨w.heap.size, 7, none⟩ = some (.int .i64 l.off)) (first | assumption | (with_reducible exact HSk.out _ (by assumption)))
              (first
                | (go_at_call 22; (with_reducible refine (ids_any _ _ _ _ _ _ _ _ _ (hb2.below hBd) (hA.out.below hBd).wants (by omega)).mono ?_); rintro e w4 ⟨a4, k4, c4, rfl, hb4, hown4⟩; have hs4 := own_bs hown4; have HK4 := Lib.hid (retB_len hown4); have hBe := Below.next hBd hb4)
                | (go_at_call 22; (with_reducible refine (ids_any _ _ _ _ _ _ _ _ _ hs4 (hA.out.below hBe).haves (by have h1 := HK4.out; have h2 := HLs.out; simp only [List.length_append] at h1 ⊢; omega)).mono ?_); rintro e w5 ⟨a5, k5, c5, rfl, hb5, hown5⟩; have hs5 := own_bs hown5; have HK5 := Lib.hid (retB_len hown5); have hBf := Below.next hBe hb5)
                | (go_at_call 19; (with_reducible refine (num_any _ _ _ _ _ _ hs5 (by have h1 := HK5.out; have h2 := HLs.out; simp only [List.length_append] at h1 ⊢; omega)).mono ?_); rintro e w6 ⟨a6, k6, c6, rfl, hb6, hown6⟩; have hs6 := own_bs hown6; have hBg := Below.next hBf hb6))
            have hb6 : Bs w6 a6 k6 c6 (bodyL l) := HT.out ▸ hs6
            have hB := Below.next hB hBg
            clear hs6 hs5 hs4 hS hb4 hb5 hcx hb2
            go_wp2_with (first
              | (go_at_call 24; (with_reducible refine (sum_any _ _ _ (bodyL l) _ hb6 HBb.out).mono ?_); rintro e w7 ⟨rfl, hb7⟩; have hb6 := hb6.below hb7; have hB := Below.next hB hb7)
              | (go_at_call 23; (with_reducible refine (four_any _ _ _ (bodyL l) _ _ hb6 HBl.out (sumL_lt _)).mono ?_); rintro e w8 ⟨a8, n8, c8, rfl, hb8, hown8⟩))
            exact bodyPost_ret (v := .tuple #[.slice a8 n8 c8, .int .i64 0]) (by simp [results, Try.results9, go_sem]) rfl (HP.out _ a8 n8 c8 (Below.next hB hb8) (own_base hown8 hB.size))
          · have e3 : (l.kind == 3) = false := by simp [hk3]
            by_cases hk4 : l.kind = 4
            · have e4 : (l.kind == 4) = true := by simp [hk4]
              have HT := Lib.hid (show bodyL l = xs ++ l.pack ++ numL l.off ++ numL l.total ++ textL (toS l.data) by rw [HX.out]; simp only [bodyL, tailL, if_neg hk2, if_neg hk3, if_pos hk4, List.append_assoc])
              have hk := right_k4 HRt.out hk4
              have HLs := Lib.hid (show xs.length + l.pack.length + (numL l.off).length + (numL l.total).length + (textL (toS l.data)).length ≤ 20000 by have h1 := body_len HRt.out HO.out; rw [HT.out] at h1; simp only [List.length_append] at h1; omega)
              have HPk := Lib.hid HO.out.pack
              go_upto_region 20 with fail
              have hA := Lib.hid (HA.out.below hB)
              have hsx := range_of hx HPk.out (o := 9) (by have := HS.out; omega) xp
              have hu := Try.underlying25
              have hin : (Try.prog.info? 25).map (·.size) = some (idF l.pack).length := by rw [idF_len HPk.out]; exact size_id
              have hln := idF_len HPk.out
              have hS : wr.rangeAt w.heap.size 9 (idF l.pack) ∧ wr.cell? ⟨w.heap.size, 7, none⟩ = some (.int .i64 l.off) ∧ wr.cell? ⟨w.heap.size, 8, none⟩ = some (.int .i64 l.total) ∧ wr.cell? ⟨w.heap.size, 41, none⟩ = some (.slice s.da s.dn s.dc) ∧ (convert 26 9 (.slice s.da s.dn s.dc)).run Try.prog wr = .ok (.string (toS l.data)) wr := ⟨hsx, (hcx 7).trans x7, (hcx 8).trans x8, (hcx 41).trans x41, conv_bs hA.out.data⟩
              have HSk := Lib.hid (show ∀ W', Below wr.heap.size wr W' → W'.rangeAt w.heap.size 9 (idF l.pack) ∧ W'.cell? ⟨w.heap.size, 7, none⟩ = some (.int .i64 l.off) ∧ W'.cell? ⟨w.heap.size, 8, none⟩ = some (.int .i64 l.total) ∧ W'.cell? ⟨w.heap.size, 41, none⟩ = some (.slice s.da s.dn s.dc) ∧ (convert 26 9 (.slice s.da s.dn s.dc)).run Try.prog W' = .ok (.string (toS l.data)) W' from fun W' hb => ⟨range_below hS.1 hb, Below.old hb (Nat.le_refl _) hS.2.1, Below.old hb (Nat.le_refl _) hS.2.2.1, Below.old hb (Nat.le_refl _) hS.2.2.2.1, conv_bs (hA.out.below hb).data⟩)
              have hBr := Below.refl wr.heap.size wr
              have hBd := hBr.drew
              go_region_held3 (fun w' => w'.rangeAt w.heap.size 9 (idF l.pack) ∧ w'.cell? ⟨w.heap.size, 7, none⟩ = some (.int .i64 l.off) ∧ w'.cell? ⟨w.heap.size, 8, none⟩ = some (.int .i64 l.total) ∧ w'.cell? ⟨w.heap.size, 41, none⟩ = some (.slice s.da s.dn s.dc) ∧ (convert 26 9 (.slice s.da s.dn s.dc)).run Try.prog w' = .ok (.string (toS l.data)) w') (first | assumption | (with_reducible exact HSk.out _ (by assumption)))
                (first
                  | (go_at_call 20; (with_reducible refine (id_any' _ _ _ _ _ _ (hb2.below hBd) (by omega) HPk.out).mono ?_); rintro e w4 ⟨a4, k4, c4, rfl, hb4, hown4⟩; have hs4 := own_bs hown4; have HK4 := Lib.hid (retB_len hown4); have hBe := Below.next hBd hb4)
                  | (go_at_call 19; (with_reducible refine (num_any _ _ _ _ _ _ hs5 (by have h1 := HK5.out; have h2 := HLs.out; simp only [List.length_append] at h1 ⊢; omega)).mono ?_); rintro e w6 ⟨a6, k6, c6, rfl, hb6, hown6⟩; have hs6 := own_bs hown6; have HK6 := Lib.hid (retB_len hown6); have hBg := Below.next hBf hb6)
                  | (go_at_call 19; (with_reducible refine (num_any _ _ _ _ _ _ hs4 (by have h1 := HK4.out; have h2 := HLs.out; simp only [List.length_append] at h1 ⊢; omega)).mono ?_); rintro e w5 ⟨a5, k5, c5, rfl, hb5, hown5⟩; have hs5 := own_bs hown5; have HK5 := Lib.hid (retB_len hown5); have hBf := Below.next hBe hb5)
                  | (go_at_call 21; (with_reducible refine (text_any _ _ _ _ _ _ hs6 (by have h1 := HK6.out; have h2 := HLs.out; have h3 := toS_size l.data; simp only [List.length_append] at h1 ⊢; omega)).mono ?_); rintro e w9 ⟨a9, k9, c9, rfl, hb9, hown9⟩; have hs9 := own_bs hown9; have hBh := Below.next hBg hb9))
              have hb6 : Bs w9 a9 k9 c9 (bodyL l) := HT.out ▸ hs9
              have hB := Below.next hB hBh
              clear hs9 hs6 hs5 hs4 hS hb4 hb5 hcx hb2
              go_wp2_with (first
                | (go_at_call 24; (with_reducible refine (sum_any _ _ _ (bodyL l) _ hb6 HBb.out).mono ?_); rintro e w7 ⟨rfl, hb7⟩; have hb6 := hb6.below hb7; have hB := Below.next hB hb7)
                | (go_at_call 23; (with_reducible refine (four_any _ _ _ (bodyL l) _ _ hb6 HBl.out (sumL_lt _)).mono ?_); rintro e w8 ⟨a8, n8, c8, rfl, hb8, hown8⟩))
              exact bodyPost_ret (v := .tuple #[.slice a8 n8 c8, .int .i64 0]) (by simp [results, Try.results9, go_sem]) rfl (HP.out _ a8 n8 c8 (Below.next hB hb8) (own_base hown8 hB.size))
            · have e4 : (l.kind == 4) = false := by simp [hk4]
              have HT := Lib.hid (show bodyL l = xs by rw [HX.out]; simp only [bodyL, tailL, if_neg hk2, if_neg hk3, if_neg hk4, List.append_nil])
              have hb6 : Bs wr a2 xs.length c2 (bodyL l) := HT.out ▸ hb2
              clear hb2
              go_wp2_with (first
                | (go_at_call 24; (with_reducible refine (sum_any _ _ _ (bodyL l) _ hb6 HBb.out).mono ?_); rintro e w7 ⟨rfl, hb7⟩; have hb6 := hb6.below hb7; have hB := Below.next hB hb7)
                | (go_at_call 23; (with_reducible refine (four_any _ _ _ (bodyL l) _ _ hb6 HBl.out (sumL_lt _)).mono ?_); rintro e w8 ⟨a8, n8, c8, rfl, hb8, hown8⟩))
              exact bodyPost_ret (v := .tuple #[.slice a8 n8 c8, .int .i64 0]) (by simp [results, Try.results9, go_sem]) rfl (HP.out _ a8 n8 c8 (Below.next hB hb8) (own_base hown8 hB.size))

end Go.Proofs.Ytfjbmgfkfeehnaa
