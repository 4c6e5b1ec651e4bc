/- An operation's bytes, the document's way. -/
import Derived.Test.YtdghnfihphlboaaRefW
import Derived.Test.YtdghnfihphlboaaPut
namespace Go.Proofs.Ytdghnfihphlboaa
open Go.RowKit

theorem oversL_snoc (l : List St) (s : St) : oversL (l ++ [s]) = oversL l ++ stL s := by simp [oversL]

set_option maxRecDepth 100000 in
set_option maxHeartbeats 2000000 in
theorem wput_any (o : OpL) (a : Option Addr) (n c : Nat) (w : World) (h : OpA w o a n c) :
    Calls Try.prog 25 #[.agg (opC o (.slice a n c))] w (RetB w (putL o)) := by
  obtain ⟨hsz, x0, x1, x2, x3, x4, x5, x6, x7, x40, xd, xa⟩ := opC_x o (.slice a n c) h.data
  have HG : ∀ w', Below w.heap.size w w' → Calls Try.prog 19 #[.agg (opC o (.slice a n c))] w' (Ret w' (.bool (goodB o))) := fun w' hb => rgood_any o a n c w' (h.below hb)
  revert hsz x0 x1 x2 x3 x4 x5 x6 x7 x40 xd xa HG
  generalize opC o (.slice a n c) = X
  intro hsz x0 x1 x2 x3 x4 x5 x6 x7 x40 xd xa HG
  have hx := blk0 w X 33
  have hB0 : Below w.heap.size w (w.alloc (.cells X 33)) := (Below.refl _ _).alloc (Nat.le_refl _) _
  have hbox := boxed_of hx hsz
  have HS := Lib.hid hsz; have HD := Lib.hid xd; have HOp := Lib.hid h; have HX := Lib.hid hx
  have hg1 := Lib.hid HG; clear HG xa hsz xd h hx
  cases hgd : goodB o with
  | false =>
    have hP := Lib.hid (show putL o = [] by simp [putL, hgd])
    go_enter Try.func25, Try.ntmps25
    go_wp2_with (first
      | (go_at_call 19; (with_reducible refine (hgd ▸ hg1.out _ hB0).mono ?_); rintro e w1 ⟨rfl, hb⟩; have hB := Below.next hB0 hb))
    go_ret
    refine RetB.mk (hB.alloc hB.size _) (own_base (World.ownsRow_made _ _ _ (Nat.le_refl _) (Nat.zero_le _) rfl) hB.size) ?_
    rw [hP.out]
    rfl
  | true =>
    have hk1 := numL_len o.kind
    have hk2 := stL_len o.at_
    have hk3 := stL_len o.node
    have hk4 := stL_len o.parent
    have hj1 : (stL o.at_).length + (stL o.node).length ≤ 140737488355328 := by omega
    have hj2 : (numL o.kind).length + (stL o.at_ ++ stL o.node).length ≤ 140737488355328 := by simp only [List.length_append]; omega
    go_enter Try.func25, Try.ntmps25
    go_wp2_with (first
      | (go_at_call 19; (with_reducible refine (hgd ▸ hg1.out _ hB0).mono ?_); rintro e w1 ⟨rfl, hb⟩; have hB := Below.next hB0 hb; have hx := box_drew ((hb.block _ (blk_cell HX.out).2.2).trans HX.out)))
    have hB := hB.drew
    clear hbox hb
    go_region_held3 (fun w' => w'.heap[w.heap.size]? = some (.cells X 33 (0, 0)) ∧ ∀ j, w'.cell? ⟨w.heap.size, j, none⟩ = X[j]?) (first | assumption | exact box_keep (by assumption) (by assumption))
      (first
        | (go_at_call 48; (with_reducible refine (wnum_any _ _).mono ?_); rintro e w2 ⟨a1, k1, c1, rfl, hb, hown⟩; have hs1 := own_bs hown; have hB := Below.next hB hb)
        | (go_at_call 49; (with_reducible refine (wstamp_any o.at_ _).mono ?_); rintro e w3 ⟨a2, k2, c2, rfl, hb, hown⟩; have hs2 := own_bs hown; have hs1 := hs1.below hb; have hB := Below.next hB hb)
        | (go_at_call 49; (with_reducible refine (wstamp_any o.node _).mono ?_); rintro e w4 ⟨a3, k3, c3, rfl, hb, hown⟩; have hs3 := own_bs hown; have hs1 := hs1.below hb; have hs2 := hs2.below hb; have hB := Below.next hB hb)
        | (go_at_call 24; (with_reducible refine (join_any _ _ _ _ _ _ _ _ _ hs2 hs3 hj1).mono ?_); rintro e w5 ⟨a4, k4, c4, rfl, hb, hown⟩; have hs4 := own_bs hown; have hs1 := hs1.below hb; have hB := Below.next hB hb)
        | (go_at_call 24; (with_reducible refine (join_any _ _ _ _ _ _ _ _ _ hs1 hs4 hj2).mono ?_); rintro e w6 ⟨a5, k5, c5, rfl, hb, hown⟩; have hs5 := own_bs hown; have hO := own_base (base' := w.heap.size) hown hB.size; have hB := Below.next hB hb))
    have hbx1 : w6.heap[w.heap.size]? = some (.cells X 33 (0, 0)) ∧ ∀ j, w6.cell? ⟨w.heap.size, j, none⟩ = X[j]? := by assumption
    have hcx := hbx1.2
    clear hs1 hs2 hs3 hs4 hj1 hj2
    obtain ⟨H, hHd⟩ : ∃ H, numL o.kind ++ (stL o.at_ ++ stL o.node) = H := ⟨_, rfl⟩
    have hHl : H.length ≤ 45 := by rw [← hHd]; simp only [List.length_append]; omega
    have hP := Lib.hid (show putL o = H ++ tailL o by simp [putL, hgd, ← hHd])
    rw [hHd] at hs5
    clear hHd
    by_cases hk : o.kind = 1
    · have hk' : (o.kind == 1) = true := by simpa using hk
      have hT := Lib.hid (show tailL o = stL o.parent ++ textL o.name by simp [tailL, hk])
      have hnb : nameB o.name = true := by
        have : moveB o = true := by simp [goodB, hk] at hgd; exact hgd.2
        simp [moveB] at this
        exact this.1.1.2
      have hn60 : o.name.size ≤ 60 := by simp [nameB] at hnb; exact hnb.1.1.1.2
      have htl : (textL o.name).length ≤ 69 := by
        have := numL_len o.name.size
        have := strB_len o.name
        simp only [textL, List.length_append]
        omega
      have hj1 : (stL o.parent).length + (textL o.name).length ≤ 140737488355328 := by omega
      have hj2 : H.length + (stL o.parent ++ textL o.name).length ≤ 140737488355328 := by simp only [List.length_append]; omega
      have hns : o.name.size ≤ 140737488351232 := by omega
      clear hn60 hnb htl hk1 hk2 hk3 hk4 hHl
      go_wp2_with fail
      have hbx := box_drew hbx1.1
      have hs5 := hs5.drew
      have hB := hB.drew
      go_region_held3 (fun w' => w'.heap[w.heap.size]? = some (.cells X 33 (0, 0)) ∧ ∀ j, w'.cell? ⟨w.heap.size, j, none⟩ = X[j]?) (first | assumption | exact box_keep (by assumption) (by assumption))
        (first
          | (go_at_call 49; (with_reducible refine (wstamp_any o.parent _).mono ?_); rintro e w7 ⟨a6, k6, c6, rfl, hb, hown⟩; have hs6 := own_bs hown; have hs5 := hs5.below hb; have hB := Below.next hB hb)
          | (go_at_call 50; (with_reducible refine (wtext_any o.name _ hns).mono ?_); rintro e w8 ⟨a7, k7, c7, rfl, hb, hown⟩; have hs7 := own_bs hown; have hs5 := hs5.below hb; have hs6 := hs6.below hb; have hB := Below.next hB hb)
          | (go_at_call 24; (with_reducible refine (join_any _ _ _ _ _ _ _ _ _ hs6 hs7 hj1).mono ?_); rintro e w9 ⟨a8, k8, c8, rfl, hb, hown⟩; have hs8 := own_bs hown; have hs5 := hs5.below hb; have hB := Below.next hB hb)
          | (go_at_call 24; (with_reducible refine (join_any _ _ _ _ _ _ _ _ _ hs5 hs8 hj2).mono ?_); rintro e w10 ⟨a9, k9, c9, rfl, hb, hown⟩; have hO := own_base (base' := w.heap.size) hown hB.size; have hB := Below.next hB hb))
      go_wp2_with fail
      go_ret
      refine RetB.mk hB hO ?_
      rw [hP.out, hT.out]
    · have hk' : (o.kind == 1) = false := by simpa using hk
      have hT := Lib.hid (show tailL o = o.data ++ numL o.over.length ++ oversL o.over by simp [tailL, hk])
      have hk2' : o.kind = 2 := by
        simp [goodB, hk] at hgd
        exact hgd.2.1
      have hed : editB o = true := by simp [goodB, hk2'] at hgd; exact hgd.2
      have hn64 : o.over.length ≤ 64 := by simp [editB, editH] at hed; exact hed.1.2
      have hnl := HOp.out.len
      have hcap := HOp.out.over.cap
      have hle := HOp.out.over.le
      unfold maxLen at hcap
      have hdl := HOp.out.data
      have hnum := numL_len n
      have hj1 : o.data.length + (numL n).length ≤ 140737488355328 := by omega
      have hj2 : H.length + (o.data ++ numL n).length ≤ 140737488355328 := by simp only [List.length_append]; omega
      have hun := Try.underlying30
      have hsz : (Try.prog.info? 30).map (·.size) = some (o.data.map (Value.int .u8)).length := by rw [List.length_map, hdl]; exact size_id
      go_wp2_with fail
      have hbx := box_drew hbx1.1
      have hbx := And.intro hbx.1 (And.intro hbx.2 (box_range hbx.1 HD.out))
      have hs5 := hs5.drew
      have hB := hB.drew
      go_region_held3 (fun w' => w'.heap[w.heap.size]? = some (.cells X 33 (0, 0)) ∧ (∀ j, w'.cell? ⟨w.heap.size, j, none⟩ = X[j]?) ∧ w'.rangeAt w.heap.size 8 (o.data.map (Value.int .u8))) (first | assumption | exact box_keep3 HD.out (by assumption) (by assumption))
        (first
          | (go_at_call 51; refine (wid_any o.data _ hdl).mono ?_; rintro e w7 ⟨a6, k6, c6, rfl, hb, hown⟩; have hs6 := own_bs hown; have hs5 := hs5.below hb; have hB := Below.next hB hb)
          | (go_at_call 48; (with_reducible refine (wnum_any _ _).mono ?_); rintro e w8 ⟨a7, k7, c7, rfl, hb, hown⟩; have hs7 := own_bs hown; have hs5 := hs5.below hb; have hs6 := hs6.below hb; have hB := Below.next hB hb)
          | (go_at_call 24; (with_reducible refine (join_any _ _ _ _ _ _ _ _ _ hs6 hs7 hj1).mono ?_); rintro e w9 ⟨a8, k8, c8, rfl, hb, hown⟩; have hs8 := own_bs hown; have hs5 := hs5.below hb; have hB := Below.next hB hb)
          | (go_at_call 24; (with_reducible refine (join_any _ _ _ _ _ _ _ _ _ hs5 hs8 hj2).mono ?_); rintro e w10 ⟨a9, k9, c9, rfl, hb, hown⟩; have hO := own_base (base' := w.heap.size) hown hB.size; have hB := Below.next hB hb))
      have hbx2 : w10.heap[w.heap.size]? = some (.cells X 33 (0, 0)) ∧ (∀ j, w10.cell? ⟨w.heap.size, j, none⟩ = X[j]?) ∧ w10.rangeAt w.heap.size 8 (o.data.map (Value.int .u8)) := by assumption
      have hx := hbx2.1
      obtain ⟨T, hTd⟩ : ∃ T, H ++ (o.data ++ numL n) = T := ⟨_, rfl⟩
      have hTl : T.length ≤ 90 := by rw [← hTd]; simp only [List.length_append, hdl]; omega
      have hQ := Lib.hid (show putL o = T ++ oversL o.over by rw [hP.out, hT.out, ← hTd, hnl]; simp)
      rw [hTd] at hO
      clear hbx2 hbx1 hbx hun hsz hed hgd hTd hs5 hs6 hs7 hs8 hdl hj1 hj2 hnum hown
      have HN := Lib.hid hnl
      clear hnl
      go_upto_region 8 with fail
      go_loopw [3, 4] (fun v i wr => ∃ (j : Nat) (a1 : Option Addr) (k1 c1 : Nat), j ≤ n ∧ i = .int .i64 j ∧ v = .slice a1 k1 c1 ∧ wr.ownsRow w.heap.size 5 1 (.slice a1 k1 c1) k1 ((T ++ oversL (o.over.take j)).map (Value.int .u8)) ∧ Below w.heap.size w wr ∧ wr.heap[w.heap.size]? = some (.cells X 33 (0, 0))) (fun _ i _ => n - (intOf i).toNat)
      case atStart => exact ⟨0, _, _, _, Nat.zero_le _, rfl, rfl, by simpa [oversL] using hO, hB, hx⟩
      case round =>
        clear hcx hx hO hB
        obtain ⟨j, a2, k2, c2, hj, rfl, rfl, hO, hB, hx⟩ := hrel
        have hcx := (blk_cell hx).1
        by_cases hjn : j < n
        · obtain ⟨b0, off, rfl, hc⟩ := Sl.st HOp.out.over (by omega)
          obtain ⟨s, hs⟩ : ∃ s, o.over[j]? = some s := ⟨_, List.getElem?_eq_getElem (by have := HN.out; omega)⟩
          have G := hc j s hs
          have g1 := Below.old hB (Nat.le_refl _) G.1
          have g2 := Below.old hB (Nat.le_refl _) G.2
          have hbs := own_bs hO
          have hTj : (T ++ oversL (o.over.take j)).length + (stL s).length ≤ 140737488355328 := by
            have h1 := overs_len (o.over.take j)
            have h2 : (o.over.take j).length ≤ 64 := by simp; omega
            have h3 := stL_len s
            simp only [List.length_append]; omega
          have H1 := Lib.hid hs
          clear hc G hs hO
          go_wp2_with (first
            | (go_at_call 49; (with_reducible refine (wstamp_any s _).mono ?_); rintro e w11 ⟨a3, k3, c3, rfl, hb, hown⟩; have hs6 := own_bs hown; have hbs := hbs.below hb; have hx := (hb.block _ (blk_cell hx).2.2).trans hx; have hB := Below.next hB hb)
            | (go_at_call 24; (with_reducible refine (join_any _ _ _ _ _ _ _ _ _ hbs hs6 hTj).mono ?_); rintro e w12 ⟨a4, k4, c4, rfl, hb, hown⟩; have hO := own_base (base' := w.heap.size) hown hB.size; have hx := (hb.block _ (blk_cell hx).2.2).trans hx; have hB := Below.next hB hb))
          go_roundw
          case rel =>
            refine ⟨j + 1, _, _, _, by omega, by go_num, rfl, ?_, hB, hx⟩
            rw [List.take_add_one, H1.out]
            simpa [oversL_snoc] using hO
          case measure => simp [intOf]; omega
        · obtain rfl : j = n := by omega
          go_wp2_with fail
          go_ret
          refine RetB.mk hB hO ?_
          rw [hQ.out, List.take_of_length_le (by have := HN.out; omega)]

end Go.Proofs.Ytdghnfihphlboaa
