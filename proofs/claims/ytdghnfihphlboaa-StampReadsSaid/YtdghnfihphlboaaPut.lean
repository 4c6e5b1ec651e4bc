/- An operation's bytes are written. -/
import Derived.Test.YtdghnfihphlboaaGoodS
import Derived.Deep.RegionHeld3
import Derived.Deep.Cut
namespace Go.Proofs.Ytdghnfihphlboaa
open Go.RowKit

def stL (s : St) : List Int := numL s.t ++ numL s.r
def oversL (l : List St) : List Int := l.flatMap stL
/-- What stands behind an operation's head. -/
def tailL (o : OpL) : List Int := if o.kind = 1 then stL o.parent ++ textL o.name else o.data ++ numL o.over.length ++ oversL o.over
def putL (o : OpL) : List Int := if goodB o then numL o.kind ++ stL o.at_ ++ stL o.node ++ tailL o else []

theorem stL_len (s : St) : (stL s).length ≤ 18 := by
  have := numL_len s.t
  have := numL_len s.r
  simp only [stL, List.length_append]; omega

theorem overs_len (l : List St) : (oversL l).length ≤ l.length * 18 := by
  induction l with
  | nil => simp [oversL]
  | cons s l ih =>
    have := stL_len s
    simp only [oversL, List.flatMap_cons, List.length_append, List.length_cons] at ih ⊢
    omega
theorem overs_snoc (l : List St) (s : St) : oversL (l ++ [s]) = oversL l ++ stL s := by simp [oversL]

/-- A box and its cells. -/
theorem box_keep {W W' : World} {g : Nat} {X : Array Value} {t : TypeId} (h : W.heap[g]? = some (.cells X t (0, 0)) ∧ ∀ j, W.cell? ⟨g, j, none⟩ = X[j]?) (hb : Below W.heap.size W W') :
    W'.heap[g]? = some (.cells X t (0, 0)) ∧ ∀ j, W'.cell? ⟨g, j, none⟩ = X[j]? :=
  let h1 := (hb.block _ (blk_cell h.1).2.2).trans h.1
  ⟨h1, (blk_cell h1).1⟩
theorem box_drew {W : World} {g : Nat} {X : Array Value} {t : TypeId} (h : W.heap[g]? = some (.cells X t (0, 0))) :
    W.drew.heap[g]? = some (.cells X t (0, 0)) ∧ ∀ j, W.drew.cell? ⟨g, j, none⟩ = X[j]? := ⟨h, (blk_cell (w := W.drew) h).1⟩

/-- A box that holds an ID at offset 8. -/
theorem box_range {W : World} {g : Nat} {X : Array Value} {d : List Int} {t : TypeId} (h : W.heap[g]? = some (.cells X t (0, 0))) (hd : X.extract 8 40 = idC d) : W.rangeAt g 8 (d.map (Value.int .u8)) := by
  have := World.rangeAt_of_block h 8 32
  rw [show 8 + 32 = 40 from rfl, hd] at this
  simpa [idC] using this
theorem box_keep3 {W W' : World} {g : Nat} {X : Array Value} {d : List Int} {t : TypeId} (hd : X.extract 8 40 = idC d) (h : W.heap[g]? = some (.cells X t (0, 0)) ∧ (∀ j, W.cell? ⟨g, j, none⟩ = X[j]?) ∧ W.rangeAt g 8 (d.map (Value.int .u8))) (hb : Below W.heap.size W W') :
    W'.heap[g]? = some (.cells X t (0, 0)) ∧ (∀ j, W'.cell? ⟨g, j, none⟩ = X[j]?) ∧ W'.rangeAt g 8 (d.map (Value.int .u8)) :=
  let h1 := (hb.block _ (blk_cell h.1).2.2).trans h.1
  ⟨h1, (blk_cell h1).1, box_range h1 hd⟩

set_option maxRecDepth 100000 in
set_option maxHeartbeats 1000000 in
theorem oput_any (b : Option Addr) (k m : Nat) (l : List Int) (o : OpL) (a : Option Addr) (n c : Nat) (w : World) (hb : Bs w b k m l) (hl : l.length + 4000 ≤ 140737488355328) (h : OpA w o a n c) :
    Calls Try.prog 22 #[.slice b k m, .agg (opC o (.slice a n c))] w (RetB w (l ++ putL o)) := by
  obtain ⟨hsz, x0, x1, x2, x3, x4, x5, x6, x7, x40, xd, xa⟩ := opC_x o (.slice a n c) h.data
  have HG : ∀ w', Below w.heap.size w w' → Calls Try.prog 18 #[.agg (opC o (.slice a n c))] w' (Ret w' (.bool (goodB o))) := fun w' hb => good_any o a n c w' (h.below hb)
  revert hsz x0 x1 x2 x3 x4 x5 x6 x7 x40 xd xa HG
  generalize opC o (.slice a n c) = X
  intro hsz x0 x1 x2 x3 x4 x5 x6 x7 x40 xd xa HG
  have hx := blk0 w X 33
  have hcx := (blk_cell hx).1
  have hB0 : Below w.heap.size w (w.alloc (.cells X 33)) := (Below.refl _ _).alloc (Nat.le_refl _) _
  have HX := Lib.hid xa; have HS := Lib.hid hsz; have HD := Lib.hid xd; have HBs := Lib.hid hb; have HOp := Lib.hid h
  have hg1 := Lib.hid HG; clear HG xa hsz xd hb h
  cases hgd : goodB o with
  | false =>
    have hP := Lib.hid (show l ++ putL o = l by simp [putL, hgd])
    go_enter Try.func22, Try.ntmps22
    go_wp2_with (first
      | (with_reducible show wpList _ _ _ _ _ _; refine wpList_load_seg ?hw 33 _ rfl w.heap.size 0 rfl 33 X (0, 0) _ 41 hx (by rw [HS.out]; omega) Try.underlying33 rfl info_op X HX.out ?_; (case hw => (simp [go_sem]; done)))
      | (go_at_call 18; (with_reducible refine (hgd ▸ hg1.out _ (by assumption)).mono ?_); rintro e w1 ⟨rfl, hb⟩; have hB := Below.next (w := w) (by assumption) hb; have hx := (hb.block _ (blk_cell hx).2.2).trans hx; have hcx := (blk_cell hx).1; have hb := hb)
      | (go_at_call 43; refine (clone_bytes _ _ _ _ _ (HBs.out.below (by assumption)) (by omega)).mono ?_; rintro e w2 ⟨a1, k1, c1, rfl, hb2, hown⟩))
    go_ret
    refine RetB.mk (Below.next hB hb2) (own_base hown hB.size) ?_
    rw [hP.out]
  | true =>
    have hk1 := numL_len o.kind
    have hk2 := stL_len o.at_
    have hk3 := stL_len o.node
    have hk4 := stL_len o.parent
    go_enter Try.func22, Try.ntmps22
    go_wp2_with (first
      | (with_reducible show wpList _ _ _ _ _ _; refine wpList_load_seg ?hw 33 _ rfl w.heap.size 0 rfl 33 X (0, 0) _ 41 hx (by rw [HS.out]; omega) Try.underlying33 rfl info_op X HX.out ?_; (case hw => (simp [go_sem]; done)))
      | (go_at_call 18; (with_reducible refine (hgd ▸ hg1.out _ (by assumption)).mono ?_); rintro e w1 ⟨rfl, hb⟩; have hB := Below.next (w := w) (by assumption) hb; have hx := (hb.block _ (blk_cell hx).2.2).trans hx; have hcx := (blk_cell hx).1; have hb := hb))
    have hbx := box_drew hx
    have hb1 : Bs w1.drew b k m l := (HBs.out.below hB).drew
    have hl1 : l.length + 9 ≤ 140737488355328 := by omega
    have hl2 : (l ++ numL o.kind).length + 18 ≤ 140737488355328 := by simp only [List.length_append]; omega
    have hl3 : (l ++ numL o.kind ++ stL o.at_).length + 18 ≤ 140737488355328 := by simp only [List.length_append]; omega
    have hB := hB.drew
    go_region_held3 (fun w' => w'.heap[w.heap.size]? = some (.cells X 33 (0, 0)) ∧ ∀ j, w'.cell? ⟨w.heap.size, j, none⟩ = X[j]?) (first | assumption | exact box_keep (by assumption) (by assumption))
      (first
        | (go_at_call 45; refine (num_any _ _ _ _ _ _ (by assumption) (by assumption)).mono ?_; rintro e w1 ⟨a1, k1, c1, rfl, hb, hown⟩; have hs := own_bs hown; have hO := own_base (base' := w.heap.size) hown (Below.size (by assumption)); have hB := Below.next (w := w) (by assumption) hb; have hb := hb)
        | (go_at_call 44; refine (put_any _ _ _ _ _ _ _ (by assumption) (by assumption)).mono ?_; rintro e w1 ⟨a1, k1, c1, rfl, hb, hown⟩; have hs := own_bs hown; have hO := own_base (base' := w.heap.size) hown (Below.size (by assumption)); have hB := Below.next (w := w) (by assumption) hb; have hb := hb))
    have hbx1 : w1.heap[w.heap.size]? = some (.cells X 33 (0, 0)) ∧ ∀ j, w1.cell? ⟨w.heap.size, j, none⟩ = X[j]? := by assumption
    have hcx := hbx1.2
    have hlen0 := hs.length
    have hH : l ++ numL o.kind ++ (numL o.at_.t ++ numL o.at_.r) ++ (numL o.node.t ++ numL o.node.r) = l ++ (numL o.kind ++ stL o.at_ ++ stL o.node) := by simp [stL]
    obtain ⟨H, hHd⟩ : ∃ H, numL o.kind ++ stL o.at_ ++ stL o.node = H := ⟨_, rfl⟩
    have hHl : H.length ≤ 45 := by rw [← hHd]; simp only [List.length_append]; omega
    rw [hHd] at hH
    rw [hH] at hs hO
    have hP := Lib.hid (show l ++ putL o = l ++ H ++ tailL o by simp [putL, hgd, ← hHd])
    have hlH : (l ++ H).length ≤ l.length + 45 := by simp only [List.length_append]; omega
    clear hH hHd hown
    by_cases hk : o.kind = 1
    · have hk' : (o.kind == 1) = true := by simpa using hk
      have hT := Lib.hid (show tailL o = stL o.parent ++ textL o.name by simp [tailL, hk])
      have hnm := HOp.out.name
      have hnb : nameB o.name = true := by
        have : moveB o = true := by simp [goodB, hk] at hgd; exact hgd.2
        simp [moveB] at this
        exact this.1.1.2
      have hn60 : o.name.size ≤ 60 := by simp [nameB] at hnb; exact hnb.1.1.1.2
      have hm1 : (l ++ H).length + 18 ≤ 140737488355328 := by omega
      have hm2 : (l ++ H ++ (numL o.parent.t ++ numL o.parent.r)).length + 9 + o.name.size ≤ 140737488355328 := by
        rw [List.length_append]
        have := hk4
        unfold stL at this
        omega
      go_wp2_with fail
      have hbx := box_drew hbx1.1
      have hs := hs.drew
      have hB := hB.drew
      go_region_held3 (fun w' => w'.heap[w.heap.size]? = some (.cells X 33 (0, 0)) ∧ ∀ j, w'.cell? ⟨w.heap.size, j, none⟩ = X[j]?) (first | assumption | exact box_keep (by assumption) (by assumption))
        (first
          | (go_at_call 46; refine (text_any _ _ _ _ _ _ (by assumption) (by assumption)).mono ?_; rintro e w1 ⟨a1, k1, c1, rfl, hb, hown⟩; have hs := own_bs hown; have hO := own_base (base' := w.heap.size) hown (Below.size (by assumption)); have hB := Below.next (w := w) (by assumption) hb; have hb := hb)
          | (go_at_call 44; refine (put_any _ _ _ _ _ _ _ (by assumption) (by assumption)).mono ?_; rintro e w1 ⟨a1, k1, c1, rfl, hb, hown⟩; have hs := own_bs hown; have hO := own_base (base' := w.heap.size) hown (Below.size (by assumption)); have hB := Below.next (w := w) (by assumption) hb; have hb := hb))
      go_wp2_with fail
      go_ret
      refine RetB.mk hB hO ?_
      rw [hP.out, hT.out]
      simp [stL]
    · have hk' : (o.kind == 1) = false := by simpa using hk
      have hT := Lib.hid (show tailL o = o.data ++ numL o.over.length ++ oversL o.over by simp [tailL, hk])
      have hk2 : o.kind = 2 := by
        simp [goodB, hk] at hgd
        exact hgd.2.1
      have hed : editB o = true := by simp [goodB, hk2] at hgd; exact hgd.2
      have hn64 : o.over.length ≤ 64 := by simp [editB, editH] at hed; exact hed.1.2
      have hnl := HOp.out.len
      have hcap := HOp.out.over.cap
      have hle := HOp.out.over.le
      unfold maxLen at hcap
      have hdl := HOp.out.data
      have hnum := numL_len n
      have hm1 : (l ++ H).length + 32 ≤ 140737488355328 := by omega
      have hm2 : (l ++ H ++ o.data).length + 9 ≤ 140737488355328 := by rw [List.length_append, hdl]; omega
      have hun := Try.underlying30
      have hsz : (Try.prog.info? 30).map (·.size) = some (o.data.map (Value.int .u8)).length := by rw [List.length_map, hdl]; exact size_id
      go_wp2_with fail
      have hbx := box_drew hbx1.1
      have hbx := And.intro hbx.1 (And.intro hbx.2 (box_range hbx.1 HD.out))
      have hs := hs.drew
      have hB := hB.drew
      go_region_held3 (fun w' => w'.heap[w.heap.size]? = some (.cells X 33 (0, 0)) ∧ (∀ j, w'.cell? ⟨w.heap.size, j, none⟩ = X[j]?) ∧ w'.rangeAt w.heap.size 8 (o.data.map (Value.int .u8))) (first | assumption | exact box_keep3 HD.out (by assumption) (by assumption))
        (first
          | (go_at_call 47; refine (id_any _ _ _ _ _ _ (by assumption) (by assumption) (by assumption)).mono ?_; rintro e w1 ⟨a1, k1, c1, rfl, hb, hown⟩; have hs := own_bs hown; have hO := own_base (base' := w.heap.size) hown (Below.size (by assumption)); have hB := Below.next (w := w) (by assumption) hb; have hb := hb)
          | (go_at_call 45; refine (num_any _ _ _ _ _ _ (by assumption) (by assumption)).mono ?_; rintro e w1 ⟨a1, k1, c1, rfl, hb, hown⟩; have hs := own_bs hown; have hO := own_base (base' := w.heap.size) hown (Below.size (by assumption)); have hB := Below.next (w := w) (by assumption) hb; have hb := hb))
      have hbx2 : w1.heap[w.heap.size]? = some (.cells X 33 (0, 0)) ∧ (∀ j, w1.cell? ⟨w.heap.size, j, none⟩ = X[j]?) ∧ w1.rangeAt w.heap.size 8 (o.data.map (Value.int .u8)) := by assumption
      have hcx := hbx2.2.1
      have hx := hbx2.1
      have HA := Lib.hid hbx2
      clear hbx2 hbx1 hbx hun hsz hed hgd
      obtain ⟨T, hTd⟩ : ∃ T, l ++ H ++ o.data ++ numL n = T := ⟨_, rfl⟩
      have hTl : T.length ≤ l.length + 90 := by rw [← hTd]; simp only [List.length_append, hdl]; omega
      have hQ := Lib.hid (show l ++ putL o = T ++ oversL o.over by rw [hP.out, hT.out, ← hTd, hnl]; simp)
      rw [hTd] at hO
      clear hTd hs hdl hm1 hm2 hown hnum
      have HN := Lib.hid hnl
      go_upto_region 8 with fail
      go_loopw [0, 43] (fun v i wr => ∃ (j : Nat) (a1 : Option Addr) (k1 c1 : Nat), j ≤ n ∧ i = .int .i64 j ∧ v = .slice a1 k1 c1 ∧ wr.ownsRow w.heap.size 5 1 (.slice a1 k1 c1) k1 ((T ++ oversL (o.over.take j)).map (Value.int .u8)) ∧ Below w.heap.size w wr) (fun _ i _ => n - (intOf i).toNat)
      case atStart => exact ⟨0, _, _, _, Nat.zero_le _, rfl, rfl, by simpa [oversL] using hO, hB⟩
      case round =>
        clear hcx hx hO hB
        obtain ⟨j, a2, k2, c2, hj, rfl, rfl, hO, hB⟩ := hrel
        by_cases hjn : j < n
        · obtain ⟨b0, off, rfl, hc⟩ := Sl.st HOp.out.over (by omega)
          obtain ⟨s, hs⟩ : ∃ s, o.over[j]? = some s := ⟨_, List.getElem?_eq_getElem (by have := HN.out; omega)⟩
          have G := hc j s hs
          have g1 := Below.old hB (Nat.le_refl _) G.1
          have g2 := Below.old hB (Nat.le_refl _) G.2
          have hbs := ((own_bs hO).alloc (.cells #[.int .i64 s.t, .int .i64 s.r] 23))
          have hTj : (T ++ oversL (o.over.take j)).length + 18 ≤ 140737488355328 := by
            have h1 := overs_len (o.over.take j)
            have h2 : (o.over.take j).length ≤ 64 := by simp; omega
            simp only [List.length_append]; omega
          have hB1 := hB.alloc hB.size (.cells #[.int .i64 s.t, .int .i64 s.r] 23)
          have H1 := Lib.hid hs
          clear hc G hs hO
          go_wp2_with (go_at_call 44; refine (put_any _ _ _ _ _ _ _ hbs hTj).mono ?_; rintro e w3 ⟨a3, k3, c3, rfl, hb3, hown3⟩)
          go_roundw
          case rel =>
            refine ⟨j + 1, _, _, _, by omega, by go_num, rfl, ?_, Below.next hB1 hb3⟩
            have := own_base (base' := w.heap.size) hown3 hB1.size
            rw [List.take_add_one, H1.out]
            simpa [overs_snoc, oversL, stL] using this
          case measure => simp [intOf]; omega
        · obtain rfl : j = n := by omega
          go_wp2_with fail
          go_ret
          refine RetB.mk hB hO ?_
          rw [hQ.out, List.take_of_length_le (by have := HN.out; omega)]

end Go.Proofs.Ytdghnfihphlboaa
