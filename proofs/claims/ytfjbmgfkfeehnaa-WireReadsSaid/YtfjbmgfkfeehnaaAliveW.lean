/- The document's example holds. -/
import Derived.Test.YtfjbmgfkfeehnaaRnd
namespace Go.Proofs.Ytfjbmgfkfeehnaa
open Go.RowKit

def ask : LetL := mk0 1 1 2 5
theorem ask_ok : LetOk ask := mk0_ok _ _ _ _
theorem ask_right : rightB ask = true := by decide +kernel
theorem ask_body : bodyL ask = [1, 1, 2, 5] := by
  have e1 : numL 1 = [1] := by rw [numL, clampN_of (by omega) (by omega), numB_lt (by decide)]; rfl
  have e2 : numL 2 = [2] := by rw [numL, clampN_of (by omega) (by omega), numB_lt (by decide)]; rfl
  have e5 : numL 5 = [5] := by rw [numL, clampN_of (by omega) (by omega), numB_lt (by decide)]; rfl
  simp [bodyL, nums, ask, mk0, tailL, e1, e2, e5]
theorem ask_wire : ∃ x4 x5 x6 x7, wireL ask = [1, 1, 2, 5, x4, x5, x6, x7] := ⟨_, _, _, _, by rw [wireL, ask_body]; rfl⟩
theorem ask_a (w : World) : LetA w ask LS.none := ⟨Rfs.empty w, Ids.empty w, Ids.empty w, Sl.empty w 1, rfl, .nil, zero32_bytes⟩
theorem zeroL_a (w : World) : LetA w zeroL LS.none := ⟨Rfs.empty w, Ids.empty w, Ids.empty w, Sl.empty w 1, rfl, .nil, zero32_bytes⟩

set_option maxRecDepth 100000 in
set_option maxHeartbeats 4000000 in
theorem alive_any (w : World) : Calls Try.prog 8 #[] w (Ret w (.bool true)) := by
  have hw : Calls Try.prog 9 #[.agg (letC ask LS.none)] w (WrPost w ask) := wirewrite_any ask LS.none w (ask_a w)
  have hrt := ask_right
  obtain ⟨x4, x5, x6, x7, hx⟩ := ask_wire
  have hrd := read_round ask_right ask_ok
  have hby : IsBytes (wireL ask) := (body_bytes ask_ok).append (fourL_bytes (sumL_lt _))
  have HRd := Lib.hid hrd; have HBy := Lib.hid hby; have HRt := Lib.hid hrt; have HX := Lib.hid hx
  clear hrd hby hrt hx
  go_enter Try.func8, Try.ntmps8
  go_wp2_with fail
  go_at_call 9
  refine Calls.mono (show Calls _ _ _ _ _ from hw) ?_
  rintro e w1 he
  unfold WrPost at he
  rw [if_pos HRt.out] at he
  obtain ⟨a, n, c, rfl, hb1, hown⟩ := he
  dsimp only
  have hbs := own_bs hown
  have hlen := hbs.length
  rw [HX.out] at hlen
  obtain rfl : 8 = n := hlen
  obtain ⟨b, off, rfl, hc⟩ := hbs.at (by omega)
  have k0 := hc 0 1 (by rw [HX.out]; rfl)
  rw [Nat.add_zero] at k0
  have k3 := hc 3 5 (by rw [HX.out]; rfl)
  have hread := wireread_any _ _ _ _ w1 hbs HBy.out
  go_wp2_with fail
  go_at_call 15
  refine hread.mono ?_
  rintro e w2 he
  unfold RdPost at he
  rw [HRd.out] at he
  obtain ⟨s, rfl, hb2, hA⟩ := he
  dsimp only
  have k0 := Below.old hb2 (Nat.le_refl _) k0
  have k3 := Below.old hb2 (Nat.le_refl _) k3
  have hB := Below.next hb1 hb2
  (repeat ((fail_if_success (with_reducible show wpList _ _ _ (Oper.mk _ (Op.store _ _ _) _ _ _ _ :: _) _ _)); first | go_values | go_skip | go_guarded | go_step | go_upon))
  have hz := blk0 w2 (letC zeroL LS.none) 28
  refine wpList_store_seg (w := w2.alloc (.cells (letC zeroL LS.none) 28)) rfl 28 _ _ rfl rfl w2.heap.size 0 rfl (letC ask s) rfl 28 (letC zeroL LS.none) hz (by rw [letC_size _ _ rfl, letC_size _ _ rfl]; decide) (info_let' _ _ rfl) (letC_one _ _) (letC ask s) (put_whole _ _ (by rw [letC_size _ _ rfl, letC_size _ _ rfl])) ?_
  intro w3 hq3 hg3 _
  have hB3 : Below w2.heap.size w2 w3 := (grow1' w2 (letC zeroL LS.none) 28).grown hg3 (by simp) (fun k hk => by cases hk; omega)
  have k0 := Below.old hB3 (Nat.le_refl _) k0
  have k3 := Below.old hB3 (Nat.le_refl _) k3
  have hB := Below.next hB hB3
  have hA := Lib.hid (hA.below hB3)
  have c0 := show w3.cell? ⟨w2.heap.size, 0, none⟩ = some (.int .i64 1) from (blk_cell hq3).1 0
  have c2 := show w3.cell? ⟨w2.heap.size, 2, none⟩ = some (.int .i64 2) from (blk_cell hq3).1 2
  have hsl := seg_let hq3 (show ask.pack.length = 32 from rfl)
  have hR := fun W (hb : Below w3.heap.size w3 W) => HRt.out ▸ right_any ask s W (hA.out.below hb)
  have hS1 := fun W (hb : Below w3.heap.size w3 W) => same_any ask ask s s W (hA.out.below hb) (hA.out.below hb)
  have hS2 := fun W (hb : Below w3.heap.size w3 W) => same_any ask zeroL s LS.none W (hA.out.below hb) (zeroL_a W)
  rw [show decide (ask = ask) = true from by simp] at hS1
  rw [show decide (ask = zeroL) = false from by decide +kernel] at hS2
  have HR := Lib.hid hR; have HS1 := Lib.hid hS1; have HS2 := Lib.hid hS2
  have hB0 := Below.refl w3.heap.size w3
  clear hR hS1 hS2 hz hg3 hq3 hB3 hbs hread hc hown hw hb1 hb2
  generalize w2.heap.size = q at *
  generalize letC ask s = Y at *
  go_wp2_with (first
    | (go_at_call 12; (with_reducible refine (HR.out _ (by assumption)).mono ?_); rintro e w4 ⟨rfl, hb4⟩; have hB4 := Below.next hB0 hb4; have hsl := seg_below hsl hb4)
    | (go_at_call 13; (with_reducible refine (HS1.out _ (by assumption)).mono ?_); rintro e w5 ⟨rfl, hb5⟩; have hB5 := Below.next hB4 hb5; have hsl := seg_below hsl hb5)
    | (go_at_call 13; refine (HS2.out _ hB5).mono ?_; rintro e w6 ⟨rfl, hb6⟩; have hB6 := Below.next hB5 hb6))
  go_ret
  exact Ret.mk rfl (Below.next hB hB6)

end Go.Proofs.Ytfjbmgfkfeehnaa
