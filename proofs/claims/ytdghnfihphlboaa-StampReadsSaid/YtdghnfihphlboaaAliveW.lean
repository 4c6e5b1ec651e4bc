/- The document's examples hold. -/
import Derived.Test.YtdghnfihphlboaaBox
namespace Go.Proofs.Ytdghnfihphlboaa
open Go.RowKit

set_option maxRecDepth 100000 in
set_option maxHeartbeats 4000000 in
theorem alive_any (w : World) : Calls Try.prog 11 #[] w (Ret w (.bool true)) := by
  go_enter Try.func11, Try.ntmps11
  go_wp2_with fail
  go_at_call 33
  refine (first_any _).mono ?_
  rintro e w1 ⟨rfl, hb1⟩
  dsimp only
  (repeat ((fail_if_success (with_reducible show wpList _ _ _ (Oper.mk _ (Op.store _ _ _) _ _ _ _ :: _) _ _)); first | go_values | go_skip | go_guarded | go_step | go_upon))
  have hz := blk0 w1 (opC zop (.slice none 0 0)) 33
  refine wpList_store_seg (w := w1.alloc (.cells (opC zop (.slice none 0 0)) 33)) rfl 33 _ _ rfl rfl w1.heap.size 0 rfl C1 rfl 33 (opC zop (.slice none 0 0)) hz (by simp [C1, opC, zop, op1]) info_op (opC_one op1 _ rfl) C1 rfl ?_
  intro w2 hq h2 h3
  have hB2 : Below w.heap.size w w2 := (hb1.alloc hb1.size _).grown h2 (by have := hb1.size; simp; omega) (fun k hk => by cases hk; exact hb1.size)
  have hqw : w.heap.size ≤ w1.heap.size := hb1.size
  clear hb1 h2 h3 hz
  generalize w1.heap.size = q at hq hqw ⊢
  have hqs := (blk_cell hq).2.2
  go_wp2_with fail
  have hbs : Bs (w2.alloc (.cells #[.int .u8 1, .int .u8 5, .int .u8 1, .int .u8 5, .int .u8 1, .int .u8 0, .int .u8 0, .int .u8 1, .int .u8 97] 5)) (some ⟨w2.heap.size, 0, none⟩) 9 9 bytes1 := Sl.row (blk0 w2 _ _) 1 9 rfl (by simp [maxLen])
  go_at_call 26
  refine (read_any _ _ _ bytes1 _ hbs (by decide)).mono ?_
  rintro e w3 ⟨g, rfl, hb3, hrd, hgl, hgs⟩
  dsimp only
  have hB3 : Below w.heap.size w w3 := Below.next (hB2.alloc hB2.size _) hb3
  have hq3 : w3.heap[q]? = some (.cells C1 33 (0, 0)) := (hb3.block q (by simp; omega)).trans ((Below.heap_alloc _ _ _ hqs).trans hq)
  have hqg : q < g := by simp at hgl; omega
  clear hbs hb3 hB2 hq hqs hgl
  go_upto_region 3 with fail
  obtain ⟨X, hX⟩ : ∃ X, X = C1 := ⟨_, rfl⟩
  rw [← hX] at hq3
  have hcmp : ∀ w', Calls Try.prog 12 #[.agg #[.int .i64 3, .int .i64 9], .agg #[.int .i64 4, .int .i64 1]] w' (Ret w' (.int .i64 (-1))) := fun w' => (show stCmp ⟨3, 9⟩ ⟨4, 1⟩ = -1 from stCmp_lt (.inl (by decide))) ▸ stcmp_any ⟨3, 9⟩ ⟨4, 1⟩ w'
  have hgood : ∀ w', Calls Try.prog 18 #[.agg (opC op1 (.slice none 0 0))] w' (Ret w' (.bool true)) := fun w' => good_op1 ▸ good_any op1 none 0 0 w' (op1_a w')
  have hput : ∀ w', Calls Try.prog 22 #[.slice none 0 0, .agg (opC op1 (.slice none 0 0))] w' (RetB w' bytes1) := fun w' => by
    have := oput_any none 0 0 [] op1 none 0 0 w' (Sl.empty _ _) (by simp) (op1_a w')
    rwa [put_op1, List.nil_append] at this
  have hsz : X.size = 41 := hX ▸ rfl
  rw [show opC op1 (.slice none 0 0) = X from hX ▸ rfl] at hgood hput
  have hx1 : ∀ w', OpA w' op1 none 0 0 := fun w' => op1_a w'
  have hsame : ∀ a n c w', OpA w' op1 a n c → Calls Try.prog 20 #[.agg (opC op1 (.slice a n c)), .agg X] w' (Ret w' (.bool true)) := fun a n c w' h => by
    have := same_any op1 op1 a n c none 0 0 w' h (op1_a w')
    rwa [same_op1, show opC op1 (.slice none 0 0) = X from hX ▸ rfl] at this
  clear hX
  have HS := Lib.hid hsame
  clear hsame
  have HC := Lib.hid hcmp
  clear hcmp
  have HG := Lib.hid hgood
  clear hgood
  have HP := Lib.hid hput
  clear hput
  have hbx := boxed_of (w := w3.drew) hq3 hsz
  clear hq3 hsz
  have hB3 := hB3.drew
  have hrd := hrd.drew
  have hqgw : w.heap.size ≤ g := by omega
  have hbb := Lib.hid (show RdBytes (some bytes1) from fun l h => by
    cases h
    intro x hx
    simp only [bytes1, List.mem_cons, List.not_mem_nil, or_false] at hx
    omega)
  have HR := Lib.hid (show ∀ W : World, Bs (W.alloc (.cells #[.int .u8 1, .int .u8 5, .int .u8 1, .int .u8 5, .int .u8 1, .int .u8 0, .int .u8 0, .int .u8 1, .int .u8 97] 5)) (some ⟨W.heap.size, 0, none⟩) 9 9 bytes1 from fun W => Sl.row (blk0 W _ _) 1 9 rfl (by simp [maxLen]))
  go_region_held3 (fun w' => isBox w' q 33 41 = true ∧ boxAt w' q = X) (first | assumption | exact boxed_below (by assumption) (by assumption) | exact boxed_below (by assumption) ((Below.refl _ _).alloc (Nat.le_refl _) _) | exact boxed_grown (by assumption) (by assumption) (Nat.ne_of_lt hqg))
    (first
      | (go_at_call 12; (with_reducible refine (HC.out _).mono ?_); rintro e w4 ⟨rfl, hb4⟩; have hrd := hrd.belowW hb4 (Nat.le_of_lt hrd.lt); have hB3 := Below.next hB3 hb4)
      | (go_at_call 18; (with_reducible refine (HG.out _).mono ?_); rintro e w5 ⟨rfl, hb5⟩; have hrd := hrd.belowW hb5 (Nat.le_of_lt hrd.lt); have hB3 := Below.next hB3 hb5)
      | (go_at_call 22; (with_reducible refine (HP.out _).mono ?_); rintro e w6 ⟨a6, k6, c6, rfl, hb6, hown6⟩; have hs6 := own_bs hown6; have hrd := hrd.belowW hb6 (Nat.le_of_lt hrd.lt); have hB3 := Below.next hB3 hb6)
      | (go_at_call 22; (with_reducible refine (HP.out _).mono ?_); rintro e w6 ⟨a6, k6, c6, rfl, hb6, hown6⟩; have hs6 := own_bs hown6; have hlit := (HR.out _).below hb6; have hrd := (hrd.alloc (Nat.le_of_lt hrd.lt) _).belowW hb6 (by have := hrd.lt; simp; omega); have hB3 := Below.next (hB3.alloc hB3.size _) hb6)
      | (go_at_call 23; (with_reducible refine (samebytes_any _ _ _ bytes1 _ _ _ bytes1 _ hs6 hlit).mono ?_); rintro e w7 ⟨rfl, hb7⟩; have hrd := hrd.belowW hb7 (Nat.le_of_lt hrd.lt); have hB3 := Below.next hB3 hb7)
      | (go_at_call 23; (with_reducible refine (samebytes_any _ _ _ bytes1 _ _ _ bytes1 _ (hs6.alloc _) (HR.out _)).mono ?_); rintro e w7 ⟨rfl, hb7⟩; have hrd := (hrd.alloc (Nat.le_of_lt hrd.lt) _).belowW hb7 (by have := hrd.lt; simp; omega); have hB3 := Below.next (hB3.alloc hB3.size _) hb7)
      | (go_at_call 27; (with_reducible refine (oget_any g g _ _ hrd hbb.out (Nat.le_of_lt hrd.lt)).mono ?_); rw [get_op1]; rintro e w8 ⟨a8, n8, c8, rfl, hg8, hrd8, ho8⟩; have hB8 := below_grown hB3 hg8 hqgw)
      | (go_at_call 20; (with_reducible refine (HS.out a8 n8 c8 _ ho8).mono ?_); rintro e w9 ⟨rfl, hb9⟩; have hrd9 := hrd8.belowW hb9 (Nat.le_of_lt hrd8.lt); have hB9 := Below.next hB8 hb9)
      | (go_at_call 28; (with_reducible refine (rddone_any g g (some []) _ hrd9).mono ?_); rintro e w10 ⟨rfl, rfl⟩))
  all_goals
    go_wp2_with fail
    go_ret
    exact Ret.mk rfl hB9

end Go.Proofs.Ytdghnfihphlboaa
