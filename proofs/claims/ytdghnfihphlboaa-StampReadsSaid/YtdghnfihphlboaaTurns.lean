/- Two right operations have the same bytes just if they are the same; a beginning is read as none: the walk. -/
import Derived.Test.YtdghnfihphlboaaGoodLaw
import Derived.Test.YtdghnfihphlboaaRound
namespace Go.Proofs.Ytdghnfihphlboaa
open Go.RowKit

theorem i64_and20 (n : Int) : bits .and .i64 n 1048575 = n % 1048576 := by
  have h127 : (BitVec.ofInt 64 1048575).toNat = 2 ^ 20 - 1 := by decide
  have key : (BitVec.ofInt 64 n &&& BitVec.ofInt 64 1048575).toNat = (n % ((2 ^ 64 : Nat) : Int)).toNat % 2 ^ 20 := by
    rw [BitVec.toNat_and, BitVec.toNat_ofInt, h127, Nat.and_two_pow_sub_one_eq_mod]
  show IntKind.i64.wrap ((BitVec.ofInt 64 n &&& BitVec.ofInt 64 1048575).toNat : Nat) = n % 1048576
  rw [key, IntKind.wrap_i64]
  omega
theorem putL_inj {a b : OpL} (ha : a.data.length = 32) (hb : b.data.length = 32) (ga : goodB a = true) (gb : goodB b = true) (h : putL a = putL b) : a = b := by
  have h1 := getRaw_round a [] ha ga
  have h2 := getRaw_round b [] hb gb
  rw [h, h2] at h1
  exact (congrArg Prod.fst h1).symm
theorem putL_pos {o : OpL} (h : goodB o = true) : 0 < (putL o).length := by
  have := numB_pos (clampN o.kind)
  rw [putL, if_pos h]
  simp only [List.length_append, numL]
  omega
theorem putL_no {o : OpL} (h : goodB o = false) : putL o = [] := by rw [putL, h]; rfl
theorem oversL_len : ∀ (l : List St), (oversL l).length ≤ l.length * 18
  | [] => by simp [oversL]
  | s :: l => by
    have h1 := oversL_len l
    have h2 := stL_len s
    simp only [oversL, List.flatMap_cons, List.length_append, List.length_cons] at h1 ⊢
    omega
theorem putL_len {o : OpL} (hd : o.data.length = 32) : (putL o).length ≤ 4000 := by
  cases hg : goodB o with
  | false => rw [putL_no hg]; simp
  | true =>
    have h1 := numL_len o.kind
    have h2 := stL_len o.at_
    have h3 := stL_len o.node
    have h4 := stL_len o.parent
    have h5 := numL_len o.name.size
    have h6 := numL_len o.over.length
    have h7 := oversL_len o.over
    have h8 := strB_len o.name
    rw [putL, if_pos hg]
    simp only [goodB, Bool.and_eq_true] at hg
    obtain ⟨_, hg⟩ := hg
    by_cases hk : o.kind = 1
    · rw [if_pos hk] at hg
      simp only [moveB, nameB, Bool.and_eq_true, decide_eq_true_eq] at hg
      simp only [tailL, if_pos hk, textL, List.length_append]
      omega
    · rw [if_neg hk] at hg
      by_cases hk2 : o.kind = 2
      · rw [if_pos hk2] at hg
        simp only [editB, editH, Bool.and_eq_true, decide_eq_true_eq] at hg
        simp only [tailL, if_neg hk, List.length_append]
        omega
      · rw [if_neg hk2] at hg
        cases hg
theorem stL_bytes (s : St) : IsBytes (stL s) := (numB_bytes _).append (numB_bytes _)
theorem oversL_bytes : ∀ (l : List St), IsBytes (oversL l)
  | [] => .nil
  | s :: l => by
    have h := oversL_bytes l
    simp only [oversL, List.flatMap_cons] at h ⊢
    exact (stL_bytes s).append h
theorem putL_bytes {o : OpL} (hd : IsBytes o.data) : IsBytes (putL o) := by
  unfold putL
  split
  · refine (((numB_bytes _).append (stL_bytes _)).append (stL_bytes _)).append ?_
    unfold tailL
    split
    · exact (stL_bytes _).append ((numB_bytes _).append (strB_bytes _))
    · exact (hd.append (numB_bytes _)).append (oversL_bytes _)
  · exact .nil
theorem Sl.nil0 {w w' : World} {k c : Nat} {a : Option Addr} {xs : List Value} (h : Sl w k a 0 c xs) : Sl w' k a 0 c xs := ⟨h.len, h.le, h.cap, h.nil, fun h0 => absurd h0 (by omega)⟩
theorem Bs.take {w : World} {a : Option Addr} {n c : Nat} {l : List Int} (h : Bs w a n c l) (k : Nat) (hk : k ≤ n) : Bs w a k c (l.take k) := by
  have hl := h.length
  refine ⟨by simp; omega, Nat.le_trans hk h.le, h.cap, h.nil, fun h0 => ?_⟩
  obtain ⟨b, off, ha, hc⟩ := h.cells (by omega)
  refine ⟨b, off, ha, fun j hj => ?_⟩
  rw [hc j (by omega), List.map_take, List.getElem?_take_of_lt (by omega)]

set_option maxRecDepth 100000 in
set_option maxHeartbeats 4000000 in
theorem turns_any (o o' : OpL) (a : Option Addr) (n c : Nat) (a' : Option Addr) (n' c' : Nat) (at_ : Int) (w : World) (h : OpA w o a n c) (h' : OpA w o' a' n' c') (hby : IsBytes o.data) :
    Calls Try.prog 6 #[.agg (opC o (.slice a n c)), .agg (opC o' (.slice a' n' c')), .int .i64 at_] w (Ret w (.bool true)) := by
  have hX := opC_x o (.slice a n c) h.data
  have hY := opC_x o' (.slice a' n' c') h'.data
  have hB0 : Below w.heap.size w ((w.alloc (.cells (opC o (.slice a n c)) 33)).alloc (.cells (opC o' (.slice a' n' c')) 33)) := ((Below.refl _ _).alloc (Nat.le_refl _) _).alloc (by simp) _
  have hb1 : ((w.alloc (.cells (opC o (.slice a n c)) 33)).alloc (.cells (opC o' (.slice a' n' c')) 33)).heap[w.heap.size]? = some (.cells (opC o (.slice a n c)) 33 (0, 0)) := (Below.heap_alloc _ _ _ (by simp)).trans (blk0 w _ _)
  have hb2 : ((w.alloc (.cells (opC o (.slice a n c)) 33)).alloc (.cells (opC o' (.slice a' n' c')) 33)).heap[w.heap.size + 1]? = some (.cells (opC o' (.slice a' n' c')) 33 (0, 0)) := by
    have := blk0 (w.alloc (.cells (opC o (.slice a n c)) 33)) (opC o' (.slice a' n' c')) 33
    simpa using this
  have g1 : ∀ W', Below w.heap.size w W' → Calls Try.prog 18 #[.agg (opC o (.slice a n c))] W' (Ret W' (.bool (goodB o))) := fun W' hb => good_any o a n c W' (h.below hb)
  have g2 : ∀ W', Below w.heap.size w W' → Calls Try.prog 18 #[.agg (opC o' (.slice a' n' c'))] W' (Ret W' (.bool (goodB o'))) := fun W' hb => good_any o' a' n' c' W' (h'.below hb)
  have g3 : ∀ W', Below w.heap.size w W' → Calls Try.prog 20 #[.agg (opC o (.slice a n c)), .agg (opC o' (.slice a' n' c'))] W' (Ret W' (.bool (sameB o o'))) := fun W' hb => same_any o o' a n c a' n' c' W' (h.below hb) (h'.below hb)
  have p1 : ∀ W', Below w.heap.size w W' → Calls Try.prog 22 #[.slice none 0 0, .agg (opC o (.slice a n c))] W' (RetB W' (putL o)) := fun W' hb => by
    have := oput_any none 0 0 [] o a n c W' (Sl.empty _ _) (by simp) (h.below hb)
    rwa [List.nil_append] at this
  have p2 : ∀ W', Below w.heap.size w W' → Calls Try.prog 22 #[.slice none 0 0, .agg (opC o' (.slice a' n' c'))] W' (RetB W' (putL o')) := fun W' hb => by
    have := oput_any none 0 0 [] o' a' n' c' W' (Sl.empty _ _) (by simp) (h'.below hb)
    rwa [List.nil_append] at this
  have hsX := hX.size
  have hsY := hY.size
  have hd := h.data
  have hd' := h'.data
  clear h h' hX hY
  generalize opC o (.slice a n c) = X at *
  generalize opC o' (.slice a' n' c') = Y at *
  go_enter Try.func6, Try.ntmps6
  go_wp2_with fail
  generalize hW : (w.alloc (.cells X 33)).alloc (.cells Y 33) = W at *
  clear hW
  have hx := boxed_of hb1 hsX
  have hy := boxed_of hb2 hsY
  clear hb1 hb2 hsX hsY
  have G1 := Lib.hid g1; have G2 := Lib.hid g2; have G3 := Lib.hid g3; have P1 := Lib.hid p1; have P2 := Lib.hid p2
  clear g1 g2 g3 p1 p2
  go_at_call 11
  refine (alive_any _).mono ?_
  rintro e w1 ⟨rfl, hb1⟩
  dsimp only
  have hx := boxed_below hx hb1
  have hy := boxed_below hy hb1
  have hB := Below.next hB0 hb1
  clear hb1 hB0
  cases hg : goodB o with
  | false =>
    have hp := putL_no hg
    rw [hg] at G1
    rw [hp] at P1
    clear hg hp
    go_wp2_with (first
      | (go_at_call 18; (with_reducible refine (G1.out _ hB).mono ?_); rintro e w2 ⟨rfl, hb2⟩; have hx := boxed_below hx hb2; have hy := boxed_below hy hb2; have hB := Below.next hB hb2)
      | (go_at_call 22; (with_reducible refine (P1.out _ hB).mono ?_); rintro e w2 ⟨a6, k6, c6, rfl, hb2, hown⟩; obtain rfl : 0 = k6 := (own_bs hown).length; have hx := boxed_below hx hb2; have hy := boxed_below hy hb2; have hB := Below.next hB hb2))
    go_ret
    exact Ret.mk rfl hB
  | true =>
    rw [hg] at G1
    cases hg' : goodB o' with
    | false =>
      rw [hg'] at G2
      have hpos := putL_pos hg
      clear hg hg'
      go_wp2_with (first
        | (go_at_call 18; (first | (with_reducible refine (G1.out _ hB).mono ?_) | (with_reducible refine (G2.out _ hB).mono ?_)); rintro e w2 ⟨rfl, hb2⟩; have hx := boxed_below hx hb2; have hy := boxed_below hy hb2; have hB := Below.next hB hb2)
        | (go_at_call 22; (with_reducible refine (P1.out _ hB).mono ?_); rintro e w2 ⟨a6, k6, c6, rfl, hb2, hown⟩; have hlen : 0 < k6 := by { rw [← (own_bs hown).length]; exact hpos }; have hk6 : ((k6 : Int) == 0) = false := by { simp; omega }; have hx := boxed_below hx hb2; have hy := boxed_below hy hb2; have hB := Below.next hB hb2))
      go_ret
      exact Ret.mk rfl hB
    | true =>
      rw [hg'] at G2
      have hpos := putL_pos hg
      have hinj := putL_inj hd hd' hg hg'
      have hpart := fun k hk => getOp_part o k hd hg hk
      have hlen0 := putL_len hd
      have hLb := Lib.hid (putL_bytes hby)
      have hsame : decide (putL o = putL o') = sameB o o' := by
        rw [Bool.eq_iff_iff, sameB_iff]
        simp only [decide_eq_true_eq]
        exact ⟨hinj, fun h => h ▸ rfl⟩
      clear hg hg' hinj hd hd'
      generalize putL o = L at *
      generalize putL o' = L' at *
      generalize sameB o o' = q at *
      have HP := Lib.hid hpart
      have HS := Lib.hid hsame
      have HL := Lib.hid hpos
      clear hpart hsame hpos
      go_wp2_with (first
        | (go_at_call 18; (first | (with_reducible refine (G1.out _ hB).mono ?_) | (with_reducible refine (G2.out _ hB).mono ?_)); rintro e w2 ⟨rfl, hb2⟩; have hx := boxed_below hx hb2; have hy := boxed_below hy hb2; have hB := Below.next hB hb2))
      have hx := boxed_drew hx
      have hy := boxed_drew hy
      have hB := hB.drew
      have hxy : (isBox _ _ _ _ = true ∧ boxAt _ _ = _) ∧ (isBox _ _ _ _ = true ∧ boxAt _ _ = _) := ⟨hx, hy⟩
      go_region_held3 (fun w' => (isBox w' w.heap.size 33 41 = true ∧ boxAt w' w.heap.size = X) ∧ (isBox w' (w.heap.size + 1) 33 41 = true ∧ boxAt w' (w.heap.size + 1) = Y)) (first | assumption | exact boxed2_below (by assumption) (by assumption))
        (first
          | (go_at_call 22; (with_reducible refine (P1.out _ hB).mono ?_); rintro e w2 ⟨a6, k6, c6, rfl, hb2, hown6⟩; have hs6 := own_bs hown6; have hB := Below.next hB hb2)
          | (go_at_call 22; (with_reducible refine (P2.out _ hB).mono ?_); rintro e w3 ⟨a7, k7, c7, rfl, hb3, hown7⟩; have hs7 := own_bs hown7; have hs6 := hs6.below hb3; have hB := Below.next hB hb3))
      go_wp2_with fail
      have hl6 := hs6.length
      have hL6 := HL.out
      have hk6 : ((k6 : Int) == 0) = false := by { simp; omega }
      have A1 := fun (d : Nat) (os : Array Obj) => Calls.regrown_of (HS.out ▸ samebytes_any a6 k6 c6 L a7 k7 c7 L' (Sort.grow (redrawn w3 d) os) (hs6.below (grow_below _ _ _)) (hs7.below (grow_below _ _ _)))
      have A2 := fun (d : Nat) (os : Array Obj) => Calls.regrown_of (G3.out _ (Below.next hB (grow_below w3 d os)))
      have q1 := fun (d : Nat) (os : Array Obj) => boxed2_below (by assumption) (grow_below w3 d os)
      have hb := (show (isBox w3 w.heap.size 33 41 = true ∧ boxAt w3 w.heap.size = X) ∧ (isBox w3 (w.heap.size + 1) 33 41 = true ∧ boxAt w3 (w.heap.size + 1) = Y) by assumption)
      (refine wp_region_quiet_below (by kernel_rfl) (by kernel_rfl) ?_; (repeat (go_big_quiet_step ((first | with_reducible exact A1 _ _ | with_reducible exact A2 _ _)))); refine wpQuiet_nil ?_; intro _ hw'; obtain ⟨⟨dq, osq⟩, hw''⟩ := hw'; subst hw'')
      obtain ⟨m, hm⟩ : ∃ m, bits .and .i64 at_ 1048575 = m := ⟨_, rfl⟩
      have hm0 : 0 ≤ m := by rw [← hm, i64_and20]; omega
      obtain ⟨k, hk, hkn⟩ : ∃ k : Nat, m % (k6 : Int) = k ∧ k < k6 := ⟨(m % (k6 : Int)).toNat, by have := Int.emod_nonneg m (b := (k6 : Int)) (by omega); omega, by have := Int.emod_lt_of_pos m (b := (k6 : Int)) (by omega); omega⟩
      obtain ⟨b, off, rfl, _⟩ := hs6.cells (by omega)
      have hk0 : (0 : Int) ≤ (k : Int) := by omega
      have hkk : (k : Int) ≤ (c6 : Int) := by have := hs6.le; omega
      have hne0 : ¬ k6 = 0 := by omega
      have hread := read_any _ _ _ _ (Sort.grow (redrawn w3 dq) osq) ((hs6.take k (by omega)).below (grow_below _ _ _)) (by simp; omega)
      have HL6 := Lib.hid hl6
      clear hl6 hL6 A1 A2 q1
      go_wp2_with fail
      refine hread.mono ?_
      rintro e w4 ⟨g, rfl, hb4, hrd, hgl, hgs⟩
      dsimp only
      have hb4' : Below w3.heap.size w3 w4 := Below.next (grow_below w3 dq osq) hb4
      have hx := boxed_below hb.1 hb4'
      have hwg : w.heap.size ≤ g := by have h1 := hB.size; have h2 := (grow_below w3 dq osq).size; omega
      have hB := Below.next hB hb4'
      clear hread hb4 hgl hs6 hs7 hb2 hb3 hb hk hm
      have hge := HP.out k (by rw [HL6.out]; exact hkn)
      have hget := oget_any g g _ _ hrd (fun l hl => by cases hl; exact hLb.out.take k) (Nat.le_of_lt hgs)
      rw [hge] at hget
      have HG := Lib.hid hget
      clear hget hge
      (repeat ((fail_if_success (with_reducible show wpList _ _ _ (Oper.mk _ (Op.store _ _ _) _ _ _ _ :: _) _ _)); first | go_values | go_skip | go_guarded | go_step | go_upon))
      refine HG.out.mono ?_
      rintro e w5 ⟨a8, n8, c8, rfl, hg5, hrd5, ho5⟩
      dsimp only
      have hB := below_grown hB hg5 hwg
      obtain rfl : 0 = n8 := ho5.len
      (repeat ((fail_if_success (with_reducible show wpList _ _ _ (Oper.mk _ (Op.store _ _ _) _ _ _ _ :: _) _ _)); first | go_values | go_skip | go_guarded | go_step | go_upon))
      have hz := blk0 w5 (opC zop (.slice none 0 0)) 33
      refine wpList_store_seg (w := w5.alloc (.cells (opC zop (.slice none 0 0)) 33)) rfl 33 _ _ rfl rfl w5.heap.size 0 rfl (opC zop (.slice a8 0 c8)) rfl 33 (opC zop (.slice none 0 0)) hz (by simp [opC, zop]) info_op (opC_one zop _ rfl) (opC zop (.slice a8 0 c8)) rfl ?_
      intro w6 hq6 h62 h63
      have hB := (hB.alloc hB.size _).grown h62 (by have := hB.size; simp; omega) (fun k hk => by cases hk; exact hB.size)
      have hrd6 : RdAt w6 g g none := by
        have hlt := hrd5.lt
        exact (hrd5.alloc (Nat.le_of_lt hlt) _).grown' h62 (by omega) (by omega) (by simp; omega)
      have hz6 := boxed_of (n := 41) hq6 rfl
      clear h62 h63 hq6 hz
      go_wp2_with (first
        | (go_at_call 29; (with_reducible refine (rdgood_any g g none _ hrd6).mono ?_); rintro e w7 ⟨rfl, rfl⟩))
      have hs := same_any zop zop a8 0 c8 none 0 0 w6 ⟨Sl.nil0 ho5.over, rfl, by decide⟩ (zop_a w6)
      rw [show sameB zop zop = true by simp [sameB]] at hs
      go_at_call 20
      refine Calls.mono (show Calls _ _ _ _ _ from hs) ?_
      rintro e w7 ⟨rfl, hb7⟩
      dsimp only
      have hB := Below.next hB hb7
      clear hs
      go_wp2_with fail
      go_ret
      exact Ret.mk rfl hB

end Go.Proofs.Ytdghnfihphlboaa
