/- With bits turned a letter's bytes are read as nothing, or as another letter; a proper beginning is none of it: the walk. -/
import Derived.Test.YtfjbmgfkfeehnaaOne
import Derived.Laws.OwnMore
namespace Go.Proofs.Ytfjbmgfkfeehnaa
open Go.RowKit

def RdAny (w : World) (b : List Int) (e : Ending) (w' : World) : Prop :=
  ∃ x s ev, e = .returned (.tuple #[.agg (letC x s), .int .i64 ev]) ∧ Below w.heap.size w w' ∧ LetA w' x s ∧ ((ev = 0 ∧ readL b = some x) ∨ ev = 20)
theorem rdany_any (a : Option Addr) (n c : Nat) (l : List Int) (w : World) (h : Bs w a n c l) (hb : IsBytes l) :
    Calls Try.prog 15 #[.slice a n c] w (RdAny w l) :=
  (wireread_any a n c l w h hb).mono fun e w' he => by
    unfold RdPost at he
    cases hr : readL l with
    | none =>
      rw [hr] at he
      obtain ⟨rfl, hb⟩ := he
      exact ⟨zeroL, LS.none, 20, rfl, hb, zeroL_a _, .inr rfl⟩
    | some x =>
      rw [hr] at he
      obtain ⟨s, rfl, hb, ha⟩ := he
      exact ⟨x, s, 0, rfl, hb, ha, .inl ⟨rfl, hr⟩⟩
theorem i64_and20 (n : Int) : bits .and .i64 n 1048575 = n % 1048576 := by
  have h127 : (BitVec.ofInt 64 1048575).toNat = 2 ^ 20 - 1 := by decide
  have key : (BitVec.ofInt 64 n &&& BitVec.ofInt 64 1048575).toNat = (n % ((2 ^ 64 : Nat) : Int)).toNat % 2 ^ 20 := by
    rw [BitVec.toNat_and, BitVec.toNat_ofInt, h127, Nat.and_two_pow_sub_one_eq_mod]
  show IntKind.i64.wrap ((BitVec.ofInt 64 n &&& BitVec.ofInt 64 1048575).toNat : Nat) = n % 1048576
  rw [key, IntKind.wrap_i64]
  omega
theorem bits_u8 (a b : Int) : 0 ≤ bits .xor .u8 a b ∧ bits .xor .u8 a b < 256 := by
  show 0 ≤ IntKind.u8.wrap _ ∧ IntKind.u8.wrap _ < 256
  rw [IntKind.wrap_u8]
  omega
theorem Bs.take {w : World} {a : Option Addr} {n c : Nat} {l : List Int} (h : Bs w a n c l) (k : Nat) (hk : k ≤ n) : Bs w a k c (l.take k) := by
  have hl := h.length
  refine ⟨by simp; omega, Nat.le_trans hk h.le, h.cap, h.nil, fun h0 => ?_⟩
  obtain ⟨b, off, ha, hc⟩ := h.cells (by omega)
  refine ⟨b, off, ha, fun j hj => ?_⟩
  rw [hc j (by omega), List.map_take, List.getElem?_take_of_lt (by omega)]
theorem IsBytes.set {l : List Int} (h : IsBytes l) (j : Nat) {u : Int} (h0 : 0 ≤ u) (h1 : u < 256) : IsBytes (l.set j u) := fun x hx => by
  rcases List.mem_or_eq_of_mem_set hx with hx | rfl
  · exact h x hx
  · exact ⟨h0, h1⟩
/-- Bytes that lie elsewhere stay. -/
theorem Sl.grownAway {w w' : World} {k : Nat} {a : Option Addr} {n c r : Nat} {xs : List Value} (h : Sl w k a n c xs) (g : w.grownBy w' (some r)) (hx : ∀ x, a = some x → x.block ≠ r) : Sl w' k a n c xs := by
  refine ⟨h.len, h.le, h.cap, h.nil, fun hn => ?_⟩
  obtain ⟨b, off, ha, hc⟩ := h.cells hn
  refine ⟨b, off, ha, fun j hj => ?_⟩
  have hl := h.len
  have hb := hx _ ha
  have hv := hc j hj
  rw [List.getElem?_eq_getElem (by omega)] at hv ⊢
  exact g.cell hv (by simpa using hb)

set_option maxRecDepth 100000 in
set_option maxHeartbeats 8000000 in
theorem turns_any (l : LetL) (s : LS) (at_ more last : Int) (w : World) (h : LetA w l s) :
    Calls Try.prog 5 #[.agg (letC l s), .int .i64 at_, .int .i64 more, .int .i64 last] w (Ret w (.bool true)) := by
  have hsz := letC_size l s h.pack
  have hB : Below w.heap.size w (w.alloc (.cells (letC l s) 28)) := (Below.refl _ _).alloc (Nat.le_refl _) _
  have hx := blk0 w (letC l s) 28
  have hsx := seg_let hx h.pack
  have HSg := Lib.hid (fun (W : World) (q : Nat) (hq : W.heap[q]? = some (.cells (letC l s) 28 (0, 0))) => seg_let hq h.pack)
  have HW1 := Lib.hid (fun (W : World) (hb : Below w.heap.size w W) => wirewrite_any l s W (h.below hb))
  have HS1 := Lib.hid (fun (W : World) (hb : Below w.heap.size w W) (x : LetL) (sx : LS) (hA : LetA W x sx) => same_any x l sx s W hA (h.below hb))
  have HO := Lib.hid h.ok
  have HX := Lib.hid hsz
  clear h hsz
  generalize letC l s = X at *
  cases hl : rightB l with
  | false =>
    have Hl := Lib.hid hl
    clear hl
    go_enter Try.func5, Try.ntmps5
    go_wp2_with (first
      | (go_at_call 8; refine (alive_any _).mono ?_; rintro e w1 ⟨rfl, hb1⟩; have hsx := seg_below hsx hb1; have hB := Below.next hB hb1)
      | (go_at_call 9; (with_reducible refine (wr_no Hl.out (HW1.out _ hB)).mono ?_); rintro e w2 ⟨rfl, hb2⟩; have hB := Below.next hB hb2))
    go_ret
    exact Ret.mk rfl hB
  | true =>
    have Hl := Lib.hid hl
    clear hl
    by_cases hn : 1000 < (wireL l).length
    · have HN := Lib.hid hn
      clear hn
      go_enter Try.func5, Try.ntmps5
      go_wp2_with (first
        | (go_at_call 8; refine (alive_any _).mono ?_; rintro e w1 ⟨rfl, hb1⟩; have hsx := seg_below hsx hb1; have hB := Below.next hB hb1)
        | (go_at_call 9; (with_reducible refine (wr_yes Hl.out (HW1.out _ hB)).mono ?_); rintro e w2 ⟨a1, n1, c1, rfl, hb2, hs1⟩; have hB := Below.next hB hb2; have hd : decide ((1000 : Int) < (n1 : Int)) = true := (by have h1 := HN.out; have h2 := hs1.length; simp; omega)))
      go_ret
      exact Ret.mk rfl hB
    · have HN := Lib.hid hn
      clear hn
      go_enter Try.func5, Try.ntmps5
      go_upto_region 6 with (first
        | (go_at_call 8; refine (alive_any _).mono ?_; rintro e w1 ⟨rfl, hb1⟩; have hx := (hb1.block _ (blk_cell hx).2.2).trans hx; have hsx := seg_below hsx hb1; have hB := Below.next hB hb1)
        | (go_at_call 9; (with_reducible refine (wr_yes Hl.out (HW1.out _ hB)).mono ?_); rintro e w2 ⟨a1, n1, c1, rfl, hb2, hs1⟩; have hx := (hb2.block _ (blk_cell hx).2.2).trans hx; have hsx := seg_below hsx hb2; have hB := Below.next hB hb2; have hd : decide ((1000 : Int) < (n1 : Int)) = false := (by have h1 := HN.out; have h2 := hs1.length; simp; omega)))
      have hlen := hs1.length
      have hw2 := (blk_cell hx).2.2
      have h4 : 4 ≤ n1 := by rw [← hlen]; simp [wireL, fourL_len]
      have h1000 : n1 ≤ 1000 := by have := HN.out; omega
      have HL := Lib.hid hlen
      obtain ⟨b1, o1, rfl, _⟩ := hs1.cells (by omega)
      clear hlen hb2 hb1
      have hs1' := hs1.alloc (.cells #[] 5)
      (repeat ((fail_if_success at_builtin); first | go_values | go_skip | go_guarded | go_step | go_upon))
      refine app_bytes rfl _ _ rfl w2.heap.size _ 0 [] rfl (World.ownsRow_lit w2 #[] 0 (Nat.le_refl _) (by simp [maxLen]) rfl) _ n1 _ (wireL l) rfl hs1' (by omega) (by simp) ?_
      intro v3 w3 hown3 hg3
      have hB3 : Below w2.heap.size w2 w3 := ((Below.refl _ _).alloc (Nat.le_refl _) (.cells #[] 5)).grown hg3 (by simp) (fun k hk => by cases hk; exact Nat.le_refl _)
      simp only [Nat.zero_add, List.nil_append] at hown3
      obtain ⟨g, c3, rfl, hg2⟩ : ∃ g c3, v3 = .slice (some ⟨g, 0, none⟩) n1 c3 ∧ w2.heap.size ≤ g := by
        rcases hown3.2 with ⟨_, h⟩ | ⟨g, cap, cur, hv, hg, _⟩
        · exact absurd h (by omega)
        · exact ⟨g, cap, hv, hg⟩
      have hgl : g < w3.heap.size := ((World.ownsRow.lt hown3) g rfl).2
      have hx := (hB3.block _ (blk_cell hx).2.2).trans hx
      have hB := Below.next hB hB3
      have hs1 := hs1.below hB3
      have hb1l : b1 < w2.heap.size := by
        obtain ⟨b', o', e', hc'⟩ := Sl.cells ‹Bs w2 _ n1 _ _› (by omega)
        cases e'
        have h0 := hc' 0 (by omega)
        rw [List.getElem?_eq_getElem (by have := HL.out; simp; omega)] at h0
        exact cell_lt h0
      clear hs1' hg3 hB3
      go_upto_region 8 with fail
      have hW0 := blk0 w3 #[.int .i64 at_, .int .i64 more, .int .i64 last] 3
      have hBW := Below.next hB (grow1' w3 #[.int .i64 at_, .int .i64 more, .int .i64 last] 3)
      have hxW := (Below.heap_alloc w3 (.cells #[.int .i64 at_, .int .i64 more, .int .i64 last] 3) _ (blk_cell hx).2.2).trans hx
      have hsW := hs1.alloc (.cells #[.int .i64 at_, .int .i64 more, .int .i64 last] 3)
      have hoW := hown3.alloc (.cells #[.int .i64 at_, .int .i64 more, .int .i64 last] 3)
      have hgW : g < (w3.alloc (.cells #[.int .i64 at_, .int .i64 more, .int .i64 last] 3)).heap.size := by simp; omega
      clear hx hs1 hown3 hB hsx
      generalize w3.alloc (.cells #[.int .i64 at_, .int .i64 more, .int .i64 last] 3) = W at *
      generalize w3.heap.size = q3 at *
      have HLb := Lib.hid ((body_bytes HO.out).append (fourL_bytes (sumL_lt (bodyL l))) : IsBytes (wireL l))
      have HS := Lib.hid hsW
      have HXW := Lib.hid hxW
      have HW0 := Lib.hid hW0
      clear hsW hxW hW0
      go_loopw [46] (fun i wr => ∃ (j : Nat) (m : List Int), j ≤ 3 ∧ i = .int .i64 j ∧ IsBytes m ∧ m.length = n1 ∧ wr.ownsRow w2.heap.size 5 1 (.slice (some ⟨g, 0, none⟩) n1 c3) n1 (m.map (Value.int .u8)) ∧ W.grownBy wr (some g)) (fun i _ => 3 - (intOf i).toNat)
      case atStart => exact ⟨0, wireL l, by omega, rfl, HLb.out, HL.out, hoW, grown_refl _ _⟩
      case round =>
        obtain ⟨j, m, hj, rfl, hm, hml, hown, hg⟩ := hrel
        have HM := Lib.hid hml
        by_cases hjn : j < 3
        · obtain ⟨z, hz⟩ : ∃ z, wr.cell? ⟨q3, j, none⟩ = some (.int .i64 z) := by
            rw [World.cell?_of_block (w := W) (w' := wr) (a := ⟨q3, j, none⟩) (hg.block q3 (blk_cell HW0.out).2.2 (by simp; omega)), (blk_cell HW0.out).1 j]
            match j, hjn with
            | 0, _ => exact ⟨_, rfl⟩
            | 1, _ => exact ⟨_, rfl⟩
            | 2, _ => exact ⟨_, rfl⟩
          obtain ⟨mm, hmm⟩ : ∃ mm, bits .and .i64 z 1048575 = mm := ⟨_, rfl⟩
          have hm0 : 0 ≤ mm := by rw [← hmm, i64_and20]; omega
          obtain ⟨k, hk, hkn⟩ : ∃ k : Nat, mm % (8 * (n1 : Int)) = k ∧ k < 8 * n1 := ⟨(mm % (8 * (n1 : Int))).toNat, by have := Int.emod_nonneg mm (b := 8 * (n1 : Int)) (by omega); omega, by have := Int.emod_lt_of_pos mm (b := 8 * (n1 : Int)) (by omega); omega⟩
          obtain ⟨p, hp, hpn⟩ : ∃ p : Nat, (k : Int) / 8 = p ∧ p < n1 := ⟨k / 8, by omega, by omega⟩
          obtain ⟨r, hr, hrn⟩ : ∃ r : Nat, (k : Int) % 8 = r ∧ r < 8 := ⟨k % 8, by omega, by omega⟩
          obtain ⟨x, hx⟩ : ∃ x, m[p]? = some x := ⟨_, List.getElem?_eq_getElem (by omega)⟩
          have hcell := hown.cellAt p (by omega)
          rw [List.getElem?_map, hx] at hcell
          simp only [Option.map_some] at hcell
          have hfr := hown.frozenAt p
          have h8 : (0 : Int) < 8 * (n1 : Int) := by omega
          have hp0 : (0 : Int) ≤ (p : Int) := by omega
          have hpI : (p : Int) < (n1 : Int) := by omega
          have HX0 := Lib.hid hx
          clear hx hml
          go_upto_region 11 with fail
          rw [hk]
          have hq1 : (k : Int).tdiv 8 = p := by rw [Int.tdiv_eq_ediv_of_nonneg (by omega)]; exact hp
          have hq2 : (k : Int).tmod 8 = r := by rw [Int.tmod_eq_emod_of_nonneg (by omega)]; exact hr
          have hq3 : IntKind.i64.wrap (p : Int) = p := IntWalk.i64_in _ (by omega)
          have hr0 : (0 : Int) ≤ (r : Int) := by omega
          have hr8 : (r : Int) ≤ 8 := by omega
          have hpt : ((p : Int)).toNat = p := by omega
          clear hk hmm hm0
          go_region_law (fail)
          all_goals
            go_wp2_with fail
            have ho := hown.stored p (.int .u8 (bits .xor .u8 x (2 ^ r % 256)))
            go_roundw
            case rel => exact ⟨j + 1, m.set p (bits .xor .u8 x (2 ^ r % 256)), by omega, by go_num, hm.set p (bits_u8 _ _).1 (bits_u8 _ _).2, by simp [HM.out], by rw [List.map_set]; exact ho.1.drew, grown_trans hg (grown_trans ho.2 (grown_below (Below.refl _ _).drew))⟩
            case measure => simp [intOf]; omega
        · obtain rfl : j = 3 := by omega
          have hgw : w.heap.size < g := by omega
          have hB := hBW.grown hg hBW.size (fun k hk => by cases hk; omega)
          have hx := (hg.block w.heap.size (blk_cell HXW.out).2.2 (by simp; omega)).trans HXW.out
          have hs1 : Bs wr (some ⟨b1, o1, none⟩) n1 c1 (wireL l) := Sl.grownAway HS.out hg (fun y hy => by cases hy; show b1 ≠ g; omega)
          have hsm : Bs wr (some ⟨g, 0, none⟩) n1 c3 m := own_bs hown
          have hr1 := rdany_any _ _ _ _ wr hsm hm
          clear hown hg
          go_wp2_with fail
          refine hr1.mono ?_
          rintro e w5 ⟨y1, s5, ev1, rfl, hb5, hA5, hev1⟩
          dsimp only
          have hB := Below.next hB hb5
          have hs1 := hs1.below hb5
          have hsm := hsm.below hb5
          have hx := (hb5.block _ (blk_cell hx).2.2).trans hx
          have hxold := hx
          clear hb5 hr1
          (repeat ((fail_if_success (with_reducible show wpList _ _ _ (Oper.mk _ (Op.store _ _ _) _ _ _ _ :: _) _ _)); first | go_values | go_skip | go_guarded | go_step | go_upon))
          have hz := blk0 w5 (letC zeroL LS.none) 28
          refine wpList_store_seg (w := w5.alloc (.cells (letC zeroL LS.none) 28)) rfl 28 _ _ rfl rfl w5.heap.size 0 rfl (letC y1 s5) rfl 28 (letC zeroL LS.none) hz (by rw [letC_size _ _ hA5.pack, letC_size _ _ rfl]; decide) (info_let' _ _ hA5.pack) (letC_one _ _) (letC y1 s5) (put_whole _ _ (by rw [letC_size _ _ hA5.pack, letC_size _ _ rfl])) ?_
          intro w6 hqw6 hgw6 hsw6
          clear hsw6
          have hbw6 : Below w5.heap.size w5 w6 := (grow1' w5 (letC zeroL LS.none) 28).grown hgw6 (by simp) (fun k hk => by cases hk; omega)
          have hB := Below.next hB hbw6
          have hs1 := hs1.below hbw6
          have hsm := hsm.below hbw6
          have hx := (hbw6.block _ (blk_cell hx).2.2).trans hx
          have hA5 := hA5.below hbw6
          have hlw6 := (blk_cell hqw6).2.2
          have hnw6 : w.heap.size < w5.heap.size := (blk_cell hxold).2.2
          clear hz hgw6
          obtain ⟨mm, hmm⟩ : ∃ mm, bits .and .i64 at_ 1048575 = mm := ⟨_, rfl⟩
          have hm0 : 0 ≤ mm := by rw [← hmm, i64_and20]; omega
          obtain ⟨k, hk, hkn⟩ : ∃ k : Nat, mm % (n1 : Int) = k ∧ k < n1 := ⟨(mm % (n1 : Int)).toNat, by have := Int.emod_nonneg mm (b := (n1 : Int)) (by omega); omega, by have := Int.emod_lt_of_pos mm (b := (n1 : Int)) (by omega); omega⟩
          have hk0 : (0 : Int) ≤ (k : Int) := by omega
          have hkk : (k : Int) ≤ (c1 : Int) := by have := hs1.le; omega
          have hne0 : ¬ n1 = 0 := by omega
          have hr2 := rdany_any _ _ _ _ w6 (hs1.take k (by omega)) (HLb.out.take k)
          go_wp2_with fail
          refine hr2.mono ?_
          rintro e w7 ⟨y2, s7, ev2, rfl, hb7, hA7, hev2⟩
          dsimp only
          have hB := Below.next hB hb7
          have hs1 := hs1.below hb7
          have hsm := hsm.below hb7
          have hA5 := hA5.below hb7
          have hx := (hb7.block _ (blk_cell hx).2.2).trans hx
          have hq6 := (hb7.block _ (blk_cell hqw6).2.2).trans hqw6
          have hxold := hx
          have h67 := hb7.size
          clear hb7 hr2 hm0
          (repeat ((fail_if_success (with_reducible show wpList _ _ _ (Oper.mk _ (Op.store _ _ _) _ _ _ _ :: _) _ _)); first | go_values | go_skip | go_guarded | go_step | go_upon))
          have hz := blk0 w7 (letC zeroL LS.none) 28
          refine wpList_store_seg (w := w7.alloc (.cells (letC zeroL LS.none) 28)) rfl 28 _ _ rfl rfl w7.heap.size 0 rfl (letC y2 s7) rfl 28 (letC zeroL LS.none) hz (by rw [letC_size _ _ hA7.pack, letC_size _ _ rfl]; decide) (info_let' _ _ hA7.pack) (letC_one _ _) (letC y2 s7) (put_whole _ _ (by rw [letC_size _ _ hA7.pack, letC_size _ _ rfl])) ?_
          intro w8 hqw8 hgw8 hsw8
          clear hsw8
          have hbw8 : Below w7.heap.size w7 w8 := (grow1' w7 (letC zeroL LS.none) 28).grown hgw8 (by simp) (fun k hk => by cases hk; omega)
          have hB := Below.next hB hbw8
          have hs1 := hs1.below hbw8
          have hsm := hsm.below hbw8
          have hx := (hbw8.block _ (blk_cell hx).2.2).trans hx
          have hA7 := hA7.below hbw8
          have hlw8 := (blk_cell hqw8).2.2
          have hnw8 : w.heap.size < w7.heap.size := (blk_cell hxold).2.2
          clear hz hgw8
          have hA5 := hA5.below hbw8
          have hq6 := (hbw8.block _ (blk_cell hq6).2.2).trans hq6
          have hsx := HSg.out _ _ hx
          have hsy1 := seg_let hq6 hA5.pack
          have hsy2 := seg_let hqw8 hA7.pack
          have hP : ev2 = 0 → ¬ y2 = l := fun h0 => by
            rcases hev2 with ⟨_, h2⟩ | h2
            · exact read_part HO.out (by rw [HL.out]; exact hkn) h2
            · omega
          have hQ : ev1 = 0 → decide (y1 = l) = decide (m = wireL l) := fun h0 => by
            rcases hev1 with ⟨_, h2⟩ | h2
            · have hc := read_canon hm h2
              rw [Bool.eq_iff_iff]
              simp only [decide_eq_true_eq]
              constructor
              · rintro rfl; exact hc.1
              · intro he
                rw [he, read_round Hl.out HO.out] at h2
                exact (Option.some.inj h2).symm
            · omega
          have HP := Lib.hid hP
          have HQ := Lib.hid hQ
          have HSm := Lib.hid (fun (W : World) (hb : Below w8.heap.size w8 W) => samebytes_any _ _ _ _ _ _ _ _ W (hsm.below hb) (hs1.below hb))
          have HS5 := Lib.hid (fun (W : World) (hb : Below w8.heap.size w8 W) => HS1.out W (Below.next hB hb) y1 s5 (hA5.below hb))
          have HS7 := Lib.hid (fun (W : World) (hb : Below w8.heap.size w8 W) => HS1.out W (Below.next hB hb) y2 s7 (hA7.below hb))
          have hev1' : ev1 = 0 ∨ ev1 = 20 := by rcases hev1 with h | h <;> omega
          have hev2' : ev2 = 0 ∨ ev2 = 20 := by rcases hev2 with h | h <;> omega
          have hb0 := Below.refl w8.heap.size w8
          clear hQ hP hev1 hev2 hA5 hA7 hsm hs1 hq6 hqw6 hqw8 hx hbw8 hbw6 hxold hk hmm hkn hk0 hkk h67
          generalize w5.heap.size = q5 at *
          generalize w7.heap.size = q7 at *
          generalize letC y1 s5 = Y1 at *
          generalize letC y2 s7 = Y2 at *
          have hf7 : ev2 = 0 → decide (y2 = l) = false := fun h => decide_eq_false (HP.out h)
          have HF7 := Lib.hid hf7
          clear hf7
          generalize decide (y2 = l) = q2 at *
          rcases hev2' with rfl | rfl
          · obtain rfl := HF7.out rfl
            rcases hev1' with rfl | rfl
            · have hqe := HQ.out rfl
              rw [hqe] at HS5
              generalize decide (m = wireL l) = q1 at *
              clear hqe
              go_wp2_with (first
                | (go_at_call 13; (with_reducible refine (HS7.out _ hb0).mono ?_); rintro e w9 ⟨rfl, hb9⟩; have hsx := seg_below hsx hb9; have hsy1 := seg_below hsy1 hb9; have hb0 := Below.next hb0 hb9)
                | (go_at_call 13; (with_reducible refine (HS5.out _ hb0).mono ?_); rintro e w10 ⟨rfl, hb10⟩; have hb0 := Below.next hb0 hb10)
                | (go_at_call 16; (with_reducible refine (HSm.out _ hb0).mono ?_); rintro e w11 ⟨rfl, hb11⟩; have hb0 := Below.next hb0 hb11))
              go_ret
              exact Ret.mk rfl (Below.next hB hb0)
            · skip
              go_wp2_with (first
                | (go_at_call 13; (with_reducible refine (HS7.out _ hb0).mono ?_); rintro e w9 ⟨rfl, hb9⟩; have hsx := seg_below hsx hb9; have hsy1 := seg_below hsy1 hb9; have hb0 := Below.next hb0 hb9))
              go_ret
              exact Ret.mk rfl (Below.next hB hb0)
          · rcases hev1' with rfl | rfl
            · have hqe := HQ.out rfl
              rw [hqe] at HS5
              generalize decide (m = wireL l) = q1 at *
              clear hqe
              go_wp2_with (first
                | (go_at_call 13; (with_reducible refine (HS5.out _ hb0).mono ?_); rintro e w10 ⟨rfl, hb10⟩; have hb0 := Below.next hb0 hb10)
                | (go_at_call 16; (with_reducible refine (HSm.out _ hb0).mono ?_); rintro e w11 ⟨rfl, hb11⟩; have hb0 := Below.next hb0 hb11))
              go_ret
              exact Ret.mk rfl (Below.next hB hb0)
            · go_wp2_with fail
              go_ret
              exact Ret.mk rfl (Below.next hB hb0)

end Go.Proofs.Ytfjbmgfkfeehnaa
