/- The document's reader: so many IDs. -/
import Derived.Test.YtfjbmgfkfeehnaaDocG
namespace Go.Proofs.Ytfjbmgfkfeehnaa
open Go.RowKit

/-- What reading IDs hands back. -/
def IdsC (w0 w : World) (x : List (List Int) × Rd) (e : Ending) (w' : World) : Prop :=
  ∃ a n c a' n' c' b', e = .returned (.tuple #[.slice a n c, .agg #[.slice a' n' c', .bool b']]) ∧ Below w.heap.size w w' ∧ InC w0 x.2 a' n' c' b' ∧ w'.ownsRow w.heap.size 24 32 (.slice a n c) n (rowC 32 idF x.1)
/-- While IDs are read. -/
structure GI (w0 w wr : World) (p : Nat) (x : List (List Int) × Rd) (v : Value) (k : Nat) : Prop where
  B : Below w.heap.size w wr
  hp : ∃ a n c b, wr.heap[p]? = some (.cells #[.slice a n c, .bool b] 86 (0, 0)) ∧ InC w0 x.2 a n c b
  hr : wr.heap[w.heap.size + 1]? = some (.cells #[.slice none 0 0, .bool false] 86 (0, 0))
  own : wr.ownsRow (p + 1) 24 32 v k (rowC 32 idF x.1)

set_option maxRecDepth 100000 in
set_option maxHeartbeats 4000000 in
theorem rgids_any (most : Int) (s : Rd) (a : Option Addr) (n c : Nat) (b : Bool) (w0 w : World) (hbw : Below w0.heap.size w0 w) (h : InC w0 s a n c b) (hby : RdBytes s) (hm0 : 0 ≤ most) (hm2 : most ≤ 200) :
    Calls Try.prog 53 #[.agg #[.slice a n c, .bool b], .int .i64 most] w (IdsC w0 w (getIds most s)) := by
  have hB0 : Below w.heap.size w ((w.alloc (.cells #[.slice a n c, .bool b] 86)).alloc (.cells #[.slice none 0 0, .bool false] 86)) := ((Below.refl _ _).alloc (Nat.le_refl _) _).alloc (by simp) _
  have hr := blk0 (w.alloc (.cells #[.slice a n c, .bool b] 86)) #[.slice none 0 0, .bool false] 86
  rw [show (w.alloc (.cells #[.slice a n c, .bool b] 86)).heap.size = w.heap.size + 1 by simp] at hr
  have hnum := rgnum_any most s a n c b w0 _ (Below.next hbw hB0) h hby
  have hby1 := hby.getNum most
  have hle := getNum_le (s := s) hm0
  have hge : 0 ≤ (getNum most s).1 := by
    cases s with
    | none => exact Int.le_refl _
    | some l =>
      rw [getNum_some]
      cases h : rnum most 0 0 l with
      | none => exact Int.le_refl _
      | some x => exact (rnum_nonneg most l 0 0 x.1 x.2 h).1
  obtain ⟨m, hm, hml⟩ : ∃ m : Nat, (getNum most s).1 = m ∧ m ≤ 200 := ⟨(getNum most s).1.toNat, by omega, by omega⟩
  have HX := Lib.hid (show getIds most s = getIdsN m (getNum most s).2 by unfold getIds; rw [hm]; rfl)
  rw [hm] at hnum
  have HN := Lib.hid hnum
  have HR := Lib.hid hr
  clear hnum hr hm hle hge h hby
  generalize (getNum most s).2 = S at *
  go_enter Try.func53, Try.ntmps53
  go_wp2_with fail
  refine HN.out.mono ?_
  rintro e w1 ⟨a1, n1, c1, b1, rfl, hb1, hi1⟩
  dsimp only
  have hB1 := Below.next hB0 hb1
  have hr := (hb1.block _ (blk_cell HR.out).2.2).trans HR.out
  have hwp : w.heap.size + 1 < w1.heap.size := (blk_cell hr).2.2
  clear HN HR hb1 hB0
  (repeat ((fail_if_success (with_reducible show wpList _ _ _ (Oper.mk _ (Op.store _ _ _) _ _ _ _ :: _) _ _)); first | go_values | go_skip | go_guarded | go_step | go_upon))
  have hz := blk0 w1 #[.slice none 0 0, .bool false] 86
  refine wpList_store_seg (w := w1.alloc (.cells #[.slice none 0 0, .bool false] 86)) rfl 86 _ _ rfl rfl w1.heap.size 0 rfl #[.slice a1 n1 c1, .bool b1] rfl 86 #[.slice none 0 0, .bool false] hz (by simp) info_in one_in #[.slice a1 n1 c1, .bool b1] rfl ?_
  intro w2 hq2 hg2 hs2
  have hb2 : Below w1.heap.size w1 w2 := (grow1' w1 #[.slice none 0 0, .bool false] 86).grown hg2 (by simp) (fun k hk => by cases hk; omega)
  have hr := (hb2.block _ (blk_cell hr).2.2).trans hr
  have hB2 := Below.next hB1 hb2
  have hl2 : w2.heap.size = w1.heap.size + 1 := by simpa using hs2
  clear hs2 hg2 hb2 hz hB1
  generalize w1.heap.size = p at *
  have hG0 : GI w0 w (w2.alloc (.cells #[] 24)) p (getIdsN 0 S) (.slice (some ⟨w2.heap.size, 0, none⟩) 0 0) 0 :=
    ⟨hB2.alloc hB2.size _, ⟨a1, n1, c1, b1, (Below.heap_alloc _ _ _ (blk_cell hq2).2.2).trans hq2, hi1⟩, (Below.heap_alloc _ _ _ (blk_cell hr).2.2).trans hr, World.ownsRow_lit w2 #[] 0 (by omega) (by simp [maxLen]) rfl⟩
  have HG0 := Lib.hid hG0
  clear hG0 hq2 hr hi1 hl2 hB2
  go_upto_region 4 with fail
  go_loopw [8, 9] (fun v i wr => ∃ k : Nat, k ≤ m ∧ i = .int .i64 k ∧ GI w0 w wr p (getIdsN k S) v k) (fun _ i _ => m - (intOf i).toNat)
  case atStart => exact ⟨0, Nat.zero_le _, rfl, HG0.out⟩
  case round =>
    clear HG0
    obtain ⟨k, hk, rfl, hG⟩ := hrel
    obtain ⟨a3, n3, c3, b3, hp3, hi3⟩ := hG.hp
    have hc0 := (blk_cell hp3).1 0
    have hc1 := (blk_cell hp3).1 1
    simp only [List.getElem?_toArray, List.getElem?_cons_zero, List.getElem?_cons_succ] at hc0 hc1
    by_cases hkm : k < m
    · have hid := rgid_any (getIdsN k S).2 a3 n3 c3 b3 w0 wr (Below.next hbw hG.B) hi3
      have hd32 := (getId_bytes (hby1.getIdsN k)).1
      have HS := Lib.hid (show getIdsN (k + 1) S = ((getIdsN k S).1 ++ [(getId (getIdsN k S).2).1], (getId (getIdsN k S).2).2) from rfl)
      have HG := Lib.hid hG
      have HId := Lib.hid hid
      have HP3 := Lib.hid hp3
      have hkl : (k + 1) * 32 ≤ 140737488355328 := by omega
      clear hid hG hi3 hp3
      generalize (getId (getIdsN k S).2).1 = d at *
      generalize (getId (getIdsN k S).2).2 = S' at *
      obtain ⟨aw, cw, hvw, _⟩ := own_form HG.out.own
      subst hvw
      go_wp2_with fail
      refine HId.out.mono ?_
      rintro e w4 ⟨a4, n4, c4, b4, rfl, hb4, hi4⟩
      dsimp only
      clear HId hc0 hc1
      (repeat ((fail_if_success (with_reducible show wpList _ _ _ (Oper.mk _ (Op.store _ _ _) _ _ _ _ :: _) _ _)); first | go_values | go_skip | go_guarded | go_step | go_upon))
      have hzA := blk0 w4 (idC zero32) 24
      have hzB := blk0 (w4.alloc (.cells (idC zero32) 24)) #[.slice none 0 0, .bool false] 86
      rw [show (w4.alloc (.cells (idC zero32) 24)).heap.size = w4.heap.size + 1 by simp] at hzB
      have hzA := (Below.heap_alloc (w4.alloc (.cells (idC zero32) 24)) (.cells #[.slice none 0 0, .bool false] 86) _ (blk_cell hzA).2.2).trans hzA
      have hb5 : Below w4.heap.size w4 ((w4.alloc (.cells (idC zero32) 24)).alloc (.cells #[.slice none 0 0, .bool false] 86)) := ((Below.refl _ _).alloc (Nat.le_refl _) _).alloc (by simp) _
      refine wpList_store_seg (w := (w4.alloc (.cells (idC zero32) 24)).alloc (.cells #[.slice none 0 0, .bool false] 86)) rfl 24 _ _ rfl rfl w4.heap.size 0 rfl (idC d) rfl 24 (idC zero32) hzA (by rw [idC_size hd32]; decide) (by rw [idC_size hd32]; exact size_arr) (cells_id d) (idC d) (put_whole _ _ (by rw [idC_size hd32]; rfl)) ?_
      intro w5 hq5 hg5 hs5
      have hzB := (hg5.block _ (blk_cell hzB).2.2 (by simp)).trans hzB
      (repeat ((fail_if_success (with_reducible show wpList _ _ _ (Oper.mk _ (Op.store _ _ _) _ _ _ _ :: _) _ _)); first | go_values | go_skip | go_guarded | go_step | go_upon))
      refine wpList_store_seg (w := w5) rfl 86 _ _ rfl rfl (w4.heap.size + 1) 0 rfl #[.slice a4 n4 c4, .bool b4] rfl 86 #[.slice none 0 0, .bool false] hzB (by simp) info_in one_in #[.slice a4 n4 c4, .bool b4] rfl ?_
      intro w6 hq6 hg6 hs6
      have hq5 := (hg6.block _ (blk_cell hq5).2.2 (by simp)).trans hq5
      have hb60 : Below w4.heap.size w4 w6 := (hb5.grown hg5 hb5.size (fun k hk => by cases hk; omega)).grown hg6 (by simp at hs5; omega) (fun k hk => by cases hk; omega)
      have hb6 := Below.next hb4 hb60
      have hsx := seg_of hq5 0 32 (by rw [idC_size hd32]; omega) (show (idC d).extract 0 (0 + 32) = idC d by have := idC_size hd32; rw [Nat.zero_add, ← this, Array.extract_size])
      have hi32 := idC_size hd32
      have hl6 : wr.heap.size ≤ w4.heap.size := hb4.size
      have h06 := Lib.hid hq6
      clear hzA hzB hb5 hg5 hg6 hs5 hs6 hq5 hq6 hb4 hb60
      generalize w4.heap.size = q at *
      have hpq : p < wr.heap.size := (blk_cell HP3.out).2.2
      (repeat ((fail_if_success at_builtin); first | go_values | go_skip | go_guarded | go_step | go_upon))
      have hzC := blk0 w6 (idC d) 24
      clear hsx hi32
      refine app_did (w := w6.alloc (.cells (idC d) 24)) rfl _ _ rfl (p + 1) (.slice aw k cw) k _ rfl (own_below (own_below HG.out.own hb6) (grow1' w6 (idC d) 24)) w6.heap.size 1 d rfl hzC hd32 hkl (by have := hb6.size; simp; omega) ?_
      intro v7 w7 ho7 hg7
      have hlt : ∀ x, (Value.slice aw k cw).ownBlock = some x → p < x ∧ x < wr.heap.size := fun x hx => by have := (World.ownsRow.lt HG.out.own) x hx; omega
      have hk7 := grown_trans (grown_below (grow1' w6 (idC d) 24)) hg7
      have hp7 := (hk7.block p (by have := hb6.size; omega) (fun e => by have := hlt p e.symm; omega)).trans ((hb6.block p hpq).trans HP3.out)
      have hq7 := (hk7.block (q + 1) (blk_cell h06.out).2.2 (fun e => by have := hlt (q + 1) e.symm; omega)).trans h06.out
      have hr7 := (hk7.block (w.heap.size + 1) (by have := hb6.size; have := (blk_cell HG.out.hr).2.2; omega) (fun e => by have := hlt (w.heap.size + 1) e.symm; omega)).trans ((hb6.block _ (blk_cell HG.out.hr).2.2).trans HG.out.hr)
      have hB7 := (Below.next HG.out.B hb6).grown hk7 (Below.size (Below.next HG.out.B hb6)) (fun j hj => by have := hlt j hj; omega)
      obtain ⟨a7, c7, rfl, _⟩ := own_form ho7
      have kc0 := (blk_cell hq7).1 0
      have kc1 := (blk_cell hq7).1 1
      simp only [List.getElem?_toArray, List.getElem?_cons_zero, List.getElem?_cons_succ] at kc0 kc1
      clear hzC hk7 hg7 hq7 h06 hb6 hlt
      (repeat ((fail_if_success (with_reducible show wpList _ _ _ (Oper.mk _ (Op.store _ _ _) _ _ _ _ :: _) _ _)); first | go_values | go_skip | go_guarded | go_step | go_upon))
      refine wpList_store_seg (w := w7) rfl 86 _ _ rfl rfl p 0 rfl #[.slice a4 n4 c4, .bool b4] rfl 86 #[.slice a3 n3 c3, .bool b3] hp7 (by simp) info_in one_in #[.slice a4 n4 c4, .bool b4] rfl ?_
      intro w8 hq8 hg8 hs8
      have hG8 : GI w0 w w8 p (getIdsN (k + 1) S) (.slice a7 (k + 1) c7) (k + 1) := by
        rw [HS.out]
        refine ⟨hB7.grown hg8 hB7.size (fun j hj => by cases hj; omega), ⟨a4, n4, c4, b4, hq8, hi4⟩, (hg8.block _ (blk_cell hr7).2.2 (by simp; omega)).trans hr7, ?_⟩
        have := own_grown ho7 hg8 (fun j hj => by cases hj; omega)
        show World.ownsRow _ _ _ _ _ _ (rowC 32 idF ((getIdsN k S).1 ++ [d]))
        rw [rowC_snoc]
        exact this
      have HG8 := Lib.hid hG8
      clear hG8 hq8 hg8 hs8 hB7 hr7 hp7 kc0 kc1 ho7 hi4
      go_wp2_with fail
      go_roundw
      case rel => exact ⟨k + 1, by omega, by go_num, HG8.out⟩
      case measure => simp [intOf]; omega
    · obtain rfl : k = m := by omega
      have hr0 := hG.hr
      obtain ⟨aw, cw, hvw, _⟩ := own_form hG.own
      subst hvw
      have f0 := (blk_cell hr0).2.1 0
      have f1 := (blk_cell hr0).2.1 1
      have r0 := (blk_cell hr0).1 0
      have r1 := (blk_cell hr0).1 1
      simp only [List.getElem?_toArray, List.getElem?_cons_zero, List.getElem?_cons_succ] at r0 r1
      have hset := set2 (u := .slice a3 n3 c3) (v := .bool b3) hr0
      have z0 := (blk_cell hset).1 0
      have z1 := (blk_cell hset).1 1
      simp only [List.getElem?_toArray, List.getElem?_cons_zero, List.getElem?_cons_succ] at z0 z1
      have hB8 := ((hG.B.setCell (p := ⟨w.heap.size + 1, 0, none⟩) (by simp) (.slice a3 n3 c3)).setCell (p := ⟨w.heap.size + 1, 1, none⟩) (by simp) (.bool b3)).drew
      have ho8 := own_grown (own_grown hG.own (grown_set wr (w.heap.size + 1) 0 (.slice a3 n3 c3)) (fun j hj => by cases hj; omega)) (grown_set _ (w.heap.size + 1) 1 (.bool b3)) (fun j hj => by cases hj; omega)
      have ho8 := (own_base (base' := w.heap.size) ho8 (by omega)).drew
      have HO := Lib.hid ho8; have HB8 := Lib.hid hB8; have HI := Lib.hid hi3
      have hne : ¬ p = w.heap.size + 1 := by omega
      clear hG hset ho8 hB8 hi3 hp3 hr0
      go_upto_region 9 with fail
      go_region_held3 (fun w' : World => w'.cell? ⟨p, 0, none⟩ = some (.slice a3 n3 c3) ∧ w'.cell? ⟨p, 1, none⟩ = some (.bool b3)) (first | assumption | (simp [go_sem, *]; done)) (fail)
      all_goals
        go_wp2_with fail
        refine bodyPost_ret (v := .tuple #[.slice aw k cw, .agg #[.slice a3 n3 c3, .bool b3]]) (by simp [results, Try.results53, go_sem, z0, z1]) rfl ?_
        rw [HX.out]
        exact ⟨_, _, _, _, _, _, _, rfl, HB8.out, HI.out, HO.out⟩

end Go.Proofs.Ytfjbmgfkfeehnaa
