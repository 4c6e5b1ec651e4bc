/- The document's reader: IDs. -/
import Derived.Test.YtdghnfihphlboaaRefT
import Derived.Test.YtdghnfihphlboaaBoxW
import Derived.Deep.RegionLaw
namespace Go.Proofs.Ytdghnfihphlboaa
open Go.RowKit

theorem wpList_store_idle {P : Program} {ops : Array Oper} {rest : List Oper} {o : Oper} {a : Act} {w : World} {Q : Exit → Act → World → Prop} (hw : Region.wanted o (yielded ops a.tmps) = true) (ty : TypeId) (x y : Operand) (ho : o.op = .store ty x y) (hdst : o.dst = none)
    (g : Nat) (hx : a.eval x = .pointer (some ⟨g, 0, none⟩)) (cs : Array Value) (hy : a.eval y = .agg cs) (t : TypeId) (hg : w.heap[g]? = some (.cells cs t (0, 0)))
    (hi : (P.info? ty).map (·.size) = some cs.size) (h1 : ∀ v ∈ cs.toList, v.oneCell' = true)
    (h : wpList P ops Q rest a w) : wpList P ops Q (o :: rest) a w :=
  wpList_wanted hw fun _ hK => wp_store_idle ty x y ho hdst g hx cs hy t hg hi h1 (hK _ _ h)
theorem zero32_at {k : Nat} (h : k < 32) : zero32[k]? = some 0 := by unfold zero32; rw [List.getElem?_replicate, if_pos h]
theorem zero32_drop {k : Nat} (h : k < 32) : zero32.drop k = 0 :: zero32.drop (k + 1) := by
  have hl : k < zero32.length := h
  rw [List.drop_eq_getElem_cons hl]
  have := zero32_at h
  rw [List.getElem?_eq_getElem hl] at this
  rw [Option.some.inj this]
theorem id_at {l : List Int} {k n : Nat} (h : k < 32) (hl : l.length = n) (hk : k < n) : (idC (l.take k ++ zero32.drop k))[k]? = some (.int .u8 0) := by
  have h1 : (l.take k).length = k := by rw [List.length_take]; omega
  rw [zero32_drop h]
  simp only [idC, List.getElem?_toArray, List.getElem?_map]
  rw [List.getElem?_append_right (by omega), h1, Nat.sub_self]
  rfl
theorem id_step {l : List Int} {k : Nat} {x : Int} (h : k < 32) (hx : l[k]? = some x) : (idC (l.take k ++ zero32.drop k)).setIfInBounds k (.int .u8 x) = idC (l.take (k + 1) ++ zero32.drop (k + 1)) := by
  obtain ⟨hk, _⟩ := List.getElem?_eq_some_iff.1 hx
  have h1 : ((l.take k).map (Value.int .u8)).length = k := by rw [List.length_map, List.length_take]; omega
  rw [take_snoc' hx, zero32_drop h]
  apply Array.ext'
  simp only [idC, List.setIfInBounds_toArray, List.map_append, List.map_cons]
  rw [List.set_append_right _ _ (by omega), h1, Nat.sub_self, List.set_cons_zero]
  simp

set_option maxRecDepth 100000 in
set_option maxHeartbeats 2000000 in
theorem rgid_any (s : Rd) (a : Option Addr) (n c : Nat) (b : Bool) (w0 w : World) (hbw : Below w0.heap.size w0 w) (h : InC w0 s a n c b) :
    Calls Try.prog 60 #[.agg #[.slice a n c, .bool b]] w (RetC w0 w (.agg (idC (getId s).1)) (getId s).2) := by
  obtain ⟨d, s1, hx⟩ : ∃ d s1, getId s = (d, s1) := ⟨_, _, rfl⟩
  rw [hx]
  have HX := Lib.hid hx
  have HI := Lib.hid h
  clear hx h
  simp only
  go_enter Try.func60, Try.ntmps60
  go_upto_region 1 with fail
  obtain ⟨W0, hW0⟩ : ∃ W0, W0 = ((w.alloc (.cells #[.slice a n c, .bool b] 48)).alloc (.cells litZ 29)).alloc (.cells #[.slice none 0 0, .bool false] 48) := ⟨_, rfl⟩
  have hB0 : Below w.heap.size w W0 := by rw [hW0]; exact (((Below.refl _ _).alloc (Nat.le_refl _) _).alloc (by simp) _).alloc (by simp; omega) _
  have hb1 : W0.heap[w.heap.size]? = some (.cells #[.slice a n c, .bool b] 48 (0, 0)) := by
    rw [hW0, Below.heap_alloc _ _ _ (by simp; omega), Below.heap_alloc _ _ _ (by simp)]
    exact blk0 w _ _
  have hb2 : W0.heap[w.heap.size + 1]? = some (.cells litZ 29 (0, 0)) := by
    have := blk0 (w.alloc (.cells #[.slice a n c, .bool b] 48)) litZ 29
    rw [hW0, Below.heap_alloc _ _ _ (by simp)]
    simpa using this
  have hb3 : W0.heap[w.heap.size + 2]? = some (.cells #[.slice none 0 0, .bool false] 48 (0, 0)) := by
    have := blk0 ((w.alloc (.cells #[.slice a n c, .bool b] 48)).alloc (.cells litZ 29)) #[.slice none 0 0, .bool false] 48
    rw [hW0]
    simpa using this
  have hsz : W0.heap.size = w.heap.size + 3 := by rw [hW0]; simp
  unfold litZ at hW0
  rw [← hW0]
  clear hW0
  have hz := blk0 W0 litZ 29
  have hA : Below W0.heap.size W0 (W0.alloc (.cells litZ 29)) := (Below.refl _ _).alloc (Nat.le_refl _) _
  have hb1 := (hA.block _ (blk_cell hb1).2.2).trans hb1
  have hb2 := (hA.block _ (blk_cell hb2).2.2).trans hb2
  have hb3 := (hA.block _ (blk_cell hb3).2.2).trans hb3
  have hB0 := Below.next hB0 hA
  rw [hsz] at hz
  have hx1 := boxW_of hb2 (n := 32) rfl
  have hx2 := boxW_of hz (n := 32) rfl
  have hc10 := (blk_cell hb1).1 0
  have hc11 := (blk_cell hb1).1 1
  have HB3 := Lib.hid hb3
  have HB2 := Lib.hid hb2
  have HB1 := Lib.hid hb1
  simp only [List.getElem?_toArray, List.getElem?_cons_zero, List.getElem?_cons_succ] at hc10 hc11
  clear hA hb1 hb2 hb3
  (repeat ((fail_if_success (with_reducible show wpList _ _ _ (Oper.mk _ (Op.store _ _ _) _ _ _ _ :: _) _ _)); first | go_values | go_skip | go_guarded | go_step | go_upon))
  refine wpList_store_idle (w := W0.alloc (.cells litZ 29)) rfl 29 _ _ rfl rfl (w.heap.size + 3) rfl litZ rfl 29 hz size_arr (cells_id zero32) ?_
  generalize W0.alloc (.cells litZ 29) = W1 at *
  clear hz
  by_cases hbad : b = true ∨ n < 32
  · have hE : d = zero32 ∧ s1 = none := by
      have hx := HX.out
      have hi := HI.out
      cases s with
      | none => cases hx; exact ⟨rfl, rfl⟩
      | some l =>
        have hb : b = false := hi.1
        have hl : l.length = n := hi.2.length
        unfold getId at hx
        simp only at hx
        rw [if_neg (by rcases hbad with h | h; (rw [h] at hb; cases hb); omega)] at hx
        cases hx
        exact ⟨rfl, rfl⟩
    obtain ⟨rfl, rfl⟩ := hE
    have hcond : b = true ∨ (b = false ∧ (n : Int) < 32) := by
      rcases hbad with h | h
      · exact .inl h
      · cases b
        · exact .inr ⟨rfl, by omega⟩
        · exact .inl rfl
    clear hbad HX
    have hz1 : litZ.size = 32 := rfl
    have hz2 : ones litZ = true := ones_id zero32
    rcases hcond with rfl | ⟨rfl, hn32⟩
    all_goals
      go_upto_region 3 with fail
      go_region_law (go_simp; go_at_call 72; refine (failed_any _).mono ?_; rintro e w2 ⟨rfl, hb⟩; have hb := Below.next ((Below.refl W1.heap.size W1).drew) hb; have hx1 := boxW_below hx1 hb; have hx2 := boxW_below hx2 hb; have hr := (hb.block _ (blk_cell HB3.out).2.2).trans HB3.out; have hr0 := (blk_cell hr).1 0; have hr1 := (blk_cell hr).1 1; have hf0 := (blk_cell hr).2.1 0; have hf1 := (blk_cell hr).2.1 1; simp only [List.getElem?_toArray, List.getElem?_cons_zero, List.getElem?_cons_succ] at hr0 hr1)
      all_goals
        go_wp2_with fail
        have hF := fin_heap (cs := litZ) (x := .slice none 0 0) (y := .bool true) (of_boxW hx1.1).1 hr (by omega)
        refine bodyPost_ret (results_cells2 rfl _ _ (w.heap.size + 1) (w.heap.size + 2) 29 48 litZ #[.slice none 0 0, .bool true] (0, 0) (0, 0) _ _ rfl rfl hF.1 hF.2 Try.underlying29 rfl size_arr Try.underlying48 rfl info_in) rfl ?_
        exact ⟨_, _, _, _, rfl, fin_below (Below.next hB0 hb) (by omega) (by omega), rfl, rfl, rfl, rfl⟩
  · obtain ⟨l, rfl⟩ : ∃ l, s = some l := by
      have hi := HI.out
      cases s with
      | none => exact absurd (.inl hi.2.2.2) hbad
      | some l => exact ⟨l, rfl⟩
    obtain ⟨rfl, hs0⟩ := HI.out
    have hln := hs0.length
    have hn32 : 32 ≤ n := by
      rcases Nat.lt_or_ge n 32 with h | h
      · exact absurd (.inr h) hbad
      · exact h
    have hx := HX.out
    unfold getId at hx
    simp only at hx
    rw [if_pos (by omega)] at hx
    cases hx
    have hnI : ¬ (n : Int) < 32 := by omega
    have hnd : decide ((n : Int) < 32) = false := by simp; omega
    have hnN : ¬ n < 32 := by omega
    have hnNd : decide (n < 32) = false := by simp; omega
    clear hbad HX
    have hr4 := (of_boxW hx2.1).1
    rw [hx2.2] at hr4
    have hr2 := HB2.out
    have hr3 := HB3.out
    have hr1 : W1.heap[w.heap.size]? = some (.cells #[.slice a n c, .bool false] 48 (0, 0)) := HB1.out
    go_upto_region 5 with fail
    clear hc10 hc11
    have HLN := Lib.hid hln
    clear hln hx1 hx2 HB1 HB2 HB3 hsz
    go_loopw [5] (fun i wr => ∃ k : Nat, k ≤ 32 ∧ i = .int .i64 k ∧ Below w.heap.size w wr ∧ wr.heap[w.heap.size]? = some (.cells #[.slice a n c, .bool false] 48 (0, 0)) ∧ wr.heap[w.heap.size + 1]? = some (.cells litZ 29 (0, 0)) ∧
      wr.heap[w.heap.size + 2]? = some (.cells #[.slice none 0 0, .bool false] 48 (0, 0)) ∧ wr.heap[w.heap.size + 3]? = some (.cells (idC (l.take k ++ zero32.drop k)) 29 (0, 0))) (fun i _ => 32 - (intOf i).toNat)
    case atStart => exact ⟨0, Nat.zero_le _, rfl, hB0, hr1, hr2, hr3, hr4⟩
    case round =>
      clear hr1 hr2 hr3 hr4 hB0
      obtain ⟨k, hk, rfl, hB, hr1, hr2, hr3, hr4⟩ := hrel
      have hBw := Below.next hbw hB
      have hc10 := (blk_cell hr1).1 0
      simp only [List.getElem?_toArray, List.getElem?_cons_zero] at hc10
      by_cases hk32 : k < 32
      · obtain ⟨b, off, x, rfl, hx, hc⟩ := (hs0.below hBw).cellAt (k := k) (by omega)
        have hcs := id_at (l := l) hk32 HLN.out (by omega)
        have hc4 := (blk_cell hr4).1 k
        rw [hcs] at hc4
        have hf4 := (blk_cell hr4).2.1 k
        have hsame := heap_setCell_same wr (w.heap.size + 3) k _ _ (.int .u8 x) hr4
        have HX := Lib.hid hx
        have HS := Lib.hid hsame
        have hkn : (k : Int) < (n : Int) := by omega
        have hk0 : (0 : Int) ≤ (k : Int) := by omega
        have hk3 : (k : Int) < 32 := by omega
        have R1 := Lib.hid hr1; have R2 := Lib.hid hr2; have R3 := Lib.hid hr3
        clear hx hcs hsame hr1 hr2 hr3 hr4
        go_wp2_with fail
        go_roundw
        case rel =>
          refine ⟨k + 1, by omega, by go_num, hB.setCell (p := ⟨w.heap.size + 3, k, none⟩) (by simp) _, ?_, ?_, ?_, ?_⟩
          · rw [Below.heap_setCell _ _ _ _ (by simp)]; exact R1.out
          · rw [Below.heap_setCell _ _ _ _ (by simp)]; exact R2.out
          · rw [Below.heap_setCell _ _ _ _ (by simp)]; exact R3.out
          · rw [HS.out]
            rw [id_step hk32 HX.out]
        case measure => simp [intOf]; omega
      · obtain rfl : k = 32 := by omega
        have hd : idC (l.take 32 ++ zero32.drop 32) = idC (l.take 32) := by rw [show zero32.drop 32 = [] from rfl, List.append_nil]
        rw [hd] at hr4
        have hDs : (idC (l.take 32)).size = 32 := by simp [idC, HLN.out]; omega
        have hDo := ones_id (l.take 32)
        clear hd hk
        generalize hDe : idC (l.take 32) = D at *
        have hx4 := boxW_of hr4 hDs
        have hx2 := boxW_of hr2 (n := 32) rfl
        have k30 := (blk_cell hr3).1 0
        have k31 := (blk_cell hr3).1 1
        have f30 := (blk_cell hr3).2.1 0
        have f31 := (blk_cell hr3).2.1 1
        simp only [List.getElem?_toArray, List.getElem?_cons_zero, List.getElem?_cons_succ] at k30 k31
        have R2 := Lib.hid hr2; have R3 := Lib.hid hr3
        clear hr1 hr2 hr3 hr4 hBw
        have h32n : (32 : Int) ≤ (n : Int) := by omega
        have hle := hs0.le
        have h32c : (32 : Int) ≤ (c : Int) := by omega
        have hnc : (n : Int) ≤ (c : Int) := by omega
        have HS0 := Lib.hid hs0
        by_cases hcc : c = 32
        · subst hcc
          obtain rfl : n = 32 := by omega
          clear hs0 hle hnN hnI hnNd hnd h32n h32c hnc hn32
          go_upto_region 8 with fail
          go_region_law (fail)
          all_goals
            go_wp2_with fail
            have hF := fin_heap (W := wr.drew) (cs := D) (x := .slice a 0 0) (y := .bool false) R2.out R3.out (by omega)
            refine bodyPost_ret (results_cells2 rfl _ _ (w.heap.size + 1) (w.heap.size + 2) 29 48 D #[.slice a 0 0, .bool false] (0, 0) (0, 0) _ _ rfl rfl hF.1 hF.2 Try.underlying29 rfl (by rw [hDs]; exact size_arr) Try.underlying48 rfl info_in) rfl ?_
            rw [← hDe]
            exact ⟨_, _, _, _, rfl, fin_below hB.drew (by omega) (by omega), rfl, HS0.out.dropE (Nat.le_refl _)⟩
        · obtain ⟨b0, off0, rfl, _⟩ := hs0.cells (by omega)
          clear hs0 hle
          go_upto_region 8 with fail
          go_region_law (fail)
          all_goals
            go_wp2_with fail
            have hF := fin_heap (W := wr.drew) (cs := D) (x := .slice (some ⟨b0, off0 + 32, none⟩) (n - 32) (c - 32)) (y := .bool false) R2.out R3.out (by omega)
            refine bodyPost_ret (results_cells2 rfl _ _ (w.heap.size + 1) (w.heap.size + 2) 29 48 D #[.slice (some ⟨b0, off0 + 32, none⟩) (n - 32) (c - 32), .bool false] (0, 0) (0, 0) _ _ rfl rfl hF.1 hF.2 Try.underlying29 rfl (by rw [hDs]; exact size_arr) Try.underlying48 rfl info_in) rfl ?_
            rw [← hDe]
            exact ⟨_, _, _, _, rfl, fin_below hB.drew (by omega) (by omega), rfl, HS0.out.drop 32 (by omega)⟩

end Go.Proofs.Ytdghnfihphlboaa
