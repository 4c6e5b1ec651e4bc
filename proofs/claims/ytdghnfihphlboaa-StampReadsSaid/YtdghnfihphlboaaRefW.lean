/- Numbers, texts, IDs and stamps as bytes, the document's way. -/
import Derived.Test.YtdghnfihphlboaaJoin
import Derived.Test.YtdghnfihphlboaaGoodLaw
import Derived.Lib.ConvBytes
namespace Go.Proofs.Ytdghnfihphlboaa
open Go.RowKit

set_option maxRecDepth 100000 in
theorem wnum_any (n : Int) (w : World) : Calls Try.prog 48 #[.int .i64 n] w (RetB w (numL n)) := by
  have hown : (w.alloc (.cells #[] 5)).ownsRow w.heap.size 5 1 (.slice (some ⟨w.heap.size, 0, none⟩) 0 0) 0 [] := World.ownsRow_made _ _ _ (Nat.le_refl _) (Nat.zero_le _) rfl
  have hB0 : Below w.heap.size w (w.alloc (.cells #[] 5)) := (Below.refl _ _).alloc (Nat.le_refl _) _
  have hlen := numL_len n
  have hc := clampN_le n
  obtain ⟨m0, hm0⟩ : ∃ m0, clampN n = m0 := ⟨_, rfl⟩
  have hcl : (n < 0 ∧ m0 = 0) ∨ (¬ n < 0 ∧ decide (n < 0) = false ∧ 4611686018427387904 < n ∧ m0 = 4611686018427387904) ∨ (¬ n < 0 ∧ decide (n < 0) = false ∧ ¬ 4611686018427387904 < n ∧ decide (4611686018427387904 < n) = false ∧ n = m0) := by
    subst hm0
    unfold clampN
    simp only [decide_eq_false_iff_not]
    split
    · omega
    · split <;> omega
  rw [hm0] at hc
  unfold numL at hlen ⊢
  rw [hm0] at hlen ⊢
  obtain ⟨l0, hl0⟩ : ∃ l0, numB m0 = l0 := ⟨_, rfl⟩
  rw [hl0] at hlen ⊢
  have HL := Lib.hid hlen
  have H0 := Lib.hid hl0
  clear hlen hm0 hl0
  rcases hcl with ⟨h1, rfl⟩ | ⟨h1, d1, h2, rfl⟩ | ⟨h1, d1, h2, d2, rfl⟩
  all_goals
    go_enter Try.func48, Try.ntmps48
    go_wp2_with fail
    go_loopw [0, 3] (fun u v wr => ∃ (p : List Int) (m : Nat), l0 = p ++ numB m ∧ u = .int .i64 (m : Int) ∧ m ≤ 4611686018427387904 ∧ wr.ownsRow w.heap.size 5 1 v p.length (p.map (Value.int .u8)) ∧ Below w.heap.size w wr) (fun u _ _ => (intOf u).toNat)
    case atStart => exact ⟨[], _, H0.out.symm, rfl, hc, by simpa using hown, hB0⟩
    case round =>
      clear hown hB0
      obtain ⟨p, m, hp, rfl, hm, hownr, hbr⟩ := hrel
      have hpl : p.length + 1 ≤ 140737488355328 := by
        have e := congrArg List.length hp
        have h1 := HL.out
        simp only [List.length_append] at e
        omega
      have HP := Lib.hid hp
      have HM := Lib.hid hm
      have hbs := hbr.size
      clear hp hm
      have hm0 : (0 : Int) ≤ (m : Int) := by omega
      have hm1 : (m : Int) ≤ 4611686018427387904 := by have := HM.out; omega
      by_cases hlt : 128 ≤ (m : Int)
      · have e1 : ((m : Int) % 128 + 128) % 256 = ((m % 128 + 128 : Nat) : Int) := by omega
        go_wp2_with (at_builtin; refine app_byte rfl _ _ rfl w.heap.size _ _ _ rfl (hownr.alloc _) wr.heap.size 1 _ rfl (cell_one_new _ _ _ 0 _ rfl) hpl (by simp; omega) ?_; intro v' w1 hown' hgrow)
        go_roundw
        case rel =>
          refine ⟨p ++ [((m % 128 + 128 : Nat) : Int)], m / 128, ?_, by go_num, by have := HM.out; omega, ?_, ?_⟩
          · rw [HP.out, numB_ge (by omega)]; simp
          · simpa using hown'
          · exact (hbr.alloc hbr.size _).grown hgrow (by simp; omega) (fun k hk => ((World.ownsRow.lt hownr) k hk).1)
        case measure => simp [intOf]; omega
      · have e1 : (m : Int) % 256 = (m : Int) := by omega
        go_wp2_with (at_builtin; refine app_byte rfl _ _ rfl w.heap.size _ _ _ rfl (hownr.alloc _) wr.heap.size 1 _ rfl (cell_one_new _ _ _ 0 _ rfl) hpl (by simp; omega) ?_; intro v' w1 hown' hgrow)
        go_ret
        refine RetB.mk ((hbr.alloc hbr.size _).grown hgrow (by simp; omega) (fun k hk => ((World.ownsRow.lt hownr) k hk).1)) hown' ?_
        rw [HP.out, numB_lt (by omega)]
        simp

theorem two_below {W W' : World} {g o o' : Nat} {x y : Value} (h : W.cell? ⟨g, o, none⟩ = some x ∧ W.cell? ⟨g, o', none⟩ = some y) (hb : Below W.heap.size W W') : W'.cell? ⟨g, o, none⟩ = some x ∧ W'.cell? ⟨g, o', none⟩ = some y :=
  ⟨Below.old hb (Nat.le_refl _) h.1, Below.old hb (Nat.le_refl _) h.2⟩
theorem conv_str (s : ByteArray) (w : World) (hs : s.size ≤ 140737488355328) : ∃ (W : World) (c : Nat), (convert 9 36 (.string s)).run Try.prog w = .ok (.slice (some ⟨w.heap.size, 0, none⟩) s.size c) W ∧ Below w.heap.size w W ∧ Bs W (some ⟨w.heap.size, 0, none⟩) s.size c (strB s) := by
  refine ⟨_, _, Lib.run_convert_string_bytes w _ _ 5 s Try.underlying9 Try.underlying36 Try.underlying5, ⟨rfl, rfl, rfl, ?_, fun k hk => Lib.bytesWorld_at_old w _ s k hk⟩, ⟨by simp [strB_len], grownCap_ge _ _ _ _, grownCap_le_maxLen _ _ _ _ (by unfold maxLen; omega), fun h => (by cases h), fun _ => ⟨_, 0, rfl, fun j hj => ?_⟩⟩⟩
  · rw [Lib.bytesWorld_size]; omega
  · rw [Nat.mul_one] at hj
    rw [Nat.zero_add, Lib.bytesWorld_cell w _ s j hj]
    have hlen : s.data.toList.length = s.size := by simp
    simp [strB, List.getD, hlen, hj]

/-- A row of an old block stays when a newer block grows. -/
theorem Bs.keepAt {w w' : World} {g n c : Nat} {l : List Int} {b : Option Nat} (h : Bs w (some ⟨g, 0, none⟩) n c l) (k : w.grownBy w' b) (hb : ∀ j, b = some j → g < j) : Bs w' (some ⟨g, 0, none⟩) n c l := by
  refine ⟨h.len, h.le, h.cap, h.nil, fun hn => ?_⟩
  obtain ⟨b', off, ha, hc⟩ := h.cells hn
  cases ha
  refine ⟨g, 0, rfl, fun j hj => ?_⟩
  have hl := h.len
  have hv := hc j hj
  rw [List.getElem?_eq_getElem (by omega)] at hv ⊢
  exact k.cell hv (fun e => by have := hb _ e.symm; simp at this)

theorem RetB.cast {w : World} {l l' : List Int} {e : Ending} {w' : World} (h : RetB w l e w') (hl : l = l') : RetB w l' e w' := hl ▸ h

set_option maxRecDepth 100000 in
theorem wstamp_any (s : St) (w : World) : Calls Try.prog 49 #[.agg #[.int .i64 s.t, .int .i64 s.r]] w (RetB w (stL s)) := by
  have hB0 : Below w.heap.size w (w.alloc (.cells #[.int .i64 s.t, .int .i64 s.r] 23)).drew := ((Below.refl _ _).alloc (Nat.le_refl _) _).drew
  have h1 := numL_len s.t
  have h2 := numL_len s.r
  have hlen : (numL s.t).length + (numL s.r).length ≤ 140737488355328 := by omega
  clear h1 h2
  go_enter Try.func49, Try.ntmps49
  go_wp2_with fail
  go_region_held3 (fun w' => w'.cell? ⟨w.heap.size, 0, none⟩ = some (.int .i64 s.t) ∧ w'.cell? ⟨w.heap.size, 1, none⟩ = some (.int .i64 s.r)) (first | assumption | (simp [go_sem]; done) | exact two_below (by assumption) (by assumption))
    (first
      | (go_at_call 48; (with_reducible refine (wnum_any s.t _).mono ?_); rintro e w1 ⟨a1, k1, c1, rfl, hb, hown⟩; have hs1 := own_bs hown; have hB := Below.next hB0 hb)
      | (go_at_call 48; (with_reducible refine (wnum_any s.r _).mono ?_); rintro e w2 ⟨a2, k2, c2, rfl, hb2, hown2⟩; have hs2 := own_bs hown2; have hs1 := hs1.below hb2; have hB := Below.next hB hb2)
      | (go_at_call 24; (with_reducible refine (join_any _ _ _ _ _ _ _ _ _ hs1 hs2 hlen).mono ?_); rintro e w3 ⟨a3, k3, c3, rfl, hb3, hown3⟩; have hO := own_base (base' := w.heap.size) hown3 hB.size; have hB := Below.next hB hb3))
  all_goals
    go_wp2_with fail
    go_ret
    exact RetB.mk hB hO rfl

set_option maxRecDepth 100000 in
theorem wtext_any (s : ByteArray) (w : World) (hs : s.size ≤ 140737488351232) : Calls Try.prog 50 #[.string s] w (RetB w (textL s)) := by
  go_enter Try.func50, Try.ntmps50
  go_wp2_with (first
      | (go_at_call 48; (with_reducible refine (wnum_any s.size _).mono ?_); rintro e w1 ⟨a1, k1, c1, rfl, hb, hown⟩; have hs1 := own_bs hown; obtain ⟨W2, c2, hconv, hB2, hs2⟩ := conv_str s w1 (by omega); have hs1 := hs1.below hB2; have hB := Below.next hb hB2; have hlen : (numL s.size).length + (strB s).length ≤ 140737488355328 := by { have := numL_len s.size; have := strB_len s; omega }; clear hb)
      | (go_at_call 24; (with_reducible refine (join_any _ _ _ _ _ _ _ _ _ hs1 hs2 hlen).mono ?_); rintro e w3 ⟨a3, k3, c3, rfl, hb3, hown3⟩; have hO := own_base (base' := w.heap.size) hown3 hB.size; have hB := Below.next hB hb3))
  go_ret
  exact RetB.mk hB hO rfl

set_option maxRecDepth 100000 in
theorem wid_any (d : List Int) (w : World) (hd : d.length = 32) : Calls Try.prog 51 #[.agg (idC d)] w (RetB w d) := by
  have hsz : (idC d).size = 32 := by simp [idC, hd]
  have hx0 : (w.alloc (.cells (idC d) 29)).heap[w.heap.size]? = some (.cells (idC d) 29 (0, 0)) := heap_alloc_new w _
  have hrow : Bs (w.alloc (.cells (idC d) 29)) (some ⟨w.heap.size, 0, none⟩) 32 32 d := by
    have := Sl.row hx0 1 32 (by simp [hsz]) (by simp [maxLen])
    simpa [idC, Bs] using this
  have hx : Below (w.alloc (.cells (idC d) 29)).heap.size (w.alloc (.cells (idC d) 29)) ((w.alloc (.cells (idC d) 29)).alloc (.cells #[] 5)) := (Below.refl _ _).alloc (Nat.le_refl _) _
  have hrow := hrow.below hx
  have hB0 : Below w.heap.size w ((w.alloc (.cells (idC d) 29)).alloc (.cells #[] 5)) := Below.next ((Below.refl _ _).alloc (Nat.le_refl _) _) hx
  have hown : ((w.alloc (.cells (idC d) 29)).alloc (.cells #[] 5)).ownsRow (w.heap.size + 1) 5 1 (.slice (some ⟨w.heap.size + 1, 0, none⟩) 0 0) 0 [] := by
    have : ((w.alloc (.cells (idC d) 29)).alloc (.cells #[] 5)).ownsRow (w.alloc (.cells (idC d) 29)).heap.size 5 1 (.slice (some ⟨(w.alloc (.cells (idC d) 29)).heap.size, 0, none⟩) 0 0) 0 [] := World.ownsRow_made _ _ _ (Nat.le_refl _) (Nat.zero_le _) rfl
    simpa using this
  clear hx hx0 hsz
  go_enter Try.func51, Try.ntmps51
  go_wp2_with fail
  generalize (w.alloc (.cells (idC d) 29)).alloc (.cells #[] 5) = W0 at *
  have HD := Lib.hid hd
  clear hd
  go_loopw [3, 4] (fun v i wr => ∃ k : Nat, k ≤ 32 ∧ i = .int .i64 k ∧ wr.ownsRow (w.heap.size + 1) 5 1 v k ((d.take k).map (Value.int .u8)) ∧ Below w.heap.size w wr ∧ Bs wr (some ⟨w.heap.size, 0, none⟩) 32 32 d) (fun _ i _ => 32 - (intOf i).toNat)
  case atStart => exact ⟨0, Nat.zero_le _, rfl, by simpa using hown, hB0, hrow⟩
  case round =>
    clear hown hB0 hrow
    obtain ⟨k, hk, rfl, hownr, hB, hrow⟩ := hrel
    have hbs := hB.size
    have hl1 : w.heap.size + 1 ≤ wr.heap.size := by have := hrow.cellAt (k := 0) (by omega); obtain ⟨b, off, x, e, _, hc⟩ := this; cases e; have := cell_lt hc; omega
    by_cases hkn : k < 32
    · obtain ⟨b, off, x, e, hx, hc⟩ := hrow.cellAt hkn
      cases e
      rw [Nat.zero_add] at hc
      have hpl : k + 1 ≤ 140737488355328 := by omega
      have HX := Lib.hid hx
      clear hx
      go_wp2_with (at_builtin; refine app_byte rfl _ _ rfl (w.heap.size + 1) _ _ _ rfl (hownr.alloc _) wr.heap.size 1 _ rfl (cell_one_new _ _ _ 0 _ rfl) hpl (by simp; omega) ?_; intro v' w1 hown' hgrow)
      go_roundw
      case rel =>
        refine ⟨k + 1, by omega, by go_num, ?_, ?_, ?_⟩
        · rw [take_snoc' HX.out, List.map_append]; exact hown'
        · exact (hB.alloc hB.size _).grown hgrow (by simp; omega) (fun k hk => Nat.le_of_succ_le (((World.ownsRow.lt hownr) k hk).1))
        · refine (hrow.alloc _).keepAt hgrow (fun j hj => ?_)
          have := ((World.ownsRow.lt hownr) j hj).1
          omega
      case measure => simp [intOf]; omega
    · obtain rfl : k = 32 := by omega
      go_wp2_with fail
      go_ret
      refine RetB.mk hB (own_base hownr (Nat.le_succ _)) ?_
      rw [List.take_of_length_le (by rw [HD.out]; exact Nat.le_refl _)]

end Go.Proofs.Ytdghnfihphlboaa
