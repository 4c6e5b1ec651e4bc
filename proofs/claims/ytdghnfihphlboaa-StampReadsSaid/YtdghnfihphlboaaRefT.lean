/- The document's reader: texts. -/
import Derived.Test.YtdghnfihphlboaaRefG
import Derived.Test.YtdghnfihphlboaaOpen
namespace Go.Proofs.Ytdghnfihphlboaa
open Go.RowKit

theorem Bs.dropG {w : World} {a : Option Addr} {n c : Nat} {l : List Int} (h : Bs w a n c l) (k : Nat) (hk : k ≤ n) : Bs w (a.map (fun x => x.add k)) (n - k) (c - k) (l.drop k) := by
  have hl := h.length
  have hle := h.le
  have hcap := h.cap
  refine ⟨by simp; omega, by omega, by omega, fun h0 => ?_, fun h0 => ?_⟩
  · have := h.nil (by simpa using h0)
    omega
  · obtain ⟨b, off, rfl, _⟩ := h.cells (by omega)
    have := (h.drop k hk).cells h0
    simpa [addr_add] using this
theorem Bs.dropE {w : World} {a : Option Addr} {n k : Nat} {l : List Int} (h : Bs w a n k l) (hk : k ≤ n) : Bs w a 0 0 (l.drop k) := by
  have hl := h.length
  have hle := h.le
  exact ⟨by simp; omega, Nat.le_refl _, by unfold maxLen; omega, fun _ => rfl, fun h0 => absurd h0 (by omega)⟩
set_option maxRecDepth 100000 in
set_option maxHeartbeats 2000000 in
theorem rgtext_any (most : Int) (s : Rd) (a : Option Addr) (n c : Nat) (b : Bool) (w0 w : World) (hbw : Below w0.heap.size w0 w) (h : InC w0 s a n c b) (hby : RdBytes s) :
    Calls Try.prog 59 #[.agg #[.slice a n c, .bool b], .int .i64 most] w (RetC w0 w (.string (toS (getText most s).1)) (getText most s).2) := by
  obtain ⟨W0, hW0⟩ : ∃ W0, W0 = (w.alloc (.cells #[.slice a n c, .bool b] 48)).alloc (.cells #[.slice none 0 0, .bool false] 48) := ⟨_, rfl⟩
  have hB0 : Below w.heap.size w W0 := by rw [hW0]; exact ((Below.refl _ _).alloc (Nat.le_refl _) _).alloc (by simp) _
  have hr : W0.heap[w.heap.size + 1]? = some (.cells #[.slice none 0 0, .bool false] 48 (0, 0)) := by
    have := blk0 (w.alloc (.cells #[.slice a n c, .bool b] 48)) #[.slice none 0 0, .bool false] 48
    rw [hW0]
    simpa using this
  have hc1 := rgnum_any most s a n c b w0 W0 (Below.next hbw hB0) h hby
  have hby1 := hby.getNum most
  have hnn := getNum_nonneg most s
  have HR := Lib.hid hr
  have HC1 := Lib.hid hc1
  unfold getText
  clear hr hc1 h hby
  generalize getNum most s = x at *
  obtain ⟨m, s1⟩ := x
  simp only at hby1 hnn ⊢
  obtain ⟨k, rfl⟩ : ∃ k : Nat, m = k := ⟨m.toNat, by omega⟩
  clear hnn
  obtain ⟨tx, s2, hx⟩ : ∃ tx s2, textOf ((k : Int), s1) = (tx, s2) := ⟨_, _, rfl⟩
  rw [hx]
  have HX := Lib.hid hx
  clear hx
  simp only
  go_enter Try.func59, Try.ntmps59
  go_wp2_with fail
  rw [← hW0]
  clear hW0
  refine HC1.out.mono ?_
  rintro e w1 ⟨a1, n1, c1, b1, rfl, hb1, hi1⟩
  dsimp only
  have hB1 : Below w.heap.size w w1 := Below.next hB0 hb1
  have hr := (hb1.block _ (blk_cell HR.out).2.2).trans HR.out
  clear HR HC1 hB0 hb1
  have hlt := (blk_cell hr).2.2
  have hA1 : Below w1.heap.size w1 (w1.alloc (.cells #[.slice a1 n1 c1, .bool b1] 48)) := (Below.refl _ _).alloc (Nat.le_refl _) _
  have hr := (hA1.block _ (blk_cell hr).2.2).trans hr
  have hB1 := Below.next hB1 hA1
  have hq := blk0 w1 #[.slice a1 n1 c1, .bool b1] 48
  have HR := Lib.hid hr
  cases s1 with
  | none =>
    obtain ⟨rfl, rfl, rfl, rfl⟩ := hi1
    have hx := HX.out
    rw [show textOf ((k : Int), none) = ([], none) from rfl] at hx
    cases hx
    clear HX
    clear hr hlt hq
    go_upto_region 3 with fail
    generalize w1.alloc (.cells #[.slice none 0 0, .bool true] 48) = W1 at *
    (repeat ((fail_if_success (with_reducible show wpList _ _ _ (Oper.mk _ (Op.store _ _ _) _ _ _ _ :: _) _ _)); first | go_values | go_skip | go_guarded | go_step | go_upon))
    go_at_call 72
    refine (failed_any _).mono ?_
    rintro e w2 ⟨rfl, hb⟩
    dsimp only
    have hr := (hb.block _ (blk_cell HR.out).2.2).trans HR.out
    (repeat ((fail_if_success (with_reducible show wpList _ _ _ (Oper.mk _ (Op.store _ _ _) _ _ _ _ :: _) _ _)); first | go_values | go_skip | go_guarded | go_step | go_upon))
    refine wpList_store_seg (w := w2) rfl 48 _ _ rfl rfl (w.heap.size + 1) 0 rfl #[.slice none 0 0, .bool true] rfl 48 #[.slice none 0 0, .bool false] hr (by simp) info_in one_in #[.slice none 0 0, .bool true] rfl ?_
    intro w3 hq hk2 _
    have hc := (blk_cell hq).1
    have hc0 := hc 0
    have hc1 := hc 1
    clear hc
    go_wp2_with fail
    exact bodyPost_ret (v := .tuple #[.string ⟨#[]⟩, .agg #[.slice none 0 0, .bool true]]) (by simp [results, Try.results59, go_sem, hc0, hc1]) rfl ⟨_, _, _, _, rfl, (Below.next hB1 hb).grown hk2 (Below.next hB1 hb).size (fun k hk => by cases hk; omega), rfl, rfl, rfl, rfl⟩
  | some l =>
    obtain ⟨rfl, hs1⟩ := hi1
    have hln := hs1.length
    by_cases hkl : k ≤ l.length
    · have hE : textOf ((k : Int), some l) = (l.take k, some (l.drop k)) := by simp [textOf, hkl]
      have hx := HX.out
      rw [hE] at hx
      cases hx
      clear HX
      have hkn : k ≤ n1 := by omega
      have hkI : ¬ (n1 : Int) < (k : Int) := by omega
      have hkd : decide ((n1 : Int) < (k : Int)) = false := by simp; omega
      have hkd2 : decide (n1 < k) = false := by simp; omega
      have hk0 : (0 : Int) ≤ (k : Int) := by omega
      have hk1 : (k : Int) ≤ (n1 : Int) := by omega
      have hle := hs1.le
      have hk2 : (k : Int) ≤ (c1 : Int) := by omega
      have hn2 : (n1 : Int) ≤ (c1 : Int) := by omega
      have hcv : ∀ w', Below w0.heap.size w0 w' → (convert 36 9 (.slice a1 k c1)).run Try.prog w' = .ok (.string (toS (l.take k))) w' := fun w' hb => conv_bs ((hs1.take k hkn).below hb)
      have HS := Lib.hid hs1
      clear hs1 hln hkl hE
      have hbW := Below.next hbw hB1
      have hww : w0.heap.size ≤ w.heap.size := hbw.size
      go_upto_region 4 with fail
      generalize hW3 : w1.alloc (.cells #[.slice a1 n1 c1, .bool false] 48) = W3 at *
      generalize w1.heap.size = q at *
      clear hW3
      have k20 := (blk_cell hr).1 0
      have k21 := (blk_cell hr).1 1
      have kq0 := (blk_cell hq).1 0
      have f20 := (blk_cell hr).2.1 0
      have f21 := (blk_cell hr).2.1 1
      simp only [List.getElem?_toArray, List.getElem?_cons_zero, List.getElem?_cons_succ] at k20 k21 kq0
      have hne2 : ¬ q = w.heap.size + 1 := by omega
      have hne2' : ¬ w.heap.size + 1 = q := by omega
      have hS : W3.drew.cell? ⟨q, 0, none⟩ = some (.slice a1 n1 c1) ∧ Below w0.heap.size w0 W3.drew := ⟨by simp [go_sem, kq0], hbW.drew⟩
      clear hr hq hbw
      by_cases hcc : c1 = k
      · subst hcc
        obtain rfl : n1 = c1 := by omega
        go_region_held3 (fun w' : World => w'.cell? ⟨q, 0, none⟩ = some (.slice a1 n1 n1) ∧ Below w0.heap.size w0 w') (first | assumption | exact ⟨by simp [go_sem, *], (Below.setCell (p := ⟨w.heap.size + 1, 1, none⟩) (Below.setCell (p := ⟨w.heap.size + 1, 0, none⟩) hbW (by simp; omega) _) (by simp; omega) _).drew⟩) (fail)
        all_goals
          go_wp2_with fail
          refine bodyPost_ret (v := .tuple #[.string (toS (l.take n1)), .agg #[.slice a1 0 0, .bool false]]) (by simp [results, Try.results59, go_sem, k20, k21]) rfl ⟨_, _, _, _, rfl, ?_, rfl, HS.out.dropE (Nat.le_refl _)⟩
          exact ((hB1.setCell (p := ⟨w.heap.size + 1, 0, none⟩) (by simp) _).setCell (p := ⟨w.heap.size + 1, 1, none⟩) (by simp) _).drew
      · go_region_held3 (fun w' : World => w'.cell? ⟨q, 0, none⟩ = some (.slice a1 n1 c1) ∧ Below w0.heap.size w0 w') (first | assumption | exact ⟨by simp [go_sem, *], (Below.setCell (p := ⟨w.heap.size + 1, 1, none⟩) (Below.setCell (p := ⟨w.heap.size + 1, 0, none⟩) hbW (by simp; omega) _) (by simp; omega) _).drew⟩) (fail)
        all_goals
          go_wp2_with fail
          refine bodyPost_ret (v := .tuple #[.string (toS (l.take k)), .agg #[.slice (Option.map (fun x => x.add k) a1) (n1 - k) (c1 - k), .bool false]]) (by simp [results, Try.results59, go_sem, k20, k21]) rfl ⟨_, _, _, _, rfl, ?_, rfl, HS.out.dropG k hkn⟩
          exact ((hB1.setCell (p := ⟨w.heap.size + 1, 0, none⟩) (by simp) _).setCell (p := ⟨w.heap.size + 1, 1, none⟩) (by simp) _).drew
    · have hE : textOf ((k : Int), some l) = ([], none) := by simp [textOf]; omega
      have hx := HX.out
      rw [hE] at hx
      cases hx
      clear HX hr hlt hq
      have hkI : (n1 : Int) < (k : Int) := by omega
      have hkN : n1 < k := by omega
      clear hs1 hln hE hkl
      go_upto_region 3 with fail
      generalize w1.alloc (.cells #[.slice a1 n1 c1, .bool false] 48) = W1 at *
      (repeat ((fail_if_success (with_reducible show wpList _ _ _ (Oper.mk _ (Op.store _ _ _) _ _ _ _ :: _) _ _)); first | go_values | go_skip | go_guarded | go_step | go_upon))
      go_at_call 72
      refine (failed_any _).mono ?_
      rintro e w2 ⟨rfl, hb⟩
      dsimp only
      have hr := (hb.block _ (blk_cell HR.out).2.2).trans HR.out
      (repeat ((fail_if_success (with_reducible show wpList _ _ _ (Oper.mk _ (Op.store _ _ _) _ _ _ _ :: _) _ _)); first | go_values | go_skip | go_guarded | go_step | go_upon))
      refine wpList_store_seg (w := w2) rfl 48 _ _ rfl rfl (w.heap.size + 1) 0 rfl #[.slice none 0 0, .bool true] rfl 48 #[.slice none 0 0, .bool false] hr (by simp) info_in one_in #[.slice none 0 0, .bool true] rfl ?_
      intro w3 hq hk2 _
      have hc := (blk_cell hq).1
      have hc0 := hc 0
      have hc1 := hc 1
      clear hc
      go_wp2_with fail
      exact bodyPost_ret (v := .tuple #[.string ⟨#[]⟩, .agg #[.slice none 0 0, .bool true]]) (by simp [results, Try.results59, go_sem, hc0, hc1]) rfl ⟨_, _, _, _, rfl, (Below.next hB1 hb).grown hk2 (Below.next hB1 hb).size (fun k hk => by cases hk; omega), rfl, rfl, rfl, rfl⟩

end Go.Proofs.Ytdghnfihphlboaa
