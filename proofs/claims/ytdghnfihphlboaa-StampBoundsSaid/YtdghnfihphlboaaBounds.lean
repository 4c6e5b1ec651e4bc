/- Stamps are right up to their bounds; their order is total: the walk. -/
import Derived.Test.YtdghnfihphlboaaOrd
import Derived.Deep.Cut
namespace Go.Proofs.Ytdghnfihphlboaa
open Go.RowKit

theorem stCmp_trans {a b c : St} (h1 : stCmp a b ≤ 0) (h2 : stCmp b c ≤ 0) : stCmp a c ≤ 0 := by
  unfold stCmp orZ cmpZ at *
  grind
theorem stCmp_eq (a b : St) : (stCmp a b == 0) = stEqB a.t a.r b.t b.r := by
  rw [stEq_iff, Bool.eq_iff_iff]
  simp only [beq_iff_eq, decide_eq_true_eq]
  exact ⟨stCmp_zero, fun h => h ▸ stCmp_self a⟩

set_option maxRecDepth 100000 in
set_option maxHeartbeats 4000000 in
theorem bounds_any (a b c : St) (w : World) :
    Calls Try.prog 7 #[.agg #[.int .i64 a.t, .int .i64 a.r], .agg #[.int .i64 b.t, .int .i64 b.r], .agg #[.int .i64 c.t, .int .i64 c.r]] w (Ret w (.bool true)) := by
  go_enter Try.func7, Try.ntmps7
  go_wp2_with fail
  go_at_call 11
  refine (alive_any _).mono ?_
  rintro e w1 ⟨rfl, hb1⟩
  dsimp only
  have hB : Below w.heap.size w w1 := Below.grow1 (Below.grow1 (Below.grow1 hb1))
  have c1 := bcell hb1
  have G1 : w1.cell? ⟨w.heap.size, 0, none⟩ = some (.int .i64 a.t) := by rw [c1.1 _ _ (by simp; omega)]; simp [go_sem]
  have G2 : w1.cell? ⟨w.heap.size, 1, none⟩ = some (.int .i64 a.r) := by rw [c1.1 _ _ (by simp; omega)]; simp [go_sem]
  have G3 : w1.cell? ⟨w.heap.size + 1, 0, none⟩ = some (.int .i64 b.t) := by rw [c1.1 _ _ (by simp)]; simp [go_sem]
  have G4 : w1.cell? ⟨w.heap.size + 1, 1, none⟩ = some (.int .i64 b.r) := by rw [c1.1 _ _ (by simp)]; simp [go_sem]
  have G5 : w1.cell? ⟨w.heap.size + 2, 0, none⟩ = some (.int .i64 c.t) := by rw [c1.1 _ _ (by simp)]; simp [go_sem]
  have G6 : w1.cell? ⟨w.heap.size + 2, 1, none⟩ = some (.int .i64 c.r) := by rw [c1.1 _ _ (by simp)]; simp [go_sem]
  have hsz : w.heap.size + 3 ≤ w1.heap.size := by have := hb1.size; simp at this; omega
  clear c1 hb1
  go_upto_region 4 with fail
  have hrow : Sl (w1.alloc (.cells #[.int .i64 a.t, .int .i64 a.r, .int .i64 b.t, .int .i64 b.r, .int .i64 c.t, .int .i64 c.r] 23)) 2 (some ⟨w1.heap.size, 0, none⟩) 3 3 (stsC [a, b, c]) := Sl.row (blk0 w1 _ _) 2 3 rfl (by simp [maxLen])
  have hB0 : Below w.heap.size w (w1.alloc (.cells #[.int .i64 a.t, .int .i64 a.r, .int .i64 b.t, .int .i64 b.r, .int .i64 c.t, .int .i64 c.r] 23)) := hB.alloc hB.size _
  have hk0 : ∀ b' o v, w1.cell? ⟨b', o, none⟩ = some v → (w1.alloc (.cells #[.int .i64 a.t, .int .i64 a.r, .int .i64 b.t, .int .i64 b.r, .int .i64 c.t, .int .i64 c.r] 23)).cell? ⟨b', o, none⟩ = some v := fun _ _ _ h => Below.old ((Below.refl _ _).alloc (Nat.le_refl _) _) (Nat.le_refl _) h
  have G1 := hk0 _ _ _ G1
  have G2 := hk0 _ _ _ G2
  have G3 := hk0 _ _ _ G3
  have G4 := hk0 _ _ _ G4
  have G5 := hk0 _ _ _ G5
  have G6 := hk0 _ _ _ G6
  clear hk0 hB
  generalize w1.alloc (.cells #[.int .i64 a.t, .int .i64 a.r, .int .i64 b.t, .int .i64 b.r, .int .i64 c.t, .int .i64 c.r] 23) = W0 at *
  generalize w1.heap.size = g at *
  have HG1 := Lib.hid G1; have HG2 := Lib.hid G2; have HG3 := Lib.hid G3; have HG4 := Lib.hid G4; have HG5 := Lib.hid G5; have HG6 := Lib.hid G6
  clear G1 G2 G3 G4 G5 G6
  go_loopw [16] (fun i wr => ∃ k : Nat, k ≤ 3 ∧ i = .int .i64 k ∧ Below W0.heap.size W0 wr) (fun i _ => 3 - (intOf i).toNat)
  case atStart => exact ⟨0, by omega, rfl, Below.refl _ _⟩
  case round =>
    obtain ⟨k, hk, rfl, hB⟩ := hrel
    by_cases hkn : k < 3
    · obtain ⟨b', off, e, hc⟩ := Sl.st hrow (by omega)
      cases e
      obtain ⟨s, hs⟩ : ∃ s, [a, b, c][k]? = some s := ⟨_, List.getElem?_eq_getElem (by simpa using hkn)⟩
      have G := hc k s hs
      clear hs
      have g1 := Below.old hB (Nat.le_refl _) G.1
      have g2 := Below.old hB (Nat.le_refl _) G.2
      simp only [Nat.zero_add] at g1 g2
      have hB1 : Below W0.heap.size W0 (wr.alloc (.cells #[.int .i64 s.t, .int .i64 s.r] 23)) := hB.alloc hB.size _
      have k4 := cell_regrown (show (wr.alloc (.cells #[.int .i64 s.t, .int .i64 s.r] 23)).cell? ⟨wr.heap.size, 0, none⟩ = some (.int .i64 s.t) by simp [go_sem])
      have k5 := cell_regrown (show (wr.alloc (.cells #[.int .i64 s.t, .int .i64 s.r] 23)).cell? ⟨wr.heap.size, 1, none⟩ = some (.int .i64 s.r) by simp [go_sem])
      clear hc G hrow
      obtain ⟨y, hy, hc⟩ : ∃ y, stRight s = y ∧ ((y = true ∧ 1 ≤ s.t ∧ s.t ≤ 1099511627776 ∧ 1 ≤ s.r ∧ s.r ≤ 65536) ∨ (y = false ∧ ¬ 1 ≤ s.t ∧ decide (1 ≤ s.t) = false) ∨ (y = false ∧ 1 ≤ s.t ∧ ¬ s.t ≤ 1099511627776 ∧ decide (s.t ≤ 1099511627776) = false) ∨
          (y = false ∧ 1 ≤ s.t ∧ s.t ≤ 1099511627776 ∧ ¬ 1 ≤ s.r ∧ decide (1 ≤ s.r) = false) ∨ (y = false ∧ 1 ≤ s.t ∧ s.t ≤ 1099511627776 ∧ 1 ≤ s.r ∧ ¬ s.r ≤ 65536 ∧ decide (s.r ≤ 65536) = false)) := by
        refine ⟨_, rfl, ?_⟩
        simp only [stRight, decide_eq_true_eq, decide_eq_false_iff_not]
        omega
      rcases hc with ⟨rfl, e1, e2, e3, e4⟩ | ⟨rfl, e1, d1⟩ | ⟨rfl, e1, e2, d1⟩ | ⟨rfl, e1, e2, e3, d1⟩ | ⟨rfl, e1, e2, e3, e4, d1⟩
      all_goals
        have HR := right_is hy
        clear hy
        go_wp2_with fail
        (refine wp_region_quiet_below (by kernel_rfl) (by kernel_rfl) ?_; (repeat (go_big_quiet_step ((first | with_reducible exact HR _ _ _)))); refine wpQuiet_nil ?_; intro _ hw'; obtain ⟨⟨dq, osq⟩, hw''⟩ := hw'; subst hw'')
        go_wp2_with fail
        go_roundw
        case rel => exact ⟨k + 1, by omega, by go_num, Below.next hB1 (below_regrown _ _ _)⟩
        case measure => simp [intOf]; omega
    · obtain rfl : k = 3 := by omega
      have G1 := Below.old hB (Nat.le_refl _) HG1.out
      have G2 := Below.old hB (Nat.le_refl _) HG2.out
      have G3 := Below.old hB (Nat.le_refl _) HG3.out
      have G4 := Below.old hB (Nat.le_refl _) HG4.out
      have G5 := Below.old hB (Nat.le_refl _) HG5.out
      have G6 := Below.old hB (Nat.le_refl _) HG6.out
      have hB := Below.next hB0 hB
      clear hrow hB0
      have c12 := stcmp_any a b
      have c23 := stcmp_any b c
      have c13 := stcmp_any a c
      have c21 := stcmp_any b a
      rw [stCmp_neg a b] at c21
      have htr := stCmp_trans (a := a) (b := b) (c := c)
      have hv := stCmp_vals a b
      have heq := stCmp_eq a b
      generalize stCmp a b = z at *
      generalize stCmp b c = y at *
      generalize stCmp a c = x at *
      have hw : wrap64 z = z := by
        unfold wrap64
        omega
      have HC12 := Lib.hid c12; have HC23 := Lib.hid c23; have HC13 := Lib.hid c13; have HC21 := Lib.hid c21
      clear c12 c23 c13 c21 HG1 HG2 HG3 HG4 HG5 HG6
      have hpick : (0 < z ∧ ¬ z ≤ 0 ∧ decide (z ≤ 0) = false) ∨ (z ≤ 0 ∧ ¬ y ≤ 0 ∧ decide (y ≤ 0) = false) ∨ (z ≤ 0 ∧ y ≤ 0 ∧ ¬ 0 < x ∧ decide (0 < x) = false) := by
        simp only [decide_eq_false_iff_not]
        omega
      have hz : (z = -1 ∧ (z == 0) = false) ∨ (z = 0 ∧ (z == 0) = true) ∨ (z = 1 ∧ (z == 0) = false) := by
        simp only [beq_eq_false_iff_ne, beq_iff_eq]
        omega
      clear htr hv
      obtain ⟨q, hq⟩ : ∃ q, stEqB a.t a.r b.t b.r = q := ⟨_, rfl⟩
      rw [hq] at heq
      have hR := Lib.hid (show True from trivial)
      clear hR
      have HQ := Lib.hid hq
      clear hq
      have HE := Lib.hid heq
      clear heq
      have HZ := Lib.hid hz
      clear hz
      rcases hpick with ⟨e1, d1, d2⟩ | ⟨e1, d1, d2⟩ | ⟨e1, e2, d1, d2⟩
      all_goals
        go_wp2_with (first
          | (go_at_call 12; (first | (with_reducible refine (HC12.out _).mono ?_) | (with_reducible refine (HC23.out _).mono ?_) | (with_reducible refine (HC13.out _).mono ?_)); rintro e w2 ⟨rfl, hb2⟩; have G1 := Below.old hb2 (Nat.le_refl _) G1; have G2 := Below.old hb2 (Nat.le_refl _) G2; have G3 := Below.old hb2 (Nat.le_refl _) G3; have G4 := Below.old hb2 (Nat.le_refl _) G4; have G5 := Below.old hb2 (Nat.le_refl _) G5; have G6 := Below.old hb2 (Nat.le_refl _) G6; have hB := Below.next hB hb2))
        have k1 := cell_regrown G1
        have k2 := cell_regrown G2
        have k3 := cell_regrown G3
        have k4 := cell_regrown G4
        have C12 := fun (W : World) d os => Calls.regrown_of (HC12.out (Sort.grow (redrawn W d) os))
        have C21 := fun (W : World) d os => Calls.regrown_of (HC21.out (Sort.grow (redrawn W d) os))
        have hq := HQ.out
        have heq := HE.out
        clear G1 G2 G3 G4 G5 G6
        (refine wp_region_quiet_below (by kernel_rfl) (by kernel_rfl) ?_; (repeat (go_big_quiet_step ((first | with_reducible exact C12 _ _ _ | with_reducible exact C21 _ _ _)))); refine wpQuiet_nil ?_; intro _ hw'; obtain ⟨⟨dq, osq⟩, hw''⟩ := hw'; subst hw'')
        go_wp2_with fail
        go_ret
        exact Ret.mk rfl (Below.next hB (below_regrown _ _ _))

end Go.Proofs.Ytdghnfihphlboaa
