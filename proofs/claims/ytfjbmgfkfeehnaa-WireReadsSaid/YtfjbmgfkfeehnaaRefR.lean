/- The document's reader: a failed one, numbers. -/
import Derived.Test.YtfjbmgfkfeehnaaRefA
namespace Go.Proofs.Ytfjbmgfkfeehnaa
open Go.RowKit

theorem Bs.drop {w : World} {b off : Nat} {n c : Nat} {l : List Int} (h : Bs w (some ⟨b, off, none⟩) n c l) (k : Nat) (hk : k ≤ n) : Bs w (some ⟨b, off + k, none⟩) (n - k) (c - k) (l.drop k) := by
  have hl := h.length
  have hle := h.le
  have hcap := h.cap
  refine ⟨by simp; omega, by omega, by omega, (fun h => by cases h), fun h0 => ?_⟩
  obtain ⟨b', off', ha, hc⟩ := h.cells (by omega)
  cases ha
  refine ⟨b, off + k, rfl, fun j hj => ?_⟩
  rw [Nat.add_assoc, hc (k + j) (by omega), List.map_drop, List.getElem?_drop]

theorem Bs.none0 {w : World} {a : Addr} {n c : Nat} {l : List Int} (hn : n = 0) (hl : l.length = 0) (hc : c ≤ 9223372036854775807) : Bs w (some a) n c l := by
  subst hn
  exact ⟨by simp [hl], Nat.zero_le _, by unfold maxLen; omega, (fun h => by cases h), fun h => absurd h (by omega)⟩
theorem failed_any (w : World) : Calls Try.prog 62 #[] w (Ret w (.agg #[.slice none 0 0, .bool true])) := by
  go_enter Try.func62, Try.ntmps62
  go_wp2_with fail
  exact bodyPost_ret (v := .agg #[.slice none 0 0, .bool true]) (by simp [results, Try.results62, go_sem]) rfl ⟨rfl, (Below.refl _ _).alloc (Nat.le_refl _) _⟩

/-- A reader as a value. -/
def InV (w : World) : Rd → Value → Prop
  | none, v => v = .agg #[.slice none 0 0, .bool true]
  | some l, v => ∃ a n c, v = .agg #[.slice a n c, .bool false] ∧ Bs w a n c l
/-- A value and a reader are handed back. -/
def RetIn (w0 w : World) (v : Value) (s : Rd) (e : Ending) (w' : World) : Prop :=
  ∃ u, e = .returned (.tuple #[v, u]) ∧ Below w.heap.size w w' ∧ InV w0 s u
theorem info_in : (Try.prog.info? 86).map (·.size) = some 2 := by kernel_rfl
theorem one_in {a : Option Addr} {n c : Nat} {b : Bool} : ∀ v ∈ (#[Value.slice a n c, Value.bool b] : Array Value).toList, v.oneCell' = true := by intro v hv; simp at hv; rcases hv with rfl | rfl <;> rfl
theorem InV.below {w w' : World} {s : Rd} {v : Value} (h : InV w s v) (hb : Below w.heap.size w w') : InV w' s v := by
  cases s with
  | none => exact h
  | some l =>
    obtain ⟨a, n, c, h1, h2⟩ := h
    exact ⟨a, n, c, h1, h2.below hb⟩

set_option maxRecDepth 100000 in
theorem rgnum_none (most : Int) (w0 w : World) :
    Calls Try.prog 50 #[.agg #[.slice none 0 0, .bool true], .int .i64 most] w (RetIn w0 w (.int .i64 0) none) := by
  have hB0 : Below w.heap.size w ((w.alloc (.cells #[.slice none 0 0, .bool true] 86)).alloc (.cells #[.slice none 0 0, .bool false] 86)) := ((Below.refl _ _).alloc (Nat.le_refl _) _).alloc (by simp) _
  go_enter Try.func50, Try.ntmps50
  go_wp2_with fail
  go_loop [8] (fun i => i = .int .i64 0) (fun _ => 0)
  case atStart => rfl
  case round =>
    subst hrel
    have hr := blk0 (w.alloc (.cells #[.slice none 0 0, .bool true] 86)) #[.slice none 0 0, .bool false] 86
    have hr : ((w.alloc (.cells #[.slice none 0 0, .bool true] 86)).alloc (.cells #[.slice none 0 0, .bool false] 86)).heap[w.heap.size + 1]? = some (.cells #[.slice none 0 0, .bool false] 86 (0, 0)) := by simpa using hr
    have HR := Lib.hid hr
    clear hr
    go_upto_region 16 with fail
    generalize (w.alloc (.cells #[.slice none 0 0, .bool true] 86)).alloc (.cells #[.slice none 0 0, .bool false] 86) = W0 at *
    (repeat ((fail_if_success (with_reducible show wpList _ _ _ (Oper.mk _ (Op.store _ _ _) _ _ _ _ :: _) _ _)); first | go_values | go_skip | go_guarded | go_step | go_upon))
    go_at_call 62
    refine (failed_any _).mono ?_
    rintro e w1 ⟨rfl, hb⟩
    dsimp only
    have hr := (hb.block _ (blk_cell HR.out).2.2).trans HR.out
    (repeat ((fail_if_success (with_reducible show wpList _ _ _ (Oper.mk _ (Op.store _ _ _) _ _ _ _ :: _) _ _)); first | go_values | go_skip | go_guarded | go_step | go_upon))
    refine wpList_store_seg (w := w1) rfl 86 _ _ rfl rfl (w.heap.size + 1) 0 rfl #[.slice none 0 0, .bool true] rfl 86 #[.slice none 0 0, .bool false] hr (by simp) info_in one_in #[.slice none 0 0, .bool true] rfl ?_
    intro w2 hq hk2 _
    have hc := (blk_cell hq).1
    have hc0 := hc 0
    have hc1 := hc 1
    clear hc
    go_wp2_with fail
    exact bodyPost_ret (v := .tuple #[.int .i64 0, .agg #[.slice none 0 0, .bool true]]) (by simp [results, Try.results50, go_sem, hc0, hc1]) rfl ⟨_, rfl, (Below.next hB0 hb).grown hk2 (Below.next hB0 hb).size (fun k hk => by cases hk; omega), rfl⟩

theorem pow128 {k : Nat} (h : k ≤ 8) : 1 ≤ 128 ^ k ∧ 128 ^ k ≤ 72057594037927936 :=
  ⟨Nat.pow_pos (by omega), Nat.le_trans (Nat.pow_le_pow_right (by omega) h) (by decide)⟩

set_option maxRecDepth 100000 in
set_option maxHeartbeats 4000000 in
theorem rgnum_some (most : Int) (a : Option Addr) (n c : Nat) (l : List Int) (w0 w : World) (hbw : Below w0.heap.size w0 w) (h0 : Bs w0 a n c l) (hby : IsBytes l) :
    Calls Try.prog 50 #[.agg #[.slice a n c, .bool false], .int .i64 most] w (RetIn w0 w (.int .i64 (getNum most (some l)).1) (getNum most (some l)).2) := by
  have h := h0.below hbw
  have hB0 : Below w.heap.size w ((w.alloc (.cells #[.slice a n c, .bool false] 86)).alloc (.cells #[.slice none 0 0, .bool false] 86)) := ((Below.refl _ _).alloc (Nat.le_refl _) _).alloc (by simp) _
  have hr : ((w.alloc (.cells #[.slice a n c, .bool false] 86)).alloc (.cells #[.slice none 0 0, .bool false] 86)).heap[w.heap.size + 1]? = some (.cells #[.slice none 0 0, .bool false] 86 (0, 0)) := by
    have hr := blk0 (w.alloc (.cells #[.slice a n c, .bool false] 86)) #[.slice none 0 0, .bool false] 86
    simpa using hr
  have hX : ((w.alloc (.cells #[.slice a n c, .bool false] 86)).alloc (.cells #[.slice none 0 0, .bool false] 86)).heap[w.heap.size]? = some (.cells #[.slice a n c, .bool false] 86 (0, 0)) := (Below.heap_alloc _ _ _ (by simp)).trans (blk0 w _ _)
  have hx0 := (blk_cell hX).1 0
  have hx1 := (blk_cell hX).1 1
  simp only [List.getElem?_toArray, List.getElem?_cons_zero, List.getElem?_cons_succ] at hx0 hx1
  have HR := Lib.hid hr
  have hs := h.below hB0
  have hcap := h.cap
  have hle := h.le
  have hln := h.length
  unfold maxLen at hcap
  have HW := Lib.hid h0
  clear hr hX h h0 hbw
  go_enter Try.func50, Try.ntmps50
  go_wp2_with fail
  generalize (w.alloc (.cells #[.slice a n c, .bool false] 86)).alloc (.cells #[.slice none 0 0, .bool false] 86) = W0 at *
  have HL := Lib.hid hln
  clear hln
  go_loop [6, 7, 8] (fun v u i => ∃ k acc : Nat, k ≤ 9 ∧ k ≤ n ∧ i = .int .i64 k ∧ (k ≤ 8 → u = .int .i64 ((128 ^ k : Nat) : Int) ∧ acc < 128 ^ k ∧ rnum most 0 0 l = rnum most k acc (l.drop k)) ∧ (k = 9 → rnum most 0 0 l = none) ∧ v = .int .i64 acc) (fun _ _ i => 9 - (intOf i).toNat)
  case atStart => exact ⟨0, 0, by omega, by omega, rfl, fun _ => ⟨rfl, by simp, rfl⟩, by omega, rfl⟩
  case round =>
    obtain ⟨k, acc, hk9, hkn, rfl, hk8, hk9', rfl⟩ := hrel
    have H9 := Lib.hid hk9'
    clear hk9'
    by_cases hlt : k < n
    · by_cases h9 : k < 9
      · obtain ⟨rfl, hacc, hrn⟩ := hk8 (by omega)
        obtain ⟨b, off, x, rfl, hx, hc⟩ := hs.cellAt hlt
        obtain ⟨hp1, hp2⟩ := pow128 (k := k) (by omega)
        have hxb := hby.at (k := k) (by have := HL.out; omega)
        have hdrop : l.drop k = x :: l.drop (k + 1) := by
          obtain ⟨hk, rfl⟩ := List.getElem?_eq_some_iff.1 hx
          exact (List.getElem_cons_drop hk).symm
        obtain rfl : l[k]'(by have := HL.out; omega) = x := by
          obtain ⟨hk, rfl⟩ := List.getElem?_eq_some_iff.1 hx
          rfl
        rw [hdrop] at hrn
        clear hx hdrop
        generalize l[k]'_ = x at *
        obtain ⟨hxb1, hxb2⟩ := hxb
        have hlow : 0 ≤ x % 128 ∧ x % 128 ≤ 127 := by omega
        obtain ⟨low, hlo⟩ : ∃ low : Nat, x % 128 = low := ⟨(x % 128).toNat, by omega⟩
        have hlo2 : (x % 128).toNat = low := by omega
        obtain ⟨p, hpe, hp0, hpb⟩ : ∃ p : Nat, (low : Int) * ((128 ^ k : Nat) : Int) = (p : Int) ∧ p = low * 128 ^ k ∧ (k < 8 ∨ low ≤ 64 → p ≤ 4611686018427387904) := by
          refine ⟨low * 128 ^ k, by push_cast; rfl, rfl, fun h => ?_⟩
          rcases h with h | h
          · have h1 : 128 ^ k ≤ 128 ^ 7 := Nat.pow_le_pow_right (by omega) (by omega)
            have h2 : low * 128 ^ k ≤ 127 * 128 ^ 7 := Nat.mul_le_mul (by omega) h1
            have h3 : 127 * 128 ^ 7 ≤ 4611686018427387904 := by decide
            omega
          · have h2 : low * 128 ^ k ≤ 64 * 72057594037927936 := Nat.mul_le_mul h hp2
            omega
        have hstep : rnum most k acc (x :: l.drop (k + 1)) = if x < 128 then (if x = 0 ∧ 0 < k ∨ 4611686018427387904 < acc + p ∨ most < ((acc + p : Nat) : Int) then none else some (((acc + p : Nat) : Int), l.drop (k + 1)))
            else if k < 8 then rnum most (k + 1) (acc + p) (l.drop (k + 1)) else none := by
          rw [rnum.eq_def]
          simp only []
          rw [hlo2, ← hp0]
        have hnext : k < 8 → acc + p < 128 ^ (k + 1) := by
          intro _
          have : low * 128 ^ k ≤ 127 * 128 ^ k := Nat.mul_le_mul_right _ (by omega)
          rw [Nat.pow_succ]
          omega
        have HN := Lib.hid hnext
        have hu1 : 128 ^ (k + 1) = 128 ^ k * 128 := Nat.pow_succ ..
        have hlu : 64 < (low : Int) → k = 8 → 4611686018427387904 < p := by
          intro h1 h2
          rw [hp0, h2, show (128 : Nat) ^ 8 = 72057594037927936 by decide]
          omega
        have HLU := Lib.hid hlu
        clear hlu
        rw [hstep] at hrn
        have HRN := Lib.hid hrn
        clear hrn hstep hnext hlo2 hp0 hlow hk8
        have hp7 : k < 8 → 128 ^ k ≤ 562949953421312 := fun _ => Nat.le_trans (Nat.pow_le_pow_right (n := 128) (by omega) (show k ≤ 7 by omega)) (by decide)
        obtain ⟨u, hu⟩ : ∃ u, 128 ^ k = u := ⟨_, rfl⟩
        rw [hu] at hp1 hp2 hpe hacc hp7 hu1 ⊢
        have HU := Lib.hid hu1
        clear hu1
        have hgn : ∀ z r, rnum most 0 0 l = some (z, r) → getNum most (some l) = (z, some r) := fun z r h => by unfold getNum; simp only []; rw [h]
        have hg0 : rnum most 0 0 l = none → getNum most (some l) = (0, none) := fun h => by unfold getNum; simp only []; rw [h]
        have HG := Lib.hid hgn
        have HG0 := Lib.hid hg0
        clear hgn hg0 hu
        have hkI : (0 : Int) ≤ (k : Int) := by omega
        by_cases h8 : k = 8
        · have hb8 : ((k : Int) == 8) = true := by simp; omega
          have hk8n : ¬ (k : Int) < 8 := by omega
          have hk8d : decide ((k : Int) < 8) = false := by simp; omega
          by_cases hlow : 64 < (low : Int)
          · have hE : getNum most (some l) = (0, none) := HG0.out (by
              rw [HRN.out]
              by_cases hx128 : x < 128
              · rw [if_pos hx128, if_pos (.inr (.inl (by have := HLU.out hlow h8; omega)))]
              · rw [if_neg hx128, if_neg (by omega)])
            rw [hE]
            clear h8
            clear HN HU HRN HG HG0
            go_upto_region 8 with fail
            ((repeat ((fail_if_success (with_reducible show wpList _ _ _ (Oper.mk _ (Op.store _ _ _) _ _ _ _ :: _) _ _)); first | go_values | go_skip | go_guarded | go_step | go_upon)); go_at_call 62; refine (failed_any _).mono ?_; rintro e w1 ⟨rfl, hb⟩; dsimp only; have hr := (hb.block _ (blk_cell HR.out).2.2).trans HR.out; (repeat ((fail_if_success (with_reducible show wpList _ _ _ (Oper.mk _ (Op.store _ _ _) _ _ _ _ :: _) _ _)); first | go_values | go_skip | go_guarded | go_step | go_upon)); refine wpList_store_seg (w := w1) rfl 86 _ _ rfl rfl (w.heap.size + 1) 0 rfl #[.slice none 0 0, .bool true] rfl 86 #[.slice none 0 0, .bool false] hr (by simp) info_in one_in #[.slice none 0 0, .bool true] rfl ?_; intro w2 hq hk2 _; have hc := (blk_cell hq).1; have hc0 := hc 0; have hc1 := hc 1; clear hc; go_wp2_with fail; exact bodyPost_ret (v := .tuple #[.int .i64 0, .agg #[.slice none 0 0, .bool true]]) (by simp [results, Try.results50, go_sem, hc0, hc1]) rfl ( ⟨_, rfl, (Below.next hB0 hb).grown hk2 (Below.next hB0 hb).size (fun k hk => by cases hk; omega), rfl⟩))
          · have hlowd : decide (64 < (low : Int)) = false := by simp; omega
            have hpb := hpb (by omega)
            have H8 := Lib.hid h8
            clear h8
            by_cases hx128 : x < 128
            · by_cases hbad : x = 0 ∧ 0 < k ∨ 4611686018427387904 < acc + p ∨ most < ((acc + p : Nat) : Int)
              · have hE : getNum most (some l) = (0, none) := HG0.out (by rw [HRN.out, if_pos hx128, if_pos hbad])
                rw [hE]
                clear HN HU HRN HG HG0
                go_upto_region 12 with fail
                all_goals ((repeat ((fail_if_success (with_reducible show wpList _ _ _ (Oper.mk _ (Op.store _ _ _) _ _ _ _ :: _) _ _)); first | go_values | go_skip | go_guarded | go_step | go_upon)); go_at_call 62; refine (failed_any _).mono ?_; rintro e w1 ⟨rfl, hb⟩; dsimp only; have hr := (hb.block _ (blk_cell HR.out).2.2).trans HR.out; (repeat ((fail_if_success (with_reducible show wpList _ _ _ (Oper.mk _ (Op.store _ _ _) _ _ _ _ :: _) _ _)); first | go_values | go_skip | go_guarded | go_step | go_upon)); refine wpList_store_seg (w := w1) rfl 86 _ _ rfl rfl (w.heap.size + 1) 0 rfl #[.slice none 0 0, .bool true] rfl 86 #[.slice none 0 0, .bool false] hr (by simp) info_in one_in #[.slice none 0 0, .bool true] rfl ?_; intro w2 hq hk2 _; have hc := (blk_cell hq).1; have hc0 := hc 0; have hc1 := hc 1; clear hc; go_wp2_with fail; exact bodyPost_ret (v := .tuple #[.int .i64 0, .agg #[.slice none 0 0, .bool true]]) (by simp [results, Try.results50, go_sem, hc0, hc1]) rfl ( ⟨_, rfl, (Below.next hB0 hb).grown hk2 (Below.next hB0 hb).size (fun k hk => by cases hk; omega), rfl⟩))
              · have hE : getNum most (some l) = (((acc + p : Nat) : Int), some (l.drop (k + 1))) := HG.out _ _ (by rw [HRN.out, if_pos hx128, if_neg hbad])
                rw [hE]
                clear HN HU HRN HG HG0
                (obtain ⟨hA1, hA2, hA3, hA4⟩ : (acc : Int) + (p : Int) ≤ 4611686018427387904 ∧ (acc : Int) + (p : Int) ≤ most ∧ decide (4611686018427387904 < (acc : Int) + (p : Int)) = false ∧ decide (most < (acc : Int) + (p : Int)) = false := (by simp only [decide_eq_false_iff_not]; omega); have hzz : ((x == 0) = true ∧ decide (0 < k) = false ∧ ¬ 0 < k ∧ (k == 0) = true) ∨ (x == 0) = false := (by simp only [beq_iff_eq, beq_eq_false_iff_ne, decide_eq_false_iff_not]; omega); replace hzz := hzz.resolve_left (fun h => by have h1 := H8.out; have h2 := h.2.2.1; omega); have hkc : (k : Int) + 1 ≤ (n : Int) := (by omega); have hkc2 : (k : Int) + 1 ≤ (c : Int) := (by omega); clear hbad; have hr0 := (blk_cell HR.out).1 0; have hr1 := (blk_cell HR.out).1 1; have hf0 := (blk_cell HR.out).2.1 0; have hf1 := (blk_cell HR.out).2.1 1; simp only [List.getElem?_toArray, List.getElem?_cons_zero, List.getElem?_cons_succ] at hr0 hr1; have hdrop : ∃ a2, Bs w0 (some a2) (n - (k + 1)) (c - (k + 1)) (l.drop (k + 1)) ∧ (if c = k + 1 then (⟨b, off, none⟩ : Addr) else ⟨b, off + (k + 1), none⟩) = a2 := (by refine ⟨_, ?_, rfl⟩; split; (refine Bs.none0 (by omega) (by have := HL.out; simp; omega) (by omega)); exact HW.out.drop (k + 1) (by omega)); obtain ⟨a2, hbs2, ha2⟩ := hdrop; have HA := Lib.hid hbs2; clear hbs2; by_cases hcc : c = k + 1; (all_goals (skip)); (all_goals simp only [hcc, if_true, if_false] at ha2); (all_goals (try subst hcc)); (all_goals (try subst ha2)); all_goals (go_upto_region 13 with fail); (all_goals (have hw1 : IntKind.i64.wrap ((k : Int) + 1) = (k : Int) + 1 := IntWalk.i64_in _ (by omega); have h01 : (0 : Int) ≤ (k : Int) + 1 := (by omega); have htn : ((k : Int) + 1).toNat = k + 1 := (by omega); clear hs; first | go_region_held3 (fun w' : World => w'.cell? ⟨w.heap.size, 0, none⟩ = some (.slice (some ⟨b, off, none⟩) n (c))) (first | assumption | (simp [go_sem, *]; done)) (fail) | go_region_held3 (fun w' : World => w'.cell? ⟨w.heap.size, 0, none⟩ = some (.slice (some ⟨b, off, none⟩) n (k + 1))) (first | assumption | (simp [go_sem, *]; done)) (fail))); all_goals first | (have hq := set2 (u := .slice (some ⟨b, off + (k + 1), none⟩) (n - (k + 1)) (c - (k + 1))) (v := .bool false) HR.out; have hc := (blk_cell hq).1; have hc0 := hc 0; have hc1 := hc 1; clear hc; simp only [List.getElem?_toArray, List.getElem?_cons_zero, List.getElem?_cons_succ] at hc0 hc1; have hBf := ((hB0.setCell (p := ⟨w.heap.size + 1, 0, none⟩) (by simp) (.slice (some ⟨b, off + (k + 1), none⟩) (n - (k + 1)) (c - (k + 1)))).setCell (p := ⟨w.heap.size + 1, 1, none⟩) (by simp) (.bool false)).drew; clear HR hr0 hr1; go_wp2_with fail; (exact bodyPost_ret (v := .tuple #[.int .i64 ((acc : Int) + (p : Int)), .agg #[.slice (some ⟨b, off + (k + 1), none⟩) (n - (k + 1)) (c - (k + 1)), .bool false]]) (by simp [results, Try.results50, go_sem, hc0, hc1]) rfl ⟨.agg #[.slice (some ⟨b, off + (k + 1), none⟩) (n - (k + 1)) (c - (k + 1)), .bool false], (by simp), hBf, _, _, _, rfl, HA.out⟩)) | (have hq := set2 (u := .slice (some ⟨b, off, none⟩) 0 0) (v := .bool false) HR.out; have hc := (blk_cell hq).1; have hc0 := hc 0; have hc1 := hc 1; clear hc; simp only [List.getElem?_toArray, List.getElem?_cons_zero, List.getElem?_cons_succ] at hc0 hc1; have hBf := ((hB0.setCell (p := ⟨w.heap.size + 1, 0, none⟩) (by simp) (.slice (some ⟨b, off, none⟩) 0 0)).setCell (p := ⟨w.heap.size + 1, 1, none⟩) (by simp) (.bool false)).drew; clear HR hr0 hr1; go_wp2_with fail; (exact bodyPost_ret (v := .tuple #[.int .i64 ((acc : Int) + (p : Int)), .agg #[.slice (some ⟨b, off, none⟩) 0 0, .bool false]]) (by simp [results, Try.results50, go_sem, hc0, hc1]) rfl ⟨.agg #[.slice (some ⟨b, off, none⟩) 0 0, .bool false], (by simp), hBf, some ⟨b, off, none⟩, 0, 0, rfl, Bs.none0 rfl (by have := HL.out; simp; omega) (by omega)⟩)))
            · have hx128d : decide (x < 128) = false := by simp; omega
              have hno := HRN.out
              rw [if_neg hx128, if_neg (by have := H8.out; omega)] at hno
              have HNO := Lib.hid hno
              clear hno
              go_wp2_with fail
              go_round
              case rel => exact ⟨k + 1, acc + p, by omega, by omega, by go_num, fun h => by have := H8.out; omega, fun _ => HNO.out, by go_num⟩
              case measure => simp [intOf]; omega
        · have hb8 : ((k : Int) == 8) = false := by simp; omega
          have hk8n : (k : Int) < 8 := by omega
          have hpb := hpb (by omega)
          have hp7 := hp7 (by omega)
          by_cases hx128 : x < 128
          · by_cases hbad : x = 0 ∧ 0 < k ∨ 4611686018427387904 < acc + p ∨ most < ((acc + p : Nat) : Int)
            · have hE : getNum most (some l) = (0, none) := HG0.out (by rw [HRN.out, if_pos hx128, if_pos hbad])
              rw [hE]
              clear HN HU HRN HG HG0
              go_upto_region 12 with fail
              all_goals ((repeat ((fail_if_success (with_reducible show wpList _ _ _ (Oper.mk _ (Op.store _ _ _) _ _ _ _ :: _) _ _)); first | go_values | go_skip | go_guarded | go_step | go_upon)); go_at_call 62; refine (failed_any _).mono ?_; rintro e w1 ⟨rfl, hb⟩; dsimp only; have hr := (hb.block _ (blk_cell HR.out).2.2).trans HR.out; (repeat ((fail_if_success (with_reducible show wpList _ _ _ (Oper.mk _ (Op.store _ _ _) _ _ _ _ :: _) _ _)); first | go_values | go_skip | go_guarded | go_step | go_upon)); refine wpList_store_seg (w := w1) rfl 86 _ _ rfl rfl (w.heap.size + 1) 0 rfl #[.slice none 0 0, .bool true] rfl 86 #[.slice none 0 0, .bool false] hr (by simp) info_in one_in #[.slice none 0 0, .bool true] rfl ?_; intro w2 hq hk2 _; have hc := (blk_cell hq).1; have hc0 := hc 0; have hc1 := hc 1; clear hc; go_wp2_with fail; exact bodyPost_ret (v := .tuple #[.int .i64 0, .agg #[.slice none 0 0, .bool true]]) (by simp [results, Try.results50, go_sem, hc0, hc1]) rfl ( ⟨_, rfl, (Below.next hB0 hb).grown hk2 (Below.next hB0 hb).size (fun k hk => by cases hk; omega), rfl⟩))
            · have hE : getNum most (some l) = (((acc + p : Nat) : Int), some (l.drop (k + 1))) := HG.out _ _ (by rw [HRN.out, if_pos hx128, if_neg hbad])
              rw [hE]
              clear HN HU HRN HG HG0
              (obtain ⟨hA1, hA2, hA3, hA4⟩ : (acc : Int) + (p : Int) ≤ 4611686018427387904 ∧ (acc : Int) + (p : Int) ≤ most ∧ decide (4611686018427387904 < (acc : Int) + (p : Int)) = false ∧ decide (most < (acc : Int) + (p : Int)) = false := (by simp only [decide_eq_false_iff_not]; omega); have hzz : ((x == 0) = true ∧ decide (0 < k) = false ∧ ¬ 0 < k ∧ (k == 0) = true) ∨ (x == 0) = false := (by simp only [beq_iff_eq, beq_eq_false_iff_ne, decide_eq_false_iff_not]; omega);  have hkc : (k : Int) + 1 ≤ (n : Int) := (by omega); have hkc2 : (k : Int) + 1 ≤ (c : Int) := (by omega); clear hbad; have hr0 := (blk_cell HR.out).1 0; have hr1 := (blk_cell HR.out).1 1; have hf0 := (blk_cell HR.out).2.1 0; have hf1 := (blk_cell HR.out).2.1 1; simp only [List.getElem?_toArray, List.getElem?_cons_zero, List.getElem?_cons_succ] at hr0 hr1; have hdrop : ∃ a2, Bs w0 (some a2) (n - (k + 1)) (c - (k + 1)) (l.drop (k + 1)) ∧ (if c = k + 1 then (⟨b, off, none⟩ : Addr) else ⟨b, off + (k + 1), none⟩) = a2 := (by refine ⟨_, ?_, rfl⟩; split; (refine Bs.none0 (by omega) (by have := HL.out; simp; omega) (by omega)); exact HW.out.drop (k + 1) (by omega)); obtain ⟨a2, hbs2, ha2⟩ := hdrop; have HA := Lib.hid hbs2; clear hbs2; by_cases hcc : c = k + 1; (all_goals (rcases hzz with ⟨hz, hzd, hzn, hzb⟩ | hz)); (all_goals simp only [hcc, if_true, if_false] at ha2); (all_goals (try subst hcc)); (all_goals (try subst ha2)); all_goals (go_upto_region 13 with fail); (all_goals (have hw1 : IntKind.i64.wrap ((k : Int) + 1) = (k : Int) + 1 := IntWalk.i64_in _ (by omega); have h01 : (0 : Int) ≤ (k : Int) + 1 := (by omega); have htn : ((k : Int) + 1).toNat = k + 1 := (by omega); clear hs; first | go_region_held3 (fun w' : World => w'.cell? ⟨w.heap.size, 0, none⟩ = some (.slice (some ⟨b, off, none⟩) n (c))) (first | assumption | (simp [go_sem, *]; done)) (fail) | go_region_held3 (fun w' : World => w'.cell? ⟨w.heap.size, 0, none⟩ = some (.slice (some ⟨b, off, none⟩) n (k + 1))) (first | assumption | (simp [go_sem, *]; done)) (fail))); all_goals first | (have hq := set2 (u := .slice (some ⟨b, off + (k + 1), none⟩) (n - (k + 1)) (c - (k + 1))) (v := .bool false) HR.out; have hc := (blk_cell hq).1; have hc0 := hc 0; have hc1 := hc 1; clear hc; simp only [List.getElem?_toArray, List.getElem?_cons_zero, List.getElem?_cons_succ] at hc0 hc1; have hBf := ((hB0.setCell (p := ⟨w.heap.size + 1, 0, none⟩) (by simp) (.slice (some ⟨b, off + (k + 1), none⟩) (n - (k + 1)) (c - (k + 1)))).setCell (p := ⟨w.heap.size + 1, 1, none⟩) (by simp) (.bool false)).drew; clear HR hr0 hr1; go_wp2_with fail; (exact bodyPost_ret (v := .tuple #[.int .i64 ((acc : Int) + (p : Int)), .agg #[.slice (some ⟨b, off + (k + 1), none⟩) (n - (k + 1)) (c - (k + 1)), .bool false]]) (by simp [results, Try.results50, go_sem, hc0, hc1]) rfl ⟨.agg #[.slice (some ⟨b, off + (k + 1), none⟩) (n - (k + 1)) (c - (k + 1)), .bool false], (by simp), hBf, _, _, _, rfl, HA.out⟩)) | (have hq := set2 (u := .slice (some ⟨b, off, none⟩) 0 0) (v := .bool false) HR.out; have hc := (blk_cell hq).1; have hc0 := hc 0; have hc1 := hc 1; clear hc; simp only [List.getElem?_toArray, List.getElem?_cons_zero, List.getElem?_cons_succ] at hc0 hc1; have hBf := ((hB0.setCell (p := ⟨w.heap.size + 1, 0, none⟩) (by simp) (.slice (some ⟨b, off, none⟩) 0 0)).setCell (p := ⟨w.heap.size + 1, 1, none⟩) (by simp) (.bool false)).drew; clear HR hr0 hr1; go_wp2_with fail; (exact bodyPost_ret (v := .tuple #[.int .i64 ((acc : Int) + (p : Int)), .agg #[.slice (some ⟨b, off, none⟩) 0 0, .bool false]]) (by simp [results, Try.results50, go_sem, hc0, hc1]) rfl ⟨.agg #[.slice (some ⟨b, off, none⟩) 0 0, .bool false], (by simp), hBf, some ⟨b, off, none⟩, 0, 0, rfl, Bs.none0 rfl (by have := HL.out; simp; omega) (by omega)⟩)))
          · have hx128d : decide (x < 128) = false := by simp; omega
            go_wp2_with fail
            go_round
            case rel => exact ⟨k + 1, acc + p, by omega, by omega, by go_num, fun _ => ⟨by rw [HU.out]; go_num, HN.out (by omega), by rw [HRN.out, if_neg hx128, if_pos (by omega)]⟩, by omega, by go_num⟩
            case measure => simp [intOf]; omega
      · have h9' : k = 9 := by omega
        have hE : getNum most (some l) = (0, none) := by unfold getNum; simp only []; rw [H9.out h9']
        have h9d : decide ((k : Int) < 9) = false := by simp; omega
        have h9n : ¬ (k : Int) < 9 := by omega
        clear h9' h9 hk8 hk9
        rw [hE]
        go_upto_region 16 with fail
        ((repeat ((fail_if_success (with_reducible show wpList _ _ _ (Oper.mk _ (Op.store _ _ _) _ _ _ _ :: _) _ _)); first | go_values | go_skip | go_guarded | go_step | go_upon)); go_at_call 62; refine (failed_any _).mono ?_; rintro e w1 ⟨rfl, hb⟩; dsimp only; have hr := (hb.block _ (blk_cell HR.out).2.2).trans HR.out; (repeat ((fail_if_success (with_reducible show wpList _ _ _ (Oper.mk _ (Op.store _ _ _) _ _ _ _ :: _) _ _)); first | go_values | go_skip | go_guarded | go_step | go_upon)); refine wpList_store_seg (w := w1) rfl 86 _ _ rfl rfl (w.heap.size + 1) 0 rfl #[.slice none 0 0, .bool true] rfl 86 #[.slice none 0 0, .bool false] hr (by simp) info_in one_in #[.slice none 0 0, .bool true] rfl ?_; intro w2 hq hk2 _; have hc := (blk_cell hq).1; have hc0 := hc 0; have hc1 := hc 1; clear hc; go_wp2_with fail; exact bodyPost_ret (v := .tuple #[.int .i64 0, .agg #[.slice none 0 0, .bool true]]) (by simp [results, Try.results50, go_sem, hc0, hc1]) rfl ( ⟨_, rfl, (Below.next hB0 hb).grown hk2 (Below.next hB0 hb).size (fun k hk => by cases hk; omega), rfl⟩))
    · have hE : getNum most (some l) = (0, none) := by
        unfold getNum
        simp only []
        by_cases h9 : k = 9
        · rw [H9.out h9]
        · rw [(hk8 (by omega)).2.2, List.drop_eq_nil_of_le (by have := HL.out; omega), rnum_nil]
      have hltI : ¬ (k : Int) < (n : Int) := by omega
      have hltd : decide ((k : Int) < (n : Int)) = false := by simp; omega
      clear hk8
      rw [hE]
      go_upto_region 16 with fail
      ((repeat ((fail_if_success (with_reducible show wpList _ _ _ (Oper.mk _ (Op.store _ _ _) _ _ _ _ :: _) _ _)); first | go_values | go_skip | go_guarded | go_step | go_upon)); go_at_call 62; refine (failed_any _).mono ?_; rintro e w1 ⟨rfl, hb⟩; dsimp only; have hr := (hb.block _ (blk_cell HR.out).2.2).trans HR.out; (repeat ((fail_if_success (with_reducible show wpList _ _ _ (Oper.mk _ (Op.store _ _ _) _ _ _ _ :: _) _ _)); first | go_values | go_skip | go_guarded | go_step | go_upon)); refine wpList_store_seg (w := w1) rfl 86 _ _ rfl rfl (w.heap.size + 1) 0 rfl #[.slice none 0 0, .bool true] rfl 86 #[.slice none 0 0, .bool false] hr (by simp) info_in one_in #[.slice none 0 0, .bool true] rfl ?_; intro w2 hq hk2 _; have hc := (blk_cell hq).1; have hc0 := hc 0; have hc1 := hc 1; clear hc; go_wp2_with fail; exact bodyPost_ret (v := .tuple #[.int .i64 0, .agg #[.slice none 0 0, .bool true]]) (by simp [results, Try.results50, go_sem, hc0, hc1]) rfl ( ⟨_, rfl, (Below.next hB0 hb).grown hk2 (Below.next hB0 hb).size (fun k hk => by cases hk; omega), rfl⟩))

end Go.Proofs.Ytfjbmgfkfeehnaa
