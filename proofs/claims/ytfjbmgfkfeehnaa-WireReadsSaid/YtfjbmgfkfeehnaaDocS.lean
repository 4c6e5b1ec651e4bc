/- The same letters: the document's functions. -/
import Derived.Test.YtfjbmgfkfeehnaaRefB
namespace Go.Proofs.Ytfjbmgfkfeehnaa
open Go.RowKit

/-! The document's types. -/
theorem info_drf : (Try.prog.info? 64).map (·.size) = some 33 := by kernel_rfl
theorem info_dlet : (Try.prog.info? 37).map (·.size) = some 42 := by kernel_rfl
def loadDRf (v : Value) : Sem Value := Instr.loadAt 64 v
def loadDLet (v : Value) : Sem Value := Instr.loadAt 37 v
@[go_sem ↓ high] theorem loadAt_DRf (v : Value) : Instr.loadAt 64 v = loadDRf v := rfl
@[go_sem ↓ high] theorem loadAt_DLet (v : Value) : Instr.loadAt 37 v = loadDLet v := rfl
@[go_sem] theorem run_loadDRf (w : World) (g o : Nat) (h : isSeg w g o 33 = true) : (loadDRf (.pointer (some ⟨g, o, none⟩))).run Try.prog w = .ok (.agg (segAt w g o 33)) w := run_load_piece w g o _ _ (fun cs t' fr hc hn => run_loadVar_seg w g o t' _ cs fr _ _ hc hn Try.underlying64 rfl info_drf) h
@[go_sem] theorem run_loadDLet (w : World) (g o : Nat) (h : isSeg w g o 42 = true) : (loadDLet (.pointer (some ⟨g, o, none⟩))).run Try.prog w = .ok (.agg (segAt w g o 42)) w := run_load_piece w g o _ _ (fun cs t' fr hc hn => run_loadVar_seg w g o t' _ cs fr _ _ hc hn Try.underlying37 rfl info_dlet) h
@[go_sem ↓ high] theorem eql_drf (a b : RfL) (ha : a.id.length = 32) (hb : b.id.length = 32) (w : World) : (Op.equalIn 10000 64 (.agg (rfC a)) (.agg (rfC b))).run Try.prog w = .ok (decide (a = b)) w := by
  rw [run_equalIn_struct (P := Try.prog) w 9999 64 _ _ (by kernel_rfl) (by kernel_rfl)]
  rw [show Try.prog.fieldsOf 64 = _ from by unfold Program.fieldsOf; rw [Try.underlying64]]
  have e1 : ∀ w, (Op.equalIn 9999 9 (.string a.name) (.string b.name)).run Try.prog w = .ok (a.name.toList == b.name.toList) w := fun w => run_equalIn_string w 9998 9 _ _ Try.underlying9
  have e2 : ∀ w, (Op.equalIn 9999 24 (.agg (idC a.id)) (.agg (idC b.id))).run Try.prog w = .ok (decide (a.id = b.id)) w := equalIn_id' 9997 24 Try.underlying24 a.id b.id ha hb
  have p1 : ∀ (r : RfL), r.id.length = 32 → ∀ (w : World), (part 24 (rfC r) 1).run Try.prog w = .ok (.agg (idC r.id)) w := fun r hr w => by
    rw [part_agg 24 _ 32 Try.underlying24 rfl size_arr, rfC_id r hr]
  have hd : decide (a = b) = ((a.name.toList == b.name.toList) && decide (a.id = b.id)) := by
    rw [Bool.eq_iff_iff, decide_eq_true_iff, ← rfEq_iff]; rfl
  rw [hd]
  generalize decide (a.id = b.id) = q at *
  simp only [Op.eqFields, ne_eq, String.reduceEq, not_false_eq_true, if_true, Sem.run_bind, part_str, e1, Result.andThen_ok]
  cases (a.name.toList == b.name.toList)
  · simp
  · cases q <;> simp [p1 a ha, p1 b hb, e2]

theorem list_ext {α : Type} {l l' : List α} {n : Nat} (h1 : l.length = n) (h2 : l'.length = n) (h : ∀ j, j < n → l[j]? = l'[j]?) : l = l' := by
  apply List.ext_getElem?
  intro j
  rcases Nat.lt_or_ge j n with hj | hj
  · exact h j hj
  · rw [List.getElem?_eq_none (by omega), List.getElem?_eq_none (by omega)]

set_option maxRecDepth 100000 in
set_option maxHeartbeats 8000000 in
theorem dsame_any (l l' : LetL) (s s' : LS) (w : World) (h : LetA w l s) (h' : LetA w l' s') :
    Calls Try.prog 14 #[.agg (letC l s), .agg (letC l' s')] w (Ret w (.bool (decide (l = l')))) := by
  obtain ⟨hsz, x0, x1, x2, x3, x4, x5, x6, x7, x8, x41, xp, xa⟩ := letC_x l s h.pack
  obtain ⟨ysz, y0, y1, y2, y3, y4, y5, y6, y7, y8, y41, yp, ya⟩ := letC_x l' s' h'.pack
  have hd := h.pack
  have hd' := h'.pack
  have HA := Lib.hid h; have HA' := Lib.hid h'
  clear h h' xa ya
  generalize letC l s = X at *
  generalize letC l' s' = Y at *
  have hx : ((w.alloc (.cells X 37)).alloc (.cells Y 37)).heap[w.heap.size]? = some (.cells X 37 (0, 0)) := (Below.heap_alloc _ _ _ (by simp)).trans (blk0 w X _)
  have hy : ((w.alloc (.cells X 37)).alloc (.cells Y 37)).heap[w.heap.size + 1]? = some (.cells Y 37 (0, 0)) := by have := blk0 (w.alloc (.cells X 37)) Y 37; simpa using this
  have hsx := seg_of hx 9 32 (by omega) xp
  have hsy := seg_of hy 9 32 (by omega) yp
  have hcx := (blk_cell hx).1
  have hcy := (blk_cell hy).1
  have hB0 : Below w.heap.size w ((w.alloc (.cells X 37)).alloc (.cells Y 37)) := ((Below.refl _ _).alloc (Nat.le_refl _) _).alloc (by simp) _
  have HX := Lib.hid hsz; have HY := Lib.hid ysz
  clear hsz ysz xp yp
  have hrl := HA.out.refs.len
  have hrl' := HA'.out.refs.len
  have HL := Lib.hid hrl; have HL' := Lib.hid hrl'
  have hcap := HA.out.refs.row.cap
  have hle := HA.out.refs.row.le
  unfold maxLen at hcap
  clear hrl hrl'
  by_cases e0 : l.kind = l'.kind
  · have e0b : (l.kind != l'.kind) = false := by simp [e0]
    have E0H := Lib.hid e0
    clear e0
    by_cases e1 : l.from_ = l'.from_
    · have e1b : (l.from_ != l'.from_) = false := by simp [e1]
      have E1H := Lib.hid e1
      clear e1
      by_cases e2 : l.to_ = l'.to_
      · have e2b : (l.to_ != l'.to_) = false := by simp [e2]
        have E2H := Lib.hid e2
        clear e2
        by_cases e3 : l.session = l'.session
        · have e3b : (l.session != l'.session) = false := by simp [e3]
          have E3H := Lib.hid e3
          clear e3
          by_cases e4 : l.off = l'.off
          · have e4b : (l.off != l'.off) = false := by simp [e4]
            have E4H := Lib.hid e4
            clear e4
            by_cases e5 : l.total = l'.total
            · have e5b : (l.total != l'.total) = false := by simp [e5]
              have E5H := Lib.hid e5
              clear e5
              by_cases e6 : l.pack = l'.pack
              · have e6b : decide (l.pack = l'.pack) = true := by simp [e6]
                have E6H := Lib.hid e6
                clear e6
                have HC := Lib.hid (samebytes_any s.da s.dn s.dc l.data s'.da s'.dn s'.dc l'.data _ (HA.out.below hB0).data (HA'.out.below hB0).data)
                by_cases e7 : l.data = l'.data
                · have e7b : decide (l.data = l'.data) = true := by simp [e7]
                  have E7H := Lib.hid e7
                  rw [e7b] at HC
                  clear e7 e7b
                  by_cases e8 : s.rn = s'.rn
                  · rw [show s'.rn = s.rn from e8.symm] at y4 HL'
                    have E8H := Lib.hid e8
                    clear e8
                    go_enter Try.func14, Try.ntmps14
                    go_upto_region 4 with (go_at_call 16; (with_reducible refine HC.out.mono ?_); rintro e w2 ⟨rfl, hb2⟩; have hx := (hb2.block _ (blk_cell hx).2.2).trans hx; have hy := (hb2.block _ (blk_cell hy).2.2).trans hy; have hcx := (blk_cell hx).1; have hcy := (blk_cell hy).1; have hB0 := Below.next hB0 hb2)
                    clear hb2 hcx hcy hsx hsy
                    have HXx := Lib.hid hx; have HYy := Lib.hid hy
                    clear hx hy
                    go_loopw [5] (fun i wr => ∃ k : Nat, k ≤ s.rn ∧ i = .int .i64 k ∧ (∀ j, j < k → l.refs[j]? = l'.refs[j]?) ∧ Below w2.heap.size w2 wr) (fun i _ => s.rn - (intOf i).toNat)
                    case atStart => exact ⟨0, Nat.zero_le _, rfl, fun j h => absurd h (by omega), Below.refl _ _⟩
                    case round =>
                      obtain ⟨k, hk, rfl, hall, hB⟩ := hrel
                      have hx := (hB.block _ (blk_cell HXx.out).2.2).trans HXx.out
                      have hy := (hB.block _ (blk_cell HYy.out).2.2).trans HYy.out
                      have HAl := Lib.hid hall
                      clear hall
                      by_cases hkn : k < s.rn
                      · obtain ⟨b, off, hab, hc⟩ := HA.out.refs.seg (by omega)
                        obtain ⟨b', off', hab', hc'⟩ := HA'.out.refs.seg (by have := E8H.out; omega)
                        rw [hab] at x4
                        rw [hab'] at y4
                        obtain ⟨p, hp⟩ : ∃ p, l.refs[k]? = some p := ⟨_, List.getElem?_eq_getElem (by have := HL.out; omega)⟩
                        obtain ⟨p', hp'⟩ : ∃ p', l'.refs[k]? = some p' := ⟨_, List.getElem?_eq_getElem (by have := HL'.out; omega)⟩
                        have G := hc k p hp
                        have G' := hc' k p' hp'
                        have hBw := Below.next hB0 hB
                        have k3 := seg_regrown (seg_below (seg_below G.2 hB0) hB)
                        have k4 := seg_regrown (seg_below (seg_below G'.2 hB0) hB)
                        have lx := G.1.1.1
                        have ly := G'.1.1.1
                        have c4 := ((blk_cell hx).1 4).trans x4
                        have d4 := ((blk_cell hy).1 4).trans y4
                        have g4 := cell_regrown c4
                        have g4' := cell_regrown d4
                        have H1 := Lib.hid hp; have H2 := Lib.hid hp'
                        clear hc hc' hp hp' G G' hx hy hab hab'
                        cases hq : decide (p = p') with
                        | true =>
                          have HQ := Lib.hid (of_decide_eq_true hq)
                          go_upto_region 6 with fail
                          (refine wp_region_quiet_below (by kernel_rfl) (by kernel_rfl) ?_; (repeat (go_big_quiet_step (fail))); refine wpQuiet_nil ?_; intro _ hw'; obtain ⟨⟨dq, osq⟩, hw''⟩ := hw'; subst hw'')
                          go_wp2_with fail
                          go_roundw
                          case rel =>
                            refine ⟨k + 1, by omega, by go_num, fun j hj => ?_, Below.next hB (below_regrown _ _ _)⟩
                            rcases Nat.lt_succ_iff_lt_or_eq.1 hj with hj | rfl
                            · exact HAl.out j hj
                            · rw [H1.out, H2.out, HQ.out]
                          case measure => simp [intOf]; omega
                        | false =>
                          have HQ := Lib.hid (of_decide_eq_false hq)
                          go_upto_region 6 with fail
                          (refine wp_region_quiet_below (by kernel_rfl) (by kernel_rfl) ?_; (repeat (go_big_quiet_step (fail))); refine wpQuiet_nil ?_; intro _ hw'; obtain ⟨⟨dq, osq⟩, hw''⟩ := hw'; subst hw'')
                          go_wp2_with fail
                          go_ret
                          refine Ret.mk (congrArg Value.bool ?_) (Below.next hBw (below_regrown _ _ _))
                          show false = decide (l = l')
                          rw [decide_eq_false]
                          intro e
                          have e2 := H1.out.symm.trans ((congrArg (fun z => z.refs[k]?) e).trans H2.out)
                          injection e2 with e2
                          exact HQ.out e2
                      · obtain rfl : k = s.rn := by omega
                        have hrf := list_ext HL.out HL'.out HAl.out
                        have HRf := Lib.hid hrf
                        have hBw := Below.next hB0 hB
                        have hcx := (blk_cell hx).1
                        have hcy := (blk_cell hy).1
                        have HE2 := Lib.hid (fun W' (hb : Below w.heap.size w W') => sameids_any _ _ _ _ _ _ _ _ W' (HA.out.below hb).wants (HA'.out.below hb).wants)
                        have HE3 := Lib.hid (fun W' (hb : Below w.heap.size w W') => sameids_any _ _ _ _ _ _ _ _ W' (HA.out.below hb).haves (HA'.out.below hb).haves)
                        clear hrf hB0
                        go_wp2_with (first
                          | (go_at_call 34; (first | (with_reducible refine (HE2.out _ (by assumption)).mono ?_) | (with_reducible refine (HE3.out _ (by assumption)).mono ?_)); rintro e w1 ⟨rfl, hb⟩; have hBw := Below.next hBw hb; have hx := (hb.block _ (blk_cell hx).2.2).trans hx; have hcx := (blk_cell hx).1; have hy := (hb.block _ (blk_cell hy).2.2).trans hy; have hcy := (blk_cell hy).1; have hb := hb))
                        all_goals
                          go_ret
                          refine Ret.mk (congrArg Value.bool ?_) (by assumption)
                          have q0 := E0H.out; have q1 := E1H.out; have q2 := E2H.out; have q3 := E3H.out; have q4 := E4H.out; have q5 := E5H.out; have q6 := E6H.out; have q7 := E7H.out; have q8 := HRf.out
                          rw [let_eq]
                          (try simp only [Bool.not_eq_true', Bool.not_eq_false', beq_iff_eq, beq_eq_false_iff_ne, ne_eq] at *)
                          rw [Bool.eq_iff_iff]
                          simp [*]
                  · have e8b : ((s.rn : Int) != (s'.rn : Int)) = true := by simp; omega
                    have HQ := Lib.hid (show decide (l = l') = false from decide_eq_false (fun e => e8 (by have h1 := HL.out; have h2 := HL'.out; rw [e] at h1; omega)))
                    clear e8
                    go_enter Try.func14, Try.ntmps14
                    go_wp2_with (go_at_call 16; (with_reducible refine HC.out.mono ?_); rintro e w2 ⟨rfl, hb2⟩; have hx2 := (hb2.block _ (blk_cell hx).2.2).trans hx; have hy2 := (hb2.block _ (blk_cell hy).2.2).trans hy; have hcx2 := (blk_cell hx2).1; have hcy2 := (blk_cell hy2).1)
                    go_ret
                    exact Ret.mk (congrArg Value.bool HQ.out.symm) (Below.next hB0 hb2)
                · have e7b : decide (l.data = l'.data) = false := by simp [e7]
                  have HQ := Lib.hid (show decide (l = l') = false from decide_eq_false (fun e => e7 (by rw [e])))
                  rw [e7b] at HC
                  clear e7 e7b
                  go_enter Try.func14, Try.ntmps14
                  go_wp2_with (go_at_call 16; (with_reducible refine HC.out.mono ?_); rintro e w2 ⟨rfl, hb2⟩)
                  go_ret
                  exact Ret.mk (congrArg Value.bool HQ.out.symm) (Below.next hB0 hb2)
              · have e6b : decide (l.pack = l'.pack) = false := by simp [e6]
                have HQ := Lib.hid (show decide (l = l') = false from decide_eq_false (fun e => e6 (by rw [e])))
                clear e6
                go_enter Try.func14, Try.ntmps14
                go_wp2_with fail
                go_ret
                exact Ret.mk (congrArg Value.bool HQ.out.symm) hB0
            · have e5b : (l.total != l'.total) = true := by simp [e5]
              have HQ := Lib.hid (show decide (l = l') = false from decide_eq_false (fun e => e5 (by rw [e])))
              clear e5
              go_enter Try.func14, Try.ntmps14
              go_wp2_with fail
              go_ret
              exact Ret.mk (congrArg Value.bool HQ.out.symm) hB0
          · have e4b : (l.off != l'.off) = true := by simp [e4]
            have HQ := Lib.hid (show decide (l = l') = false from decide_eq_false (fun e => e4 (by rw [e])))
            clear e4
            go_enter Try.func14, Try.ntmps14
            go_wp2_with fail
            go_ret
            exact Ret.mk (congrArg Value.bool HQ.out.symm) hB0
        · have e3b : (l.session != l'.session) = true := by simp [e3]
          have HQ := Lib.hid (show decide (l = l') = false from decide_eq_false (fun e => e3 (by rw [e])))
          clear e3
          go_enter Try.func14, Try.ntmps14
          go_wp2_with fail
          go_ret
          exact Ret.mk (congrArg Value.bool HQ.out.symm) hB0
      · have e2b : (l.to_ != l'.to_) = true := by simp [e2]
        have HQ := Lib.hid (show decide (l = l') = false from decide_eq_false (fun e => e2 (by rw [e])))
        clear e2
        go_enter Try.func14, Try.ntmps14
        go_wp2_with fail
        go_ret
        exact Ret.mk (congrArg Value.bool HQ.out.symm) hB0
    · have e1b : (l.from_ != l'.from_) = true := by simp [e1]
      have HQ := Lib.hid (show decide (l = l') = false from decide_eq_false (fun e => e1 (by rw [e])))
      clear e1
      go_enter Try.func14, Try.ntmps14
      go_wp2_with fail
      go_ret
      exact Ret.mk (congrArg Value.bool HQ.out.symm) hB0
  · have e0b : (l.kind != l'.kind) = true := by simp [e0]
    have HQ := Lib.hid (show decide (l = l') = false from decide_eq_false (fun e => e0 (by rw [e])))
    clear e0
    go_enter Try.func14, Try.ntmps14
    go_wp2_with fail
    go_ret
    exact Ret.mk (congrArg Value.bool HQ.out.symm) hB0

end Go.Proofs.Ytfjbmgfkfeehnaa
