/- The document's reader: stamps, texts, IDs. -/
import Derived.Test.YtdghnfihphlboaaRefR
namespace Go.Proofs.Ytdghnfihphlboaa
open Go.RowKit

/-- A reader as cells. -/
def InC (w : World) (s : Rd) (a : Option Addr) (n c : Nat) (b : Bool) : Prop :=
  match s with
  | none => a = none ∧ n = 0 ∧ c = 0 ∧ b = true
  | some l => b = false ∧ Bs w a n c l
/-- A value and a reader are handed back. -/
def RetC (w0 w : World) (v : Value) (s : Rd) (e : Ending) (w' : World) : Prop :=
  ∃ a n c b, e = .returned (.tuple #[v, .agg #[.slice a n c, .bool b]]) ∧ Below w.heap.size w w' ∧ InC w0 s a n c b
theorem InC.below {w w' : World} {s : Rd} {a : Option Addr} {n c : Nat} {b : Bool} (h : InC w s a n c b) (hb : Below w.heap.size w w') : InC w' s a n c b := by
  cases s with
  | none => exact h
  | some l => exact ⟨h.1, h.2.below hb⟩
theorem InC.bad {w : World} {s : Rd} {a : Option Addr} {n c : Nat} {b : Bool} (h : InC w s a n c b) : b = !s.isSome := by
  cases s with
  | none => exact h.2.2.2
  | some l => exact h.1
theorem InC.len {w : World} {s : Rd} {a : Option Addr} {n c : Nat} {b : Bool} (h : InC w s a n c b) : n = (s.getD []).length := by
  cases s with
  | none => exact h.2.1
  | some l => exact h.2.length.symm
theorem RetIn.toC {w0 w : World} {v : Value} {s : Rd} {e : Ending} {w' : World} (h : RetIn w0 w v s e w') : RetC w0 w v s e w' := by
  obtain ⟨u, he, hb, hi⟩ := h
  cases s with
  | none =>
    obtain rfl : u = _ := hi
    exact ⟨_, _, _, _, he, hb, rfl, rfl, rfl, rfl⟩
  | some l =>
    obtain ⟨a, n, c, rfl, hs⟩ := hi
    exact ⟨_, _, _, _, he, hb, rfl, hs⟩
theorem rgnum_any (most : Int) (s : Rd) (a : Option Addr) (n c : Nat) (b : Bool) (w0 w : World) (hb : Below w0.heap.size w0 w) (h : InC w0 s a n c b) (hby : RdBytes s) :
    Calls Try.prog 57 #[.agg #[.slice a n c, .bool b], .int .i64 most] w (RetC w0 w (.int .i64 (getNum most s).1) (getNum most s).2) := by
  cases s with
  | none =>
    obtain ⟨rfl, rfl, rfl, rfl⟩ := h
    exact (rgnum_none most w0 w).mono fun _ _ h => RetIn.toC h
  | some l =>
    obtain ⟨rfl, h⟩ := h
    exact (rgnum_some most a n c l w0 w hb h (hby l rfl)).mono fun _ _ h => RetIn.toC h

set_option maxRecDepth 100000 in
set_option maxHeartbeats 2000000 in
theorem rgstamp_any (s : Rd) (a : Option Addr) (n c : Nat) (b : Bool) (w0 w : World) (hbw : Below w0.heap.size w0 w) (h : InC w0 s a n c b) (hby : RdBytes s) :
    Calls Try.prog 58 #[.agg #[.slice a n c, .bool b]] w (RetC w0 w (.agg #[.int .i64 (getSt s).1.t, .int .i64 (getSt s).1.r]) (getSt s).2) := by
  obtain ⟨W0, hW0⟩ : ∃ W0, W0 = ((w.alloc (.cells #[.slice a n c, .bool b] 48)).alloc (.cells #[.int .i64 0, .int .i64 0] 23)).alloc (.cells #[.slice none 0 0, .bool false] 48) := ⟨_, rfl⟩
  have hB0 : Below w.heap.size w W0 := by rw [hW0]; exact (((Below.refl _ _).alloc (Nat.le_refl _) _).alloc (by simp) _).alloc (by simp; omega) _
  have hb2 : W0.heap[w.heap.size + 1]? = some (.cells #[.int .i64 0, .int .i64 0] 23 (0, 0)) := by
    have := blk0 (w.alloc (.cells #[.slice a n c, .bool b] 48)) #[.int .i64 0, .int .i64 0] 23
    rw [hW0, Below.heap_alloc _ _ _ (by simp)]
    simpa using this
  have hb3 : W0.heap[w.heap.size + 2]? = some (.cells #[.slice none 0 0, .bool false] 48 (0, 0)) := by
    have := blk0 ((w.alloc (.cells #[.slice a n c, .bool b] 48)).alloc (.cells #[.int .i64 0, .int .i64 0] 23)) #[.slice none 0 0, .bool false] 48
    rw [hW0]
    simpa using this
  have hc1 := rgnum_any 1099511627776 s a n c b w0 W0 (Below.next hbw hB0) h hby
  have hby1 := hby.getNum 1099511627776
  have HB2 := Lib.hid hb2
  have HB3 := Lib.hid hb3
  have HC1 := Lib.hid hc1
  unfold getSt
  clear hb2 hb3 hc1 h hby
  generalize getNum 1099511627776 s = x at *
  obtain ⟨t, s1⟩ := x
  simp only at hby1 ⊢
  go_enter Try.func58, Try.ntmps58
  go_wp2_with fail
  rw [← hW0]
  clear hW0
  refine HC1.out.mono ?_
  rintro e w1 ⟨a1, n1, c1, b1, rfl, hb1, hi1⟩
  dsimp only
  have hB1 : Below w.heap.size w w1 := Below.next hB0 hb1
  have hb2 := (hb1.block _ (blk_cell HB2.out).2.2).trans HB2.out
  have hb3 := (hb1.block _ (blk_cell HB3.out).2.2).trans HB3.out
  clear HB2 HB3 HC1 hB0 hb1
  have hA1 : Below w1.heap.size w1 (w1.alloc (.cells #[.slice a1 n1 c1, .bool b1] 48)) := (Below.refl _ _).alloc (Nat.le_refl _) _
  have hb2 := (hA1.block _ (blk_cell hb2).2.2).trans hb2
  have hb3 := (hA1.block _ (blk_cell hb3).2.2).trans hb3
  have hB1 := Below.next hB1 hA1
  have hc2 := rgnum_any 65536 s1 a1 n1 c1 b1 w0 _ (Below.next hbw hB1) hi1 hby1
  have HC2 := Lib.hid hc2
  clear hc2 hi1 hby1 hA1 hbw
  generalize getNum 65536 s1 = y at *
  obtain ⟨r, s2⟩ := y
  go_wp2_with fail
  refine HC2.out.mono ?_
  rintro e w2 ⟨a2, n2, c2, b2, rfl, hb, hi2⟩
  dsimp only
  have hb2 := (hb.block _ (blk_cell hb2).2.2).trans hb2
  have hb3 := (hb.block _ (blk_cell hb3).2.2).trans hb3
  have hB2 := Below.next hB1 hb
  clear hb hB1 HC2
  have hlt3 := (blk_cell hb3).2.2
  have hA2 : Below w2.heap.size w2 (w2.alloc (.cells #[.slice a2 n2 c2, .bool b2] 48)) := (Below.refl _ _).alloc (Nat.le_refl _) _
  have hb2 := (hA2.block _ (blk_cell hb2).2.2).trans hb2
  have hb3 := (hA2.block _ (blk_cell hb3).2.2).trans hb3
  have hB3 := Below.next hB2 hA2
  have hq := blk0 w2 #[.slice a2 n2 c2, .bool b2] 48
  have HI2 := Lib.hid hi2
  clear hA2 hB2 hi2
  go_upto_region 3 with fail
  generalize hW3 : w2.alloc (.cells #[.slice a2 n2 c2, .bool b2] 48) = W3 at *
  generalize w2.heap.size = q at *
  clear hW3
  have k20 := (blk_cell hb2).1 0
  have k21 := (blk_cell hb2).1 1
  have k30 := (blk_cell hb3).1 0
  have k31 := (blk_cell hb3).1 1
  have kq0 := (blk_cell hq).1 0
  have kq1 := (blk_cell hq).1 1
  have f20 := (blk_cell hb2).2.1 0
  have f21 := (blk_cell hb2).2.1 1
  have f30 := (blk_cell hb3).2.1 0
  have f31 := (blk_cell hb3).2.1 1
  simp only [List.getElem?_toArray, List.getElem?_cons_zero, List.getElem?_cons_succ] at k20 k21 k30 k31 kq0 kq1
  have hne2 : ¬ q = w.heap.size + 1 := by omega
  have hne3 : ¬ q = w.heap.size + 2 := by omega
  have hne2' : ¬ w.heap.size + 1 = q := by omega
  have hne3' : ¬ w.heap.size + 2 = q := by omega
  clear hb2 hb3 hq
  go_region_held3 (fun w' : World => w'.cell? ⟨q, 0, none⟩ = some (.slice a2 n2 c2) ∧ w'.cell? ⟨q, 1, none⟩ = some (.bool b2)) (first | assumption | (simp [go_sem, *]; done)) (fail)
  all_goals
    go_wp2_with fail
    refine bodyPost_ret (v := .tuple #[.agg #[.int .i64 t, .int .i64 r], .agg #[.slice a2 n2 c2, .bool b2]]) (by simp [results, Try.results58, go_sem, k20, k21, k30, k31]) rfl ⟨_, _, _, _, rfl, ?_, HI2.out⟩
    exact ((((hB3.setCell (p := ⟨w.heap.size + 1, 0, none⟩) (by simp) _).setCell (p := ⟨w.heap.size + 1, 1, none⟩) (by simp) _).setCell (p := ⟨w.heap.size + 2, 0, none⟩) (by simp) _).setCell (p := ⟨w.heap.size + 2, 1, none⟩) (by simp) _).drew

end Go.Proofs.Ytdghnfihphlboaa
