/- An ID is read; a reader is made. -/
import Derived.Test.YtfjbmgfkfeehnaaEncM
namespace Go.Proofs.Ytfjbmgfkfeehnaa
open Go.RowKit

theorem cells_id (d : List Int) : ∀ v ∈ (idC d).toList, v.oneCell' = true := fun v hv => by
  simp [idC] at hv; obtain ⟨y, _, rfl⟩ := hv; rfl

@[go_sem ↓ high] theorem alloc_id (w : World) : (Instr.alloc 25 true (.tuple #[])).run Try.prog w = .ok (.pointer (some ⟨w.heap.size, 0, none⟩)) (w.alloc (.cells (idC zero32) 25)) := by kernel_rfl
@[go_sem ↓ high] theorem build_id (w : World) : (Instr.build 25 #[]).run Try.prog w = .ok (.agg (idC zero32)) w := by kernel_rfl
theorem size_id : (Try.prog.info? 25).map (·.size) = some 32 := by kernel_rfl

def IdPost (w : World) (H g : Nat) (x : List Int × Rd) (e : Ending) (w' : World) : Prop := e = .returned (.agg (idC x.1)) ∧ w.grownBy w' (some g) ∧ RdAt w' H g x.2

theorem RdAt.alloc {w : World} {H g : Nat} {s : Rd} (h : RdAt w H g s) (hH : H ≤ w.heap.size) (o : Obj) : RdAt (w.alloc o) H g s := by
  obtain ⟨a, n, c, b, hb⟩ := h.cells
  exact h.kept (Below.heap_alloc w o g (blk_cell hb).2.2) (fun k hk _ => Below.heap_alloc w o k (by omega))
theorem RdAt.drew {w : World} {H g : Nat} {s : Rd} (h : RdAt w H g s) : RdAt w.drew H g s := h.kept rfl (fun _ _ _ => rfl)
theorem RdAt.lt {w : World} {H g : Nat} {s : Rd} (h : RdAt w H g s) : g < w.heap.size := by
  obtain ⟨a, n, c, b, hb⟩ := h.cells
  exact (blk_cell hb).2.2

/-- 'copy(id[:], b)' of 32 bytes. -/
theorem step_copy32 {ops : Array Oper} {o : Oper} {a : Act} {w : World} {K : Act → World → Prop} {Q : Exit → Act → World → Prop} {E : Prop} (hgd : o.guard = none) (d s : Operand)
    (ho : o.op = .call { callee := .builtin .copy, args := #[d, s], argTypes := #[26, 26] }) (q : Nat) (sp : Option Addr) (l : List Int)
    (hd : a.eval d = .slice (some ⟨q, 0, none⟩) 32 32) (hs : a.eval s = .slice sp 32 32) (cur : Array Value) (t : TypeId) (hg : w.heap[q]? = some (.cells cur t (0, 0))) (hc : cur.size = 32) (hb : Bs w sp 32 32 l)
    (h : ∀ w', w'.heap[q]? = some (.cells (idC l) t (0, 0)) → w.grownBy w' (some q) → w'.heap.size = w.heap.size → K (a.put o.dst (goInt 32)) w') :
    if Region.wanted o (yielded ops a.tmps) = true then Oper.wp Try.prog o a w K Q else E := by
  have hl := hb.length
  obtain ⟨b, off, rfl, hcells⟩ := Sl.cells hb (by omega)
  have hrun := run_copy_row (P := Try.prog) w 26 26 o.type 5 q 0 32 32 ⟨b, off, none⟩ 32 32 cur t (l.map (Value.int .u8)) Try.underlying26 (by kernel_rfl) hg (by simp [hl])
    (fun j v hv => by
      have hj : j < 32 := by
        rcases Nat.lt_or_ge j 32 with h | h
        · exact h
        · rw [List.getElem?_eq_none (by simp; omega)] at hv; cases hv
      have e : (⟨b, off, none⟩ : Addr).add j = ⟨b, off + j, none⟩ := by unfold Addr.add; split <;> simp_all
      rw [e, hcells j (by omega), hv]) (by simp; omega) (fun v hv => by simp at hv; obtain ⟨y, _, rfl⟩ := hv; rfl)
  have hdrop : cur.toList.drop 32 = [] := List.drop_eq_nil_of_le (by simp; omega)
  simp [hl, hdrop] at hrun
  have hK := h (w.setRow q (idC l)) (setRow_heap w q cur _ t _ hg) ⟨rfl, rfl, rfl, by simp, fun k _ hk => setRow_other w q k _ (fun e => hk (by rw [e]))⟩ (by simp)
  refine step_of_wp hgd ?_
  unfold Oper.wp
  simp [execOp, ho, resolve, invoke, builtin, hd, hs, hrun, Result.andThen]
  exact hK
/-- 'copy(id[:], nil)'. -/
theorem step_copy0 {ops : Array Oper} {o : Oper} {a : Act} {w : World} {K : Act → World → Prop} {Q : Exit → Act → World → Prop} {E : Prop} (hgd : o.guard = none) (d s : Operand)
    (ho : o.op = .call { callee := .builtin .copy, args := #[d, s], argTypes := #[26, 26] }) (dp : Option Addr) (n c : Nat)
    (hd : a.eval d = .slice dp n c) (hs : a.eval s = .slice none 0 0) (h : K (a.put o.dst (goInt 0)) w) :
    if Region.wanted o (yielded ops a.tmps) = true then Oper.wp Try.prog o a w K Q else E := by
  have hrun := run_copy_none (P := Try.prog) w 26 26 o.type 5 dp none n c 0 0 Try.underlying26 (by kernel_rfl) (by simp)
  refine step_of_wp hgd ?_
  unfold Oper.wp
  simp [execOp, ho, resolve, invoke, builtin, hd, hs, hrun, Result.andThen]
  exact h

theorem grown_at {w w' : World} {g q : Nat} {c : Array Value} {t : TypeId} (h : w.grownBy w' (some g)) (hq : w.heap[q]? = some (.cells c t (0, 0))) (hne : q ≠ g) : w'.heap[q]? = some (.cells c t (0, 0)) :=
  (h.block q (blk_cell hq).2.2 (by simpa using hne)).trans hq
theorem RdAt.grown' {w w' : World} {H g q : Nat} {s : Rd} (h : RdAt w H g s) (k : w.grownBy w' (some q)) (hg : q ≠ g) (hq : H ≤ q) (hH : H ≤ w.heap.size) : RdAt w' H g s := by
  obtain ⟨a, n, c, b, hb⟩ := h.cells
  exact h.kept (k.block g (blk_cell hb).2.2 (by simpa using Ne.symm hg)) (fun j hj _ => k.block j (by omega) (by simp; omega))
theorem id_len {s : Rd} (h : RdBytes s) : (getId s).1.length = 32 := by
  cases s with
  | none => simp [getId, zero32]
  | some l =>
    unfold getId
    simp only []
    split
    · simp; omega
    · simp [zero32]

set_option maxRecDepth 100000 in
theorem rdid_any (H g : Nat) (s : Rd) (w : World) (h : RdAt w H g s) (hH : H ≤ w.heap.size) :
    Calls Try.prog 39 #[.pointer (some ⟨g, 0, none⟩)] w (IdPost w H g (getId s)) := by
  have hA := (h.alloc hH (.cells (idC zero32) 25)).drew
  have hg := h.lt
  have hq0 : (w.alloc (.cells (idC zero32) 25)).drew.heap[w.heap.size]? = some (.cells (idC zero32) 25 (0, 0)) := heap_alloc_new w _
  have hgr0 : w.grownBy (w.alloc (.cells (idC zero32) 25)).drew (some g) := grown_below (((Below.refl _ _).alloc (Nat.le_refl _) _).drew)
  have hne : w.heap.size ≠ g := by omega
  by_cases hok : ∃ l, s = some l ∧ 32 ≤ l.length
  · obtain ⟨l, rfl, hl⟩ := hok
    have hsz : (idC (l.take 32)).size = 32 := by simp [idC]; omega
    have hex : (idC (l.take 32)).extract 0 (0 + 32) = idC (l.take 32) := by apply Array.ext (by simp; omega); intro i h1 h2; simp
    have hput : put (idC (l.take 32)) 0 (idC (l.take 32)) = idC (l.take 32) := put_whole _ _ rfl
    have hcs := cells_id (l.take 32)
    have hi32 : (Try.prog.info? 25).map (·.size) = some (idC (l.take 32)).size := by rw [hsz]; exact size_id
    go_enter Try.func39, Try.ntmps39
    go_wp2_with fail
    go_region_law (first
      | (refine step_copy32 rfl _ _ rfl w.heap.size _ (l.take 32) rfl rfl (idC zero32) 25 (by assumption) rfl (by assumption) ?_; intro w2 hq2 hgr2 hsz2)
      | (go_simp; go_at_call 59; refine (take_yes H g l 32 _ hA hl).mono ?_; rintro e w1 ⟨a1, rfl, hgr, hrd, hbs⟩; have hq1 := grown_at hgr hq0 hne))
    have HH := Lib.hid hsz; have HX := Lib.hid hex; have HP := Lib.hid hput; have HI := Lib.hid hi32; clear hsz hex hput hi32
    go_wp2_with (first
      | (with_reducible show wpList _ _ _ _ _ _; refine wpList_load_seg rfl 25 _ rfl w.heap.size 0 rfl 25 (idC (l.take 32)) (0, 0) _ 32 hq2 (by rw [HH.out]; omega) Try.underlying25 rfl size_id (idC (l.take 32)) HX.out ?_)
      | (with_reducible show wpList _ _ _ _ _ _; refine wpList_store_seg rfl 25 _ _ rfl rfl w.heap.size 0 rfl (idC (l.take 32)) rfl 25 (idC (l.take 32)) hq2 (by omega) HI.out hcs _ HP.out ?_; intro w3 hq3 hgr3 hsz3))
    refine bodyPost_ret (results_cell_row rfl _ _ _ 25 _ (0, 0) _ rfl hq3 Try.underlying25 rfl HI.out) rfl ?_
    have hgb : w.grownBy w3 (some g) := by
      have h1 := grown_trans hgr0 hgr
      refine ⟨hgr3.os.trans (hgr2.os.trans h1.os), hgr3.tape.trans (hgr2.tape.trans h1.tape), hgr3.output.trans (hgr2.output.trans h1.output), Nat.le_trans h1.size (Nat.le_trans hgr2.size hgr3.size), fun k hk hkg => ?_⟩
      have hkq : some k ≠ some w.heap.size := by simp; omega
      have hk1 : k < w1.heap.size := Nat.lt_of_lt_of_le hk h1.size
      exact (hgr3.block k (Nat.lt_of_lt_of_le hk1 hgr2.size) hkq).trans ((hgr2.block k hk1 hkq).trans (h1.block k hk hkg))
    have hgs : getId (some l) = (l.take 32, some (l.drop 32)) := by simp [getId, hl]
    rw [hgs]
    have s1 := hgr.size
    have s2 := hgr2.size
    simp at s1
    exact ⟨rfl, hgb, (hrd.grown' hgr2 hne hH (by omega)).grown' hgr3 hne hH (by omega)⟩
  · have hno : ∀ l, s = some l → (l.length : Int) < 32 := fun l hl => by
      have : ¬ 32 ≤ l.length := fun h => hok ⟨l, hl, h⟩
      omega
    have hgs : getId s = (zero32, none) := by
      cases s with
      | none => rfl
      | some l => have := hno l rfl; simp [getId]; omega
    have HN := Lib.hid hno; have HK := Lib.hid hok; have HG := Lib.hid hgs; clear hno hok hgs
    have hsz : (idC zero32).size = 32 := rfl
    have hex : (idC zero32).extract 0 (0 + 32) = idC zero32 := rfl
    have hput : put (idC zero32) 0 (idC zero32) = idC zero32 := put_whole _ _ rfl
    have hcs := cells_id zero32
    have hi32 : (Try.prog.info? 25).map (·.size) = some (idC zero32).size := by rw [hsz]; exact size_id
    have HH := Lib.hid hsz; have HX := Lib.hid hex; have HP := Lib.hid hput; have HI := Lib.hid hi32; clear hsz hex hput hi32
    go_enter Try.func39, Try.ntmps39
    go_wp2_with fail
    go_region_law (first
      | (refine step_copy0 rfl _ _ rfl _ 32 32 rfl rfl ?_)
      | (go_simp; go_at_call 59; refine (take_no H g s 32 _ hA HN.out).mono ?_; rintro e w1 ⟨rfl, hgr, hrd⟩; have hq1 := grown_at hgr hq0 hne))
    go_wp2_with (first
      | (with_reducible show wpList _ _ _ _ _ _; refine wpList_load_seg rfl 25 _ rfl w.heap.size 0 rfl 25 (idC zero32) (0, 0) _ 32 hq1 (by rw [HH.out]; omega) Try.underlying25 rfl size_id (idC zero32) HX.out ?_)
      | (with_reducible show wpList _ _ _ _ _ _; refine wpList_store_seg rfl 25 _ _ rfl rfl w.heap.size 0 rfl (idC zero32) rfl 25 (idC zero32) hq1 (by omega) HI.out hcs _ HP.out ?_; intro w3 hq3 hgr3 hsz3))
    refine bodyPost_ret (results_cell_row rfl _ _ _ 25 _ (0, 0) _ rfl hq3 Try.underlying25 rfl HI.out) rfl ?_
    have hgb : w.grownBy w3 (some g) := by
      have h1 := grown_trans hgr0 hgr
      refine ⟨hgr3.os.trans h1.os, hgr3.tape.trans h1.tape, hgr3.output.trans h1.output, Nat.le_trans h1.size hgr3.size, fun k hk hkg => ?_⟩
      have hkq : some k ≠ some w.heap.size := by simp; omega
      exact (hgr3.block k (Nat.lt_of_lt_of_le hk h1.size) hkq).trans (h1.block k hk hkg)
    have s1 := hgr.size
    simp at s1
    rw [HG.out]
    exact ⟨rfl, hgb, hrd.grown' hgr3 hne hH (by omega)⟩

end Go.Proofs.Ytfjbmgfkfeehnaa
