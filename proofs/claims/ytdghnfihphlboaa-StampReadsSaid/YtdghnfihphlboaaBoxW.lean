/- A [32]byte in a block of its own: it is loaded and stored as a whole. -/
import Derived.Test.YtdghnfihphlboaaBox
import Derived.Test.YtdghnfihphlboaaGoodR
namespace Go.Proofs.Ytdghnfihphlboaa
open Go.RowKit

/-- The block g holds a value of type t, n cells, none of them frozen. -/
def isBoxW (w : World) (g : Nat) (t : TypeId) (n : Nat) : Bool := match w.heap[g]? with
  | some (.cells cs t' fr) => t' == t && cs.size == n && fr == (0, 0)
  | _ => false
theorem boxW_of {w : World} {g : Nat} {t : TypeId} {X : Array Value} {n : Nat} (h : w.heap[g]? = some (.cells X t (0, 0))) (hn : X.size = n) : isBoxW w g t n = true ∧ boxAt w g = X := by
  unfold isBoxW boxAt
  rw [h]
  simp [hn]
theorem of_boxW {w : World} {g : Nat} {t : TypeId} {n : Nat} (h : isBoxW w g t n = true) : w.heap[g]? = some (.cells (boxAt w g) t (0, 0)) ∧ (boxAt w g).size = n := by
  unfold isBoxW at h
  split at h
  · rename_i cs t' fr hc
    simp only [Bool.and_eq_true, beq_iff_eq] at h
    obtain ⟨⟨rfl, hs⟩, rfl⟩ := h
    have e : boxAt w g = cs := by unfold boxAt; rw [hc]
    rw [e]
    exact ⟨hc, hs⟩
  · cases h
theorem boxW_kept {W W' : World} {g : Nat} {t : TypeId} {n : Nat} {X : Array Value} (h : isBoxW W g t n = true ∧ boxAt W g = X) (hb : W'.heap[g]? = W.heap[g]?) : isBoxW W' g t n = true ∧ boxAt W' g = X := by
  unfold isBoxW boxAt at *
  rw [hb]
  exact h
theorem boxW_lt {W : World} {g : Nat} {t : TypeId} {n : Nat} {X : Array Value} (h : isBoxW W g t n = true ∧ boxAt W g = X) : g < W.heap.size := (blk_cell (of_boxW h.1).1).2.2
theorem boxW_below {W W' : World} {g : Nat} {t : TypeId} {n : Nat} {X : Array Value} (h : isBoxW W g t n = true ∧ boxAt W g = X) (hb : Below W.heap.size W W') : isBoxW W' g t n = true ∧ boxAt W' g = X :=
  boxW_kept h (hb.block _ (boxW_lt h))
@[go_sem] theorem isBoxW_drew (w : World) (g : Nat) (t : TypeId) (n : Nat) : isBoxW w.drew g t n = isBoxW w g t n := rfl
@[go_sem] theorem boxAt_drew (w : World) (g : Nat) : boxAt w.drew g = boxAt w g := rfl
@[go_sem] theorem isBoxW_setRow (w : World) (q g : Nat) (cs : Array Value) (t : TypeId) (n : Nat) (h : ¬ g = q) : isBoxW (w.setRow q cs) g t n = isBoxW w g t n := by
  unfold isBoxW
  rw [setRow_other w q g cs h]
@[go_sem] theorem boxAt_setRow (w : World) (q g : Nat) (cs : Array Value) (h : ¬ g = q) : boxAt (w.setRow q cs) g = boxAt w g := by
  unfold boxAt
  rw [setRow_other w q g cs h]
@[go_sem] theorem cell_setRow (w : World) (q g o : Nat) (cs : Array Value) (h : ¬ g = q) : (w.setRow q cs).cell? ⟨g, o, none⟩ = w.cell? ⟨g, o, none⟩ := by
  unfold World.cell?
  rw [setRow_other w q g cs h]
@[go_sem] theorem frozen_setRow (w : World) (q g o : Nat) (cs : Array Value) (h : ¬ g = q) : (w.setRow q cs).frozen? ⟨g, o, none⟩ = w.frozen? ⟨g, o, none⟩ := by
  unfold World.frozen?
  rw [setRow_other w q g cs h]

/-- Each is one cell. -/
def ones (cs : Array Value) : Bool := cs.all (·.oneCell')
theorem ones_id (d : List Int) : ones (idC d) = true := by
  unfold ones
  rw [Array.all_eq_true_iff_forall_mem]
  intro v hv
  exact cells_id d v (by simpa using hv)
def loadBoxA (v : Value) : Sem Value := Instr.loadAt 29 v
def storeBoxA (p v : Value) : Sem Unit := Instr.storeAt 29 p v
@[go_sem ↓ high] theorem loadAt_boxA (v : Value) : Instr.loadAt 29 v = loadBoxA v := rfl
@[go_sem ↓ high] theorem storeAt_boxA (p v : Value) : Instr.storeAt 29 p v = storeBoxA p v := rfl
@[go_sem] theorem run_load_arr (w : World) (g : Nat) (h : isBoxW w g 29 32 = true) : (loadBoxA (.pointer (some ⟨g, 0, none⟩))).run Try.prog w = .ok (.agg (boxAt w g)) w := by
  obtain ⟨h1, h2⟩ := of_boxW h
  have := run_loadVar_seg (P := Try.prog) w g 0 29 29 (boxAt w g) (0, 0) _ 32 h1 (by omega) Try.underlying29 rfl size_arr
  rw [show (boxAt w g).extract 0 (0 + 32) = boxAt w g by simp [← h2]] at this
  simp only [loadBoxA, Instr.loadAt, Instr.sureAddr, Sem.run_bind, Sem.run_pure, Result.andThen_ok, this]
@[go_sem] theorem run_store_arr (w : World) (g : Nat) (cs : Array Value) (h : isBoxW w g 29 32 = true) (hn : cs.size = 32) (h1 : ones cs = true) :
    (storeBoxA (.pointer (some ⟨g, 0, none⟩)) (.agg cs)).run Try.prog w = .ok () (w.setRow g cs) := by
  obtain ⟨hb, h2⟩ := of_boxW h
  have hst := run_storeCells_at Try.prog g 0 29 cs.toList 0 (boxAt w g) w hb (by simp; omega) (fun v hv => by
    unfold ones at h1
    rw [Array.all_eq_true_iff_forall_mem] at h1
    exact h1 v (by simpa using hv))
  have hp := put_whole (boxAt w g) cs (by omega)
  unfold put at hp
  cases hq : Try.prog.info? 29 with
  | none => have := size_arr; simp [hq] at this
  | some i =>
    have hs : i.size = cs.size := by have := size_arr; simp [hq] at this; omega
    simp only [Nat.add_zero, Array.length_toList, List.take_zero, List.nil_append] at hst hp
    simp only [Nat.zero_add] at hp
    have hrun : (storeVar 29 ⟨g, 0, none⟩ (.agg cs)).run Try.prog w = .ok () (w.setRow g cs) := by
      simp [storeVar, Value.cells, sizeOf, typeInfo, hq, hs, hst, hp]
    simp only [storeBoxA, Instr.storeAt, Instr.sureAddr, Sem.run_bind, Sem.run_pure, Result.andThen_ok, hrun]

theorem results_cells2 {P : Program} {fn : Func} {p p' : Tmp} {ty ty' : TypeId} (h : fn.results = #[.cell p ty, .cell p' ty']) (tmps : Array Value) (w : World) (g g' : Nat) (t t' : TypeId) (cs cs' : Array Value) (fr fr' : Nat × Nat) (d d' : TypeDesc)
    (hp : tmps.getD p undef = .pointer (some ⟨g, 0, none⟩)) (hp' : tmps.getD p' undef = .pointer (some ⟨g', 0, none⟩)) (hg : w.heap[g]? = some (.cells cs t fr)) (hg' : w.heap[g']? = some (.cells cs' t' fr'))
    (hu : P.underlying ty = some d) (hd : (match d with | .struct _ | .array _ _ => true | _ => false) = true) (hi : (P.info? ty).map (·.size) = some cs.size)
    (hu' : P.underlying ty' = some d') (hd' : (match d' with | .struct _ | .array _ _ => true | _ => false) = true) (hi' : (P.info? ty').map (·.size) = some cs'.size) :
    (results fn tmps).run P w = .ok (.tuple #[.agg cs, .agg cs']) w := by
  have hq : tmps[p]?.getD undef = .pointer (some ⟨g, 0, none⟩) := by simpa using hp
  have hq' : tmps[p']?.getD undef = .pointer (some ⟨g', 0, none⟩) := by simpa using hp'
  simp [results, h, hq, hq', asAddr, run_loadVar_row w g t ty cs fr d hg hu hd hi, run_loadVar_row w g' t' ty' cs' fr' d' hg' hu' hd' hi']
theorem heap_setCell_other (w : World) (g o k : Nat) (u : Value) (h : k ≠ g) : (w.setCell ⟨g, o, none⟩ u).heap[k]? = w.heap[k]? := by
  simp [World.setCell, Array.getElem?_modify, Ne.symm h]

theorem grown_setRow (w : World) (g : Nat) (cs : Array Value) : w.grownBy (w.setRow g cs) (some g) := ⟨rfl, rfl, rfl, by simp, fun k _ hk => setRow_other w g k _ (fun e => hk (by rw [e]))⟩
/-- A box, then a reader are stored: what lies there. -/
theorem fin_heap {W : World} {q2 q3 : Nat} {cur cs : Array Value} {t t' : TypeId} {u v x y : Value} (h2 : W.heap[q2]? = some (.cells cur t (0, 0))) (h3 : W.heap[q3]? = some (.cells #[u, v] t' (0, 0))) (hne : q2 ≠ q3) :
    (((W.setRow q2 cs).setCell ⟨q3, 0, none⟩ x).setCell ⟨q3, 1, none⟩ y).heap[q2]? = some (.cells cs t (0, 0)) ∧
    (((W.setRow q2 cs).setCell ⟨q3, 0, none⟩ x).setCell ⟨q3, 1, none⟩ y).heap[q3]? = some (.cells #[x, y] t' (0, 0)) := by
  refine ⟨?_, set2 ((setRow_other W q2 q3 cs (Ne.symm hne)).trans h3)⟩
  rw [Below.heap_setCell _ _ _ _ hne, Below.heap_setCell _ _ _ _ hne]
  exact setRow_heap W q2 cur cs t (0, 0) h2
theorem fin_below {w W : World} {q2 q3 : Nat} {cs : Array Value} {x y : Value} (hb : Below w.heap.size w W) (h2 : w.heap.size ≤ q2) (h3 : w.heap.size ≤ q3) :
    Below w.heap.size w (((W.setRow q2 cs).setCell ⟨q3, 0, none⟩ x).setCell ⟨q3, 1, none⟩ y) :=
  ((hb.grown (grown_setRow W q2 cs) hb.size (fun k hk => by cases hk; exact h2)).setCell (p := ⟨q3, 0, none⟩) h3 x).setCell (p := ⟨q3, 1, none⟩) h3 y

end Go.Proofs.Ytdghnfihphlboaa
