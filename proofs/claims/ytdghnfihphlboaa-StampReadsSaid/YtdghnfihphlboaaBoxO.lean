/- An operation in a block of its own: it is stored as a whole. -/
import Derived.Test.YtdghnfihphlboaaBoxW
namespace Go.Proofs.Ytdghnfihphlboaa
open Go.RowKit

theorem ones_op (o : OpL) (a : Option Addr) (n c : Nat) : ones (opC o (.slice a n c)) = true := by
  unfold ones
  rw [Array.all_eq_true_iff_forall_mem]
  intro v hv
  exact opC_one o (.slice a n c) rfl v (by simpa using hv)
def storeBoxO (p v : Value) : Sem Unit := Instr.storeAt 33 p v
@[go_sem ↓ high] theorem storeAt_boxO (p v : Value) : Instr.storeAt 33 p v = storeBoxO p v := rfl
@[go_sem] theorem run_store_op (w : World) (g : Nat) (cs : Array Value) (h : isBoxW w g 33 41 = true) (hn : cs.size = 41) (h1 : ones cs = true) :
    (storeBoxO (.pointer (some ⟨g, 0, none⟩)) (.agg cs)).run Try.prog w = .ok () (w.setRow g cs) := by
  obtain ⟨hb, h2⟩ := of_boxW h
  have hst := run_storeCells_at Try.prog g 0 33 cs.toList 0 (boxAt w g) w hb (by simp; omega) (fun v hv => by
    unfold ones at h1
    rw [Array.all_eq_true_iff_forall_mem] at h1
    exact h1 v (by simpa using hv))
  have hp := put_whole (boxAt w g) cs (by omega)
  unfold put at hp
  cases hq : Try.prog.info? 33 with
  | none => have := info_op; simp [hq] at this
  | some i =>
    have hs : i.size = cs.size := by have := info_op; simp [hq] at this; omega
    simp only [Nat.add_zero, Array.length_toList, List.take_zero, List.nil_append] at hst hp
    simp only [Nat.zero_add] at hp
    have hrun : (storeVar 33 ⟨g, 0, none⟩ (.agg cs)).run Try.prog w = .ok () (w.setRow g cs) := by
      simp [storeVar, Value.cells, sizeOf, typeInfo, hq, hs, hst, hp]
    simp only [storeBoxO, Instr.storeAt, Instr.sureAddr, Sem.run_bind, Sem.run_pure, Result.andThen_ok, hrun]
@[go_sem] theorem isBox_drew (w : World) (g : Nat) (t : TypeId) (n : Nat) : isBox w.drew g t n = isBox w g t n := rfl

end Go.Proofs.Ytdghnfihphlboaa
