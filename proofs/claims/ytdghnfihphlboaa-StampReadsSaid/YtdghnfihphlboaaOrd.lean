/- Stamps stand to each other as said: the walk. -/
import Derived.Test.YtdghnfihphlboaaAliveW
namespace Go.Proofs.Ytdghnfihphlboaa
open Go.RowKit

theorem stCmp_neg (a b : St) : stCmp b a = -stCmp a b := by
  unfold stCmp orZ cmpZ
  grind
theorem name_is {s : ByteArray} {b : Bool} (hs : s.size ≤ 9223372036854775807) (h : nameB s = b) (W : World) (d : Nat) (os : Array Obj) : Calls Try.prog 16 #[.string s] (Sort.grow (redrawn W d) os)
    fun e w'' => e = .returned (.bool b) ∧ ∃ p : Regrown, w'' = Sort.grow (redrawn W p.d) p.os := Calls.regrown_of (h ▸ name_any s _ hs)
theorem rname_is {s : ByteArray} {b : Bool} (hs : s.size ≤ 9223372036854775807) (h : nameB s = b) (W : World) (d : Nat) (os : Array Obj) : Calls Try.prog 17 #[.string s] (Sort.grow (redrawn W d) os)
    fun e w'' => e = .returned (.bool b) ∧ ∃ p : Regrown, w'' = Sort.grow (redrawn W p.d) p.os := Calls.regrown_of (h ▸ rname_any s _ hs)

set_option maxRecDepth 100000 in
set_option maxHeartbeats 4000000 in
theorem orders_any (a b : St) (s : ByteArray) (w : World) (hs : s.size ≤ 9223372036854775807) :
    Calls Try.prog 3 #[.agg #[.int .i64 a.t, .int .i64 a.r], .agg #[.int .i64 b.t, .int .i64 b.r], .string s] w (Ret w (.bool true)) := by
  go_enter Try.func3, Try.ntmps3
  go_wp2_with fail
  go_at_call 11
  refine (alive_any _).mono ?_
  rintro e w1 ⟨rfl, hb1⟩
  dsimp only
  go_wp2_with fail
  have hB : Below w.heap.size w w1 := Below.grow1 (Below.grow1 hb1)
  have c1 := bcell hb1
  have G1 : w1.cell? ⟨w.heap.size, 0, none⟩ = some (.int .i64 a.t) := by rw [c1.1 _ _ (by simp; omega)]; simp [go_sem]
  have G2 : w1.cell? ⟨w.heap.size, 1, none⟩ = some (.int .i64 a.r) := by rw [c1.1 _ _ (by simp; omega)]; simp [go_sem]
  have G3 : w1.cell? ⟨w.heap.size + 1, 0, none⟩ = some (.int .i64 b.t) := by rw [c1.1 _ _ (by simp)]; simp [go_sem]
  have G4 : w1.cell? ⟨w.heap.size + 1, 1, none⟩ = some (.int .i64 b.r) := by rw [c1.1 _ _ (by simp)]; simp [go_sem]
  have k1 := cell_regrown G1
  have k2 := cell_regrown G2
  have k3 := cell_regrown G3
  have k4 := cell_regrown G4
  clear c1 G1 G2 G3 G4
  obtain ⟨z, hz⟩ : ∃ z, stCmp a b = z := ⟨_, rfl⟩
  have C1 := cmp_is hz
  have C2 := rcmp_is hz
  have C3 := cmp_is (s := b) (p := a) (z := -z) (by rw [stCmp_neg, hz])
  have hw : IntKind.i64.wrap (-z) = -z := by
    refine IntWalk.i64_in _ ?_
    rcases stCmp_vals a b with h | h | h <;> rw [hz] at h <;> omega
  obtain ⟨y, hy⟩ : ∃ y, stRight a = y := ⟨_, rfl⟩
  have R1 := right_is hy
  have R2 := rright_is hy
  obtain ⟨x, hx⟩ : ∃ x, nameB s = x := ⟨_, rfl⟩
  have N1 := name_is hs hx
  have N2 := rname_is hs hx
  clear hz hy hx hs hb1
  (refine wp_region_quiet_below (by kernel_rfl) (by kernel_rfl) ?_; (repeat (go_big_quiet_step ((first | with_reducible exact C1 _ _ _ | with_reducible exact C2 _ _ _ | with_reducible exact C3 _ _ _ | with_reducible exact R1 _ _ _ | with_reducible exact R2 _ _ _ | with_reducible exact N1 _ _ _ | with_reducible exact N2 _ _ _)))); refine wpQuiet_nil ?_; intro _ hw'; obtain ⟨⟨dq, osq⟩, hw''⟩ := hw'; subst hw'')
  go_wp2_with fail
  go_ret
  exact Ret.mk rfl (Below.next hB (below_regrown _ _ _))

end Go.Proofs.Ytdghnfihphlboaa
