/- For all stamps a, b, c, StampBounds returns true: each is right just if its time is from 1 to 2^40 and its replica from 1 to 65536, and the order of stamps is total. There is no condition. -/
import Derived.Test.YtdghnfihphlboaaBounds
import Derived.Test.YtdghnfihphlboaaOpen
namespace Go.Proofs.Ytdghnfihphlboaa
open Go.RowKit

set_option maxRecDepth 100000 in
theorem stampBounds_lifted (os : Os) (started : os.Started) (H : Type) (enc : TypeId × Value → H) :
    ReturnsInHanded {} Try.checked os 7 .any (Rows.stampBoundsSpec.pre6 enc Try.prog Try.f7 [] false) (Rows.stampBoundsSpec.post enc Try.prog Try.f7 false true false false) :=
  lift_law started Try.func7 (by kernel_rfl) (by kernel_rfl) rfl (by kernel_rfl)
      (fun ds h => by
        match ds, h with
        | [d1, d2, d3], _ => rfl)
      (ChangeSpec.witness6 (enc := enc) (C := Try.checked) false ⟨#[], #[.agg #[.int .i64 0, .int .i64 0], .agg #[.int .i64 0, .int .i64 0], .agg #[.int .i64 0, .int .i64 0]], []⟩ 8 (by kernel_rfl) (by kernel_rfl) (by kernel_rfl) (by kernel_rfl))
      (fun W base args ds p h => by
        rw [show Try.f7.params.toList = [23, 23, 23] from by rw [Try.params7]] at h
        obtain ⟨v0, vs0, d0, ds0, p0, q0, e0, rfl, o0, t0, r0, h⟩ := h.cons
        obtain ⟨v1, vs1, d1, ds1, p1, q1, rfl, rfl, o1, t1, r1, h⟩ := h.cons
        obtain ⟨v2, vs2, d2, ds2, p2, q2, rfl, rfl, o2, t2, r2, h⟩ := h.cons
        obtain rfl := h.nil
        obtain rfl : args = #[v0, v1, v2] := by cases args; simp_all
        obtain ⟨a, _, rfl⟩ := open_st o0 t0
        obtain ⟨b, _, rfl⟩ := open_st o1 t1
        obtain ⟨c, _, rfl⟩ := open_st o2 t2
        exact bounds_any a b c W)

set_option maxRecDepth 100000 in
theorem StampBounds_holds : Rows.StampBoundsSaid :=
  OpenClaim.holds_of_wide 7 Try.f7 rfl rfl rfl rfl rfl rfl rfl ⟨rfl, rfl, rfl, rfl, rfl⟩ rfl rfl rfl rfl rfl (by kernel_rfl) Try.func7 (by kernel_rfl)
    (of_decide_eq_true (by kernel_rfl)) (by unfold Func.isWrapper; first | (rw [if_pos (by decide +kernel)]; kernel_rfl) | (rw [if_neg (by decide +kernel)]; exact ⟨rfl, rfl⟩))
    (fun os started H enc _ => stampBounds_lifted os started H enc)
#print axioms StampBounds_holds

end Go.Proofs.Ytdghnfihphlboaa
