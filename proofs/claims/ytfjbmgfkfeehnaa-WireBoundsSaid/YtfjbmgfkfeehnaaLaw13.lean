/- For all whole numbers n, kind, WireBounds returns true: a Part may have as many bytes as is said, a Want as many IDs, a Tell as many branches; one more is refused. There is no condition. -/
import Derived.Test.YtfjbmgfkfeehnaaBoundsW
import Derived.Test.YtfjbmgfkfeehnaaOpen
namespace Go.Proofs.Ytfjbmgfkfeehnaa
open Go.RowKit

set_option maxRecDepth 100000 in
theorem wireBounds_lifted (os : Os) (started : os.Started) (H : Type) (enc : TypeId × Value → H) :
    ReturnsInHanded {} Try.checked os 6 .any (Rows.wireBoundsSpec.pre6 enc Try.prog Try.f6 [] false) (Rows.wireBoundsSpec.post enc Try.prog Try.f6 false true false false) :=
  lift_law started Try.func6 (by kernel_rfl) (by kernel_rfl) rfl (by kernel_rfl)
      (fun ds h => by
        match ds, h with
        | [d1, d2], _ => rfl)
      (ChangeSpec.witness6 (enc := enc) (C := Try.checked) false ⟨#[], #[.int .i64 0, .int .i64 0], []⟩ 8 (by kernel_rfl) (by kernel_rfl) (by kernel_rfl) (by kernel_rfl))
      (fun W base args ds p h => by
        rw [show Try.f6.params.toList = [3, 3] from by rw [Try.params6]] at h
        obtain ⟨v0, vs0, d0, ds0, p0, q0, e0, rfl, o0, t0, r0, h⟩ := h.cons
        obtain ⟨v1, vs1, d1, ds1, p1, q1, rfl, rfl, o1, t1, r1, h⟩ := h.cons
        obtain rfl := h.nil
        obtain rfl : args = #[v0, v1] := by cases args; simp_all
        obtain ⟨k0, rfl⟩ := Go.WideShapes.okWide_int Try.underlying3 o0
        obtain ⟨k1, rfl⟩ := Go.WideShapes.okWide_int Try.underlying3 o1
        exact bounds_any k0 k1 W)

set_option maxRecDepth 100000 in
theorem WireBounds_holds : Rows.WireBoundsSaid :=
  OpenClaim.holds_of_wide 6 Try.f6 rfl rfl rfl rfl rfl rfl rfl ⟨rfl, rfl, rfl, rfl, rfl⟩ rfl rfl rfl rfl rfl (by kernel_rfl) Try.func6 (by kernel_rfl)
    (of_decide_eq_true (by kernel_rfl)) (by unfold Func.isWrapper; first | (rw [if_pos (by decide +kernel)]; kernel_rfl) | (rw [if_neg (by decide +kernel)]; exact ⟨rfl, rfl⟩))
    (fun os started H enc _ => wireBounds_lifted os started H enc)
#print axioms WireBounds_holds

end Go.Proofs.Ytfjbmgfkfeehnaa
