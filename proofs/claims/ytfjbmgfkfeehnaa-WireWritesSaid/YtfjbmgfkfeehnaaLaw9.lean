/- For all letters a, b, WireWrites returns true: a is right, or not, and has the bytes, as the document says; it is read from them; whether the two are the same is as it says. There is no condition. -/
import Derived.Test.YtfjbmgfkfeehnaaWrites
import Derived.Test.YtfjbmgfkfeehnaaOpenL
namespace Go.Proofs.Ytfjbmgfkfeehnaa
open Go.RowKit

set_option maxRecDepth 100000 in
theorem wireWrites_lifted (os : Os) (started : os.Started) (H : Type) (enc : TypeId × Value → H) :
    ReturnsInHanded {} Try.checked os 3 .any (Rows.wireWritesSpec.pre6 enc Try.prog Try.f3 [] false) (Rows.wireWritesSpec.post enc Try.prog Try.f3 false true false false) :=
  lift_law started Try.func3 (by kernel_rfl) (by kernel_rfl) rfl (by kernel_rfl)
      (fun ds h => by
        match ds, h with
        | [d1, d2], _ => rfl)
      (ChangeSpec.witness6 (enc := enc) (C := Try.checked) false ⟨#[], #[.agg #[.int .i64 0, .int .i64 0, .int .i64 0, .int .i64 0, .slice none 0 0, .slice none 0 0, .slice none 0 0, .int .i64 0, .int .i64 0, .int .u8 0, .int .u8 0, .int .u8 0, .int .u8 0, .int .u8 0, .int .u8 0, .int .u8 0, .int .u8 0, .int .u8 0, .int .u8 0, .int .u8 0, .int .u8 0, .int .u8 0, .int .u8 0, .int .u8 0, .int .u8 0, .int .u8 0, .int .u8 0, .int .u8 0, .int .u8 0, .int .u8 0, .int .u8 0, .int .u8 0, .int .u8 0, .int .u8 0, .int .u8 0, .int .u8 0, .int .u8 0, .int .u8 0, .int .u8 0, .int .u8 0, .int .u8 0, .slice none 0 0], .agg #[.int .i64 0, .int .i64 0, .int .i64 0, .int .i64 0, .slice none 0 0, .slice none 0 0, .slice none 0 0, .int .i64 0, .int .i64 0, .int .u8 0, .int .u8 0, .int .u8 0, .int .u8 0, .int .u8 0, .int .u8 0, .int .u8 0, .int .u8 0, .int .u8 0, .int .u8 0, .int .u8 0, .int .u8 0, .int .u8 0, .int .u8 0, .int .u8 0, .int .u8 0, .int .u8 0, .int .u8 0, .int .u8 0, .int .u8 0, .int .u8 0, .int .u8 0, .int .u8 0, .int .u8 0, .int .u8 0, .int .u8 0, .int .u8 0, .int .u8 0, .int .u8 0, .int .u8 0, .int .u8 0, .int .u8 0, .slice none 0 0]], []⟩ 8 (by kernel_rfl) (by kernel_rfl) (by kernel_rfl) (by kernel_rfl))
      (fun W base args ds p h => by
        rw [show Try.f3.params.toList = [28, 28] from by rw [Try.params3]] at h
        obtain ⟨v0, vs0, d0, ds0, p0, q0, e0, rfl, o0, t0, r0, h⟩ := h.cons
        obtain ⟨v1, vs1, d1, ds1, p1, q1, rfl, rfl, o1, t1, r1, h⟩ := h.cons
        obtain rfl := h.nil
        obtain rfl : args = #[v0, v1] := by cases args; simp_all
        obtain ⟨a, s0, rfl, ha, hz0⟩ := open_letS o0 t0 r0
        obtain ⟨b, s1, rfl, hb, hz1⟩ := open_letS o1 t1 r1
        exact writes_any a b s0 s1 W ha hb hz0 hz1)

set_option maxRecDepth 100000 in
theorem WireWrites_holds : Rows.WireWritesSaid :=
  OpenClaim.holds_of_wide 3 Try.f3 rfl rfl rfl rfl rfl rfl rfl ⟨rfl, rfl, rfl, rfl, rfl⟩ rfl rfl rfl rfl rfl (by kernel_rfl) Try.func3 (by kernel_rfl)
    (of_decide_eq_true (by kernel_rfl)) (by unfold Func.isWrapper; first | (rw [if_pos (by decide +kernel)]; kernel_rfl) | (rw [if_neg (by decide +kernel)]; exact ⟨rfl, rfl⟩))
    (fun os started H enc _ => wireWrites_lifted os started H enc)
#print axioms WireWrites_holds

end Go.Proofs.Ytfjbmgfkfeehnaa
