/- For all letters a, b, WireOne returns true: two right letters have the same bytes just if they are the same; one with a field that its kind does not name is refused. There is no condition. -/
import Derived.Test.YtfjbmgfkfeehnaaOne
import Derived.Test.YtfjbmgfkfeehnaaOpen
namespace Go.Proofs.Ytfjbmgfkfeehnaa
open Go.RowKit

set_option maxRecDepth 100000 in
theorem wireOne_lifted (os : Os) (started : os.Started) (H : Type) (enc : TypeId × Value → H) :
    ReturnsInHanded {} Try.checked os 7 .any (Rows.wireOneSpec.pre6 enc Try.prog Try.f7 [] false) (Rows.wireOneSpec.post enc Try.prog Try.f7 false true false false) :=
  lift_law started Try.func7 (by kernel_rfl) (by kernel_rfl) rfl (by kernel_rfl)
      (fun ds h => by
        match ds, h with
        | [d1, d2], _ => rfl)
      (ChangeSpec.witness6 (enc := enc) (C := Try.checked) false ⟨#[], #[.agg #[.int .i64 0, .int .i64 0, .int .i64 0, .int .i64 0, .slice none 0 0, .slice none 0 0, .slice none 0 0, .int .i64 0, .int .i64 0, .int .u8 0, .int .u8 0, .int .u8 0, .int .u8 0, .int .u8 0, .int .u8 0, .int .u8 0, .int .u8 0, .int .u8 0, .int .u8 0, .int .u8 0, .int .u8 0, .int .u8 0, .int .u8 0, .int .u8 0, .int .u8 0, .int .u8 0, .int .u8 0, .int .u8 0, .int .u8 0, .int .u8 0, .int .u8 0, .int .u8 0, .int .u8 0, .int .u8 0, .int .u8 0, .int .u8 0, .int .u8 0, .int .u8 0, .int .u8 0, .int .u8 0, .int .u8 0, .slice none 0 0], .agg #[.int .i64 0, .int .i64 0, .int .i64 0, .int .i64 0, .slice none 0 0, .slice none 0 0, .slice none 0 0, .int .i64 0, .int .i64 0, .int .u8 0, .int .u8 0, .int .u8 0, .int .u8 0, .int .u8 0, .int .u8 0, .int .u8 0, .int .u8 0, .int .u8 0, .int .u8 0, .int .u8 0, .int .u8 0, .int .u8 0, .int .u8 0, .int .u8 0, .int .u8 0, .int .u8 0, .int .u8 0, .int .u8 0, .int .u8 0, .int .u8 0, .int .u8 0, .int .u8 0, .int .u8 0, .int .u8 0, .int .u8 0, .int .u8 0, .int .u8 0, .int .u8 0, .int .u8 0, .int .u8 0, .int .u8 0, .slice none 0 0]], []⟩ 8 (by kernel_rfl) (by kernel_rfl) (by kernel_rfl) (by kernel_rfl))
      (fun W base args ds p h => by
        rw [show Try.f7.params.toList = [28, 28] from by rw [Try.params7]] at h
        obtain ⟨v0, vs0, d0, ds0, p0, q0, e0, rfl, o0, t0, r0, h⟩ := h.cons
        obtain ⟨v1, vs1, d1, ds1, p1, q1, rfl, rfl, o1, t1, r1, h⟩ := h.cons
        obtain rfl := h.nil
        obtain rfl : args = #[v0, v1] := by cases args; simp_all
        obtain ⟨a, s0, rfl, ha, _⟩ := open_let o0 t0
        obtain ⟨b, s1, rfl, hb, _⟩ := open_let o1 t1
        exact one_any a b s0 s1 W ha hb)

set_option maxRecDepth 100000 in
theorem WireOne_holds : Rows.WireOneSaid :=
  OpenClaim.holds_of_wide 7 Try.f7 rfl rfl rfl rfl rfl rfl rfl ⟨rfl, rfl, rfl, rfl, rfl⟩ rfl rfl rfl rfl rfl (by kernel_rfl) Try.func7 (by kernel_rfl)
    (of_decide_eq_true (by kernel_rfl)) (by unfold Func.isWrapper; first | (rw [if_pos (by decide +kernel)]; kernel_rfl) | (rw [if_neg (by decide +kernel)]; exact ⟨rfl, rfl⟩))
    (fun os started H enc _ => wireOne_lifted os started H enc)
#print axioms WireOne_holds

end Go.Proofs.Ytfjbmgfkfeehnaa
