/- For every letter l and all whole numbers at, more, last, WireTurns returns true: with up to three bits turned its bytes are read as nothing, or as another letter; a proper beginning of them is not read as it. There is no condition. -/
import Derived.Test.YtfjbmgfkfeehnaaTurns
import Derived.Test.YtfjbmgfkfeehnaaOpen
namespace Go.Proofs.Ytfjbmgfkfeehnaa
open Go.RowKit

set_option maxRecDepth 100000 in
theorem wireTurns_lifted (os : Os) (started : os.Started) (H : Type) (enc : TypeId × Value → H) :
    ReturnsInHanded {} Try.checked os 5 .any (Rows.wireTurnsSpec.pre6 enc Try.prog Try.f5 [] false) (Rows.wireTurnsSpec.post enc Try.prog Try.f5 false true false false) :=
  lift_law started Try.func5 (by kernel_rfl) (by kernel_rfl) rfl (by kernel_rfl)
      (fun ds h => by
        match ds, h with
        | [d1, d2, d3, d4], _ => rfl)
      (ChangeSpec.witness6 (enc := enc) (C := Try.checked) false ⟨#[], #[.agg #[.int .i64 0, .int .i64 0, .int .i64 0, .int .i64 0, .slice none 0 0, .slice none 0 0, .slice none 0 0, .int .i64 0, .int .i64 0, .int .u8 0, .int .u8 0, .int .u8 0, .int .u8 0, .int .u8 0, .int .u8 0, .int .u8 0, .int .u8 0, .int .u8 0, .int .u8 0, .int .u8 0, .int .u8 0, .int .u8 0, .int .u8 0, .int .u8 0, .int .u8 0, .int .u8 0, .int .u8 0, .int .u8 0, .int .u8 0, .int .u8 0, .int .u8 0, .int .u8 0, .int .u8 0, .int .u8 0, .int .u8 0, .int .u8 0, .int .u8 0, .int .u8 0, .int .u8 0, .int .u8 0, .int .u8 0, .slice none 0 0], .int .i64 0, .int .i64 0, .int .i64 0], []⟩ 8 (by kernel_rfl) (by kernel_rfl) (by kernel_rfl) (by kernel_rfl))
      (fun W base args ds p h => by
        rw [show Try.f5.params.toList = [28, 3, 3, 3] from by rw [Try.params5]] at h
        obtain ⟨v0, vs0, d0, ds0, p0, q0, e0, rfl, o0, t0, r0, h⟩ := h.cons
        obtain ⟨v1, vs1, d1, ds1, p1, q1, rfl, rfl, o1, t1, r1, h⟩ := h.cons
        obtain ⟨v2, vs2, d2, ds2, p2, q2, rfl, rfl, o2, t2, r2, h⟩ := h.cons
        obtain ⟨v3, vs3, d3, ds3, p3, q3, rfl, rfl, o3, t3, r3, h⟩ := h.cons
        obtain rfl := h.nil
        obtain rfl : args = #[v0, v1, v2, v3] := by cases args; simp_all
        obtain ⟨a, s0, rfl, ha, _⟩ := open_let o0 t0
        obtain ⟨k1, rfl⟩ := Go.WideShapes.okWide_int Try.underlying3 o1
        obtain ⟨k2, rfl⟩ := Go.WideShapes.okWide_int Try.underlying3 o2
        obtain ⟨k3, rfl⟩ := Go.WideShapes.okWide_int Try.underlying3 o3
        exact turns_any a s0 k1 k2 k3 W ha)

set_option maxRecDepth 100000 in
theorem WireTurns_holds : Rows.WireTurnsSaid :=
  OpenClaim.holds_of_wide 5 Try.f5 rfl rfl rfl rfl rfl rfl rfl ⟨rfl, rfl, rfl, rfl, rfl⟩ rfl rfl rfl rfl rfl (by kernel_rfl) Try.func5 (by kernel_rfl)
    (of_decide_eq_true (by kernel_rfl)) (by unfold Func.isWrapper; first | (rw [if_pos (by decide +kernel)]; kernel_rfl) | (rw [if_neg (by decide +kernel)]; exact ⟨rfl, rfl⟩))
    (fun os started H enc _ => wireTurns_lifted os started H enc)
#print axioms WireTurns_holds

end Go.Proofs.Ytfjbmgfkfeehnaa
