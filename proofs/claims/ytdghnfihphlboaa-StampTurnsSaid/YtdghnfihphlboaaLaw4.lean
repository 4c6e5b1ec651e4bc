/- For all operations a, b and every whole number at, StampTurns returns true: two right operations have the same bytes just if they are the same, and a proper beginning of such bytes is read as no operation. There is no condition. -/
import Derived.Test.YtdghnfihphlboaaTurns
import Derived.Test.YtdghnfihphlboaaOpen
namespace Go.Proofs.Ytdghnfihphlboaa
open Go.RowKit

set_option maxRecDepth 100000 in
theorem stampTurns_lifted (os : Os) (started : os.Started) (H : Type) (enc : TypeId × Value → H) :
    ReturnsInHanded {} Try.checked os 6 .any (Rows.stampTurnsSpec.pre6 enc Try.prog Try.f6 [] false) (Rows.stampTurnsSpec.post enc Try.prog Try.f6 false true false false) :=
  lift_law started Try.func6 (by kernel_rfl) (by kernel_rfl) rfl (by kernel_rfl)
      (fun ds h => by
        match ds, h with
        | [d1, d2, d3], _ => rfl)
      (ChangeSpec.witness6 (enc := enc) (C := Try.checked) false ⟨#[], #[.agg #[.int .i64 0, .int .i64 0, .int .i64 0, .int .i64 0, .int .i64 0, .int .i64 0, .int .i64 0, .string ⟨#[]⟩, .int .u8 0, .int .u8 0, .int .u8 0, .int .u8 0, .int .u8 0, .int .u8 0, .int .u8 0, .int .u8 0, .int .u8 0, .int .u8 0, .int .u8 0, .int .u8 0, .int .u8 0, .int .u8 0, .int .u8 0, .int .u8 0, .int .u8 0, .int .u8 0, .int .u8 0, .int .u8 0, .int .u8 0, .int .u8 0, .int .u8 0, .int .u8 0, .int .u8 0, .int .u8 0, .int .u8 0, .int .u8 0, .int .u8 0, .int .u8 0, .int .u8 0, .int .u8 0, .slice none 0 0], .agg #[.int .i64 0, .int .i64 0, .int .i64 0, .int .i64 0, .int .i64 0, .int .i64 0, .int .i64 0, .string ⟨#[]⟩, .int .u8 0, .int .u8 0, .int .u8 0, .int .u8 0, .int .u8 0, .int .u8 0, .int .u8 0, .int .u8 0, .int .u8 0, .int .u8 0, .int .u8 0, .int .u8 0, .int .u8 0, .int .u8 0, .int .u8 0, .int .u8 0, .int .u8 0, .int .u8 0, .int .u8 0, .int .u8 0, .int .u8 0, .int .u8 0, .int .u8 0, .int .u8 0, .int .u8 0, .int .u8 0, .int .u8 0, .int .u8 0, .int .u8 0, .int .u8 0, .int .u8 0, .int .u8 0, .slice none 0 0], .int .i64 0], []⟩ 8 (by kernel_rfl) (by kernel_rfl) (by kernel_rfl) (by kernel_rfl))
      (fun W base args ds p h => by
        rw [show Try.f6.params.toList = [33, 33, 3] from by rw [Try.params6]] at h
        obtain ⟨v0, vs0, d0, ds0, p0, q0, e0, rfl, o0, t0, r0, h⟩ := h.cons
        obtain ⟨v1, vs1, d1, ds1, p1, q1, rfl, rfl, o1, t1, r1, h⟩ := h.cons
        obtain ⟨v2, vs2, d2, ds2, p2, q2, rfl, rfl, o2, t2, r2, h⟩ := h.cons
        obtain rfl := h.nil
        obtain rfl : args = #[v0, v1, v2] := by cases args; simp_all
        obtain ⟨a, x0, n0, c0, rfl, ha, hok⟩ := open_op o0 t0
        obtain ⟨b, x1, n1, c1, rfl, hb, _⟩ := open_op o1 t1
        obtain ⟨k, rfl⟩ := Go.WideShapes.okWide_int Try.underlying3 o2
        exact turns_any a b x0 n0 c0 x1 n1 c1 k W ha hb hok.2.2.2.2.1)

set_option maxRecDepth 100000 in
theorem StampTurns_holds : Rows.StampTurnsSaid :=
  OpenClaim.holds_of_wide 6 Try.f6 rfl rfl rfl rfl rfl rfl rfl ⟨rfl, rfl, rfl, rfl, rfl⟩ rfl rfl rfl rfl rfl (by kernel_rfl) Try.func6 (by kernel_rfl)
    (of_decide_eq_true (by kernel_rfl)) (by unfold Func.isWrapper; first | (rw [if_pos (by decide +kernel)]; kernel_rfl) | (rw [if_neg (by decide +kernel)]; exact ⟨rfl, rfl⟩))
    (fun os started H enc _ => stampTurns_lifted os started H enc)
#print axioms StampTurns_holds

end Go.Proofs.Ytdghnfihphlboaa
