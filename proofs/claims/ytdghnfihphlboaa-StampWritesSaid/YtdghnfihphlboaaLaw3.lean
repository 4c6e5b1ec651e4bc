/- For all bytes b and every operation o, StampWrites returns true: Put answers as the document does behind what was there, and what a right operation is written as is read as it. There is no condition. -/
import Derived.Test.YtdghnfihphlboaaWrites
import Derived.Test.YtdghnfihphlboaaOpenB
namespace Go.Proofs.Ytdghnfihphlboaa
open Go.RowKit

set_option maxRecDepth 100000 in
theorem stampWrites_lifted (os : Os) (started : os.Started) (H : Type) (enc : TypeId × Value → H) :
    ReturnsInHanded {} Try.checked os 5 .any (Rows.stampWritesSpec.pre6 enc Try.prog Try.f5 [] false) (Rows.stampWritesSpec.post enc Try.prog Try.f5 false true false false) :=
  lift_law started Try.func5 (by kernel_rfl) (by kernel_rfl) rfl (by kernel_rfl)
      (fun ds h => by
        match ds, h with
        | [d1, d2], _ => rfl)
      (ChangeSpec.witness6 (enc := enc) (C := Try.checked) false ⟨#[], #[.slice none 0 0, .agg #[.int .i64 0, .int .i64 0, .int .i64 0, .int .i64 0, .int .i64 0, .int .i64 0, .int .i64 0, .string ⟨#[]⟩, .int .u8 0, .int .u8 0, .int .u8 0, .int .u8 0, .int .u8 0, .int .u8 0, .int .u8 0, .int .u8 0, .int .u8 0, .int .u8 0, .int .u8 0, .int .u8 0, .int .u8 0, .int .u8 0, .int .u8 0, .int .u8 0, .int .u8 0, .int .u8 0, .int .u8 0, .int .u8 0, .int .u8 0, .int .u8 0, .int .u8 0, .int .u8 0, .int .u8 0, .int .u8 0, .int .u8 0, .int .u8 0, .int .u8 0, .int .u8 0, .int .u8 0, .int .u8 0, .slice none 0 0]], []⟩ 8 (by kernel_rfl) (by kernel_rfl) (by kernel_rfl) (by kernel_rfl))
      (fun W base args ds p h => by
        rw [show Try.f5.params.toList = [36, 33] from by rw [Try.params5]] at h
        obtain ⟨v0, vs0, d0, ds0, p0, q0, e0, rfl, o0, t0, r0, h⟩ := h.cons
        obtain ⟨v1, vs1, d1, ds1, p1, q1, rfl, rfl, o1, t1, r1, h⟩ := h.cons
        obtain rfl := h.nil
        obtain rfl : args = #[v0, v1] := by cases args; simp_all
        obtain ⟨x, n, c, l, rfl, hbs, hl, _⟩ := open_bytes o0 t0 r0
        obtain ⟨o, x1, n1, c1, rfl, ho, hok⟩ := open_op o1 t1
        exact writes_any x n c l o x1 n1 c1 W hbs hl ho hok.2.2.2.2.1)

set_option maxRecDepth 100000 in
theorem StampWrites_holds : Rows.StampWritesSaid :=
  OpenClaim.holds_of_wide 5 Try.f5 rfl rfl rfl rfl rfl rfl rfl ⟨rfl, rfl, rfl, rfl, rfl⟩ rfl rfl rfl rfl rfl (by kernel_rfl) Try.func5 (by kernel_rfl)
    (of_decide_eq_true (by kernel_rfl)) (by unfold Func.isWrapper; first | (rw [if_pos (by decide +kernel)]; kernel_rfl) | (rw [if_neg (by decide +kernel)]; exact ⟨rfl, rfl⟩))
    (fun os started H enc _ => stampWrites_lifted os started H enc)
#print axioms StampWrites_holds

end Go.Proofs.Ytdghnfihphlboaa
