/- For all stamps a, b and every text s, StampOrders returns true: Cmp and Right of the program answer as the document does, the other way round with the other sign, and Name tells names as the document does. There is no condition. -/
import Derived.Test.YtdghnfihphlboaaOrd
import Derived.Test.YtdghnfihphlboaaOpen
namespace Go.Proofs.Ytdghnfihphlboaa
open Go.RowKit

set_option maxRecDepth 100000 in
theorem stampOrders_lifted (os : Os) (started : os.Started) (H : Type) (enc : TypeId × Value → H) :
    ReturnsInHanded {} Try.checked os 3 .any (Rows.stampOrdersSpec.pre6 enc Try.prog Try.f3 [] false) (Rows.stampOrdersSpec.post enc Try.prog Try.f3 false true false false) :=
  lift_law started Try.func3 (by kernel_rfl) (by kernel_rfl) rfl (by kernel_rfl)
      (fun ds h => by
        match ds, h with
        | [d1, d2, d3], _ => rfl)
      (ChangeSpec.witness6 (enc := enc) (C := Try.checked) false ⟨#[], #[.agg #[.int .i64 0, .int .i64 0], .agg #[.int .i64 0, .int .i64 0], .string ⟨#[]⟩], []⟩ 8 (by kernel_rfl) (by kernel_rfl) (by kernel_rfl) (by kernel_rfl))
      (fun W base args ds p h => by
        rw [show Try.f3.params.toList = [23, 23, 9] from by rw [Try.params3]] at h
        obtain ⟨v0, vs0, d0, ds0, p0, q0, e0, rfl, o0, t0, r0, h⟩ := h.cons
        obtain ⟨v1, vs1, d1, ds1, p1, q1, rfl, rfl, o1, t1, r1, h⟩ := h.cons
        obtain ⟨v2, vs2, d2, ds2, p2, q2, rfl, rfl, o2, t2, r2, h⟩ := h.cons
        obtain rfl := h.nil
        obtain rfl : args = #[v0, v1, v2] := by cases args; simp_all
        obtain ⟨a, _, rfl⟩ := open_st o0 t0
        obtain ⟨b, _, rfl⟩ := open_st o1 t1
        obtain ⟨s, rfl, hs⟩ := open_str o2 t2
        exact orders_any a b s W hs)

set_option maxRecDepth 100000 in
theorem StampOrders_holds : Rows.StampOrdersSaid :=
  OpenClaim.holds_of_wide 3 Try.f3 rfl rfl rfl rfl rfl rfl rfl ⟨rfl, rfl, rfl, rfl, rfl⟩ rfl rfl rfl rfl rfl (by kernel_rfl) Try.func3 (by kernel_rfl)
    (of_decide_eq_true (by kernel_rfl)) (by unfold Func.isWrapper; first | (rw [if_pos (by decide +kernel)]; kernel_rfl) | (rw [if_neg (by decide +kernel)]; exact ⟨rfl, rfl⟩))
    (fun os started H enc _ => stampOrders_lifted os started H enc)
#print axioms StampOrders_holds

end Go.Proofs.Ytdghnfihphlboaa
