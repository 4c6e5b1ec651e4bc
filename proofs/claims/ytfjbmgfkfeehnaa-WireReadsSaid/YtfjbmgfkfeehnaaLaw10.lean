/- For all bytes b, WireReads returns true: they are a letter, or none, as the document says, and the same letter. There is no condition. -/
import Derived.Test.YtfjbmgfkfeehnaaReads
import Derived.Test.YtfjbmgfkfeehnaaOpenL
namespace Go.Proofs.Ytfjbmgfkfeehnaa
open Go.RowKit

set_option maxRecDepth 100000 in
theorem wireReads_lifted (os : Os) (started : os.Started) (H : Type) (enc : TypeId × Value → H) :
    ReturnsInHanded {} Try.checked os 4 .any (Rows.wireReadsSpec.pre6 enc Try.prog Try.f4 [] false) (Rows.wireReadsSpec.post enc Try.prog Try.f4 false true false false) :=
  lift_law started Try.func4 (by kernel_rfl) (by kernel_rfl) rfl (by kernel_rfl)
      (fun ds h => by
        match ds, h with
        | [d1], _ => rfl)
      (ChangeSpec.witness6 (enc := enc) (C := Try.checked) false ⟨#[], #[.slice none 0 0], []⟩ 8 (by kernel_rfl) (by kernel_rfl) (by kernel_rfl) (by kernel_rfl))
      (fun W base args ds p h => by
        rw [show Try.f4.params.toList = [26] from by rw [Try.params4]] at h
        obtain ⟨v0, vs0, d0, ds0, p0, q0, e0, rfl, o0, t0, r0, h⟩ := h.cons
        obtain rfl := h.nil
        obtain rfl : args = #[v0] := by cases args; simp_all
        obtain ⟨x, n, c, l, rfl, hbs, hby⟩ := open_bytes o0 t0
        exact reads_any x n c l W hbs hby)

set_option maxRecDepth 100000 in
theorem WireReads_holds : Rows.WireReadsSaid :=
  OpenClaim.holds_of_wide 4 Try.f4 rfl rfl rfl rfl rfl rfl rfl ⟨rfl, rfl, rfl, rfl, rfl⟩ rfl rfl rfl rfl rfl (by kernel_rfl) Try.func4 (by kernel_rfl)
    (of_decide_eq_true (by kernel_rfl)) (by unfold Func.isWrapper; first | (rw [if_pos (by decide +kernel)]; kernel_rfl) | (rw [if_neg (by decide +kernel)]; exact ⟨rfl, rfl⟩))
    (fun os started H enc _ => wireReads_lifted os started H enc)
#print axioms WireReads_holds

end Go.Proofs.Ytfjbmgfkfeehnaa
