/- For all bytes b, StampReads returns true: up to fifty operations, one behind the other, are read as the document reads them, and the reader stands where the document says. There is no condition. -/
import Derived.Test.YtdghnfihphlboaaReads
import Derived.Test.YtdghnfihphlboaaOpenB
namespace Go.Proofs.Ytdghnfihphlboaa
open Go.RowKit

set_option maxRecDepth 100000 in
theorem stampReads_lifted (os : Os) (started : os.Started) (H : Type) (enc : TypeId × Value → H) :
    ReturnsInHanded {} Try.checked os 8 .any (Rows.stampReadsSpec.pre6 enc Try.prog Try.f8 [] false) (Rows.stampReadsSpec.post enc Try.prog Try.f8 false true false false) :=
  lift_law started Try.func8 (by kernel_rfl) (by kernel_rfl) rfl (by kernel_rfl)
      (fun ds h => by
        match ds, h with
        | [d1], _ => rfl)
      (ChangeSpec.witness6 (enc := enc) (C := Try.checked) false ⟨#[], #[.slice none 0 0], []⟩ 8 (by kernel_rfl) (by kernel_rfl) (by kernel_rfl) (by kernel_rfl))
      (fun W base args ds p h => by
        rw [show Try.f8.params.toList = [36] from by rw [Try.params8]] at h
        obtain ⟨v0, vs0, d0, ds0, p0, q0, e0, rfl, o0, t0, r0, h⟩ := h.cons
        obtain rfl := h.nil
        obtain rfl : args = #[v0] := by cases args; simp_all
        obtain ⟨x, n, c, l, rfl, hbs, hl, hby⟩ := open_bytes o0 t0 r0
        exact reads_any x n c l W hbs hl hby)

set_option maxRecDepth 100000 in
theorem StampReads_holds : Rows.StampReadsSaid :=
  OpenClaim.holds_of_wide 8 Try.f8 rfl rfl rfl rfl rfl rfl rfl ⟨rfl, rfl, rfl, rfl, rfl⟩ rfl rfl rfl rfl rfl (by kernel_rfl) Try.func8 (by kernel_rfl)
    (of_decide_eq_true (by kernel_rfl)) (by unfold Func.isWrapper; first | (rw [if_pos (by decide +kernel)]; kernel_rfl) | (rw [if_neg (by decide +kernel)]; exact ⟨rfl, rfl⟩))
    (fun os started H enc _ => stampReads_lifted os started H enc)
#print axioms StampReads_holds

end Go.Proofs.Ytdghnfihphlboaa
