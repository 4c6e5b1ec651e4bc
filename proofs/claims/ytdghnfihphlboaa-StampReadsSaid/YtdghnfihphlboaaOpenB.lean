/- Bytes that come in, opened: at most 2^47 - 4096 of them. -/
import Derived.Test.YtdghnfihphlboaaOpen
namespace Go.Proofs.Ytdghnfihphlboaa
open Go.ChangeShapes Go.WideShapes Go.ChangeAt Go.RowKit

section
variable {H : Type} {enc : TypeId × Value → H} {w : World} {base b0 : Nat} {spare : Nat → Bool} {held : Bool}
theorem flat_one (f : Int → Value) (l : List Int) : l.flatMap (fun x => [f x]) = l.map f := by
  induction l with
  | nil => rfl
  | cons x l ih => simp [ih]
theorem bytes_u8 : Try.prog.bytesOf 5 = 1 := by kernel_rfl
set_option maxRecDepth 100000 in
theorem open_bytes {v : Value} {d : DataW H} {p : List MemPlace} (hv : Value.okWide Try.prog w .any b0 36 v) (h : DataW.Trod enc Try.prog w base spare held 36 v d p) (hr : (d.weights Try.prog 36).all (· ≤ reachBytes) = true) :
    ∃ (a : Option Addr) (n c : Nat) (l : List Int), v = .slice a n c ∧ Bs w a n c l ∧ l.length ≤ 140737488351232 ∧ IsBytes l := by
  obtain ⟨a, n, c, rfl⟩ := okWide_slice Try.underlying36 hv
  obtain ⟨fuel, hf⟩ := h
  obtain ⟨a', n', c', l, e, hs, hl, hg, hd⟩ := open_elems Try.underlying36 cells_u8 (by decide) (fun x : Int => [.int .u8 x]) (fun x => 0 ≤ x ∧ x < 256) (fun _ _ => rfl) (fun n c y hy => by
    obtain ⟨z, e, _, hw⟩ := DataW.trod_int Try.underlying5 hy
    exact ⟨z, wf_u8 hw, e⟩) hf
  simp only [Value.cells, List.cons.injEq, Value.slice.injEq, and_true] at e
  obtain ⟨rfl, rfl, rfl⟩ := e
  rw [flat_one] at hs
  refine ⟨a, n, c, l, rfl, hs, ?_, hg⟩
  rcases hd with ⟨rfl, _⟩ | ⟨el, re, hd, hel⟩
  · have := hs.nil rfl
    have := hs.le
    omega
  · simp only at hd
    subst hd
    have h1 := List.all_eq_true.1 hr ((el.length + re.length) * Try.prog.bytesOf 5) (by
      rw [DataW.weights, Try.underlying36]
      exact List.mem_cons_self)
    simp only [decide_eq_true_eq, bytes_u8, reachBytes] at h1
    omega
end

end Go.Proofs.Ytdghnfihphlboaa
