/- A letter that comes in: how long its slices may be; bytes that come in. -/
import Derived.Test.YtfjbmgfkfeehnaaOpen
namespace Go.Proofs.Ytfjbmgfkfeehnaa
open Go.ChangeShapes Go.WideShapes Go.ChangeAt Go.RowKit

section
variable {H : Type} {enc : TypeId × Value → H} {w : World} {base b0 : Nat} {spare : Nat → Bool} {held : Bool}
theorem weights_mem {P : Program} : ∀ (ts : List TypeId) (ds : List (DataW H)) (i : Nat) (t : TypeId) (d : DataW H), ts[i]? = some t → ds[i]? = some d → (DataW.weightsEach P ts ds).all (· ≤ reachBytes) = true → (d.weights P t).all (· ≤ reachBytes) = true
  | [], _, i, _, _, h, _, _ => by simp at h
  | _ :: _, [], i, _, _, _, h, _ => by simp at h
  | t' :: ts, d' :: ds, 0, t, d, h, h', hw => by
    simp only [List.getElem?_cons_zero, Option.some.injEq] at h h'
    subst h
    subst h'
    rw [DataW.weightsEach, List.all_append, Bool.and_eq_true] at hw
    exact hw.1
  | t' :: ts, d' :: ds, i + 1, t, d, h, h', hw => by
    rw [DataW.weightsEach, List.all_append, Bool.and_eq_true] at hw
    exact weights_mem ts ds i t d (by simpa using h) (by simpa using h') hw.2
theorem slice_room {P : Program} {t e : TypeId} {k fuel : Nat} {cs : List Value} {x : DataW H × List MemPlace} (ht : P.underlying t = some (.slice e)) (hk : P.bytesOf e = k)
    (h : DataW.trod enc P w base spare held fuel t cs = some x) (hw : (x.1.weights P t).all (· ≤ reachBytes) = true) : ∃ (a : Option Addr) (n c : Nat), cs = [.slice a n c] ∧ n * k ≤ 140737488351232 := by
  rcases DataW.trod_slice ht h with ⟨rfl, rfl⟩ | ⟨a, len, cap, elems, rest, n, _, rfl, rfl, hb, hl, hm, hlen, hel, hsp, hns⟩
  · exact ⟨none, 0, 0, rfl, by omega⟩
  · refine ⟨some a, len, cap, rfl, ?_⟩
    simp only at hw
    rw [DataW.weights, ht] at hw
    rw [List.all_cons, Bool.and_eq_true] at hw
    have h1 := of_decide_eq_true hw.1
    simp only [List.length_map, hk, reachBytes] at h1
    rw [Nat.add_mul, hlen] at h1
    omega
theorem bytes_rf : Try.prog.bytesOf 52 = 48 := by kernel_rfl
theorem bytes_id : Try.prog.bytesOf 25 = 32 := by kernel_rfl
theorem bytes_u8 : Try.prog.bytesOf 5 = 1 := by kernel_rfl
set_option maxRecDepth 100000 in
theorem let_room {fuel : Nat} {l : LetL} {s : LS} {x : DataW H × List MemPlace} (h : DataW.trod enc Try.prog w base spare held fuel 28 (letC l s).toList = some x) (hw : (x.1.weights Try.prog 28).all (· ≤ reachBytes) = true) :
    s.rn * 48 ≤ 140737488355328 ∧ s.wn * 32 ≤ 140737488355328 ∧ s.hn * 32 ≤ 140737488355328 := by
  obtain ⟨xs, n, _, rfl, hl, hx, hf⟩ := DataW.trod_struct Try.underlying28 h
  rw [DataW.weights, Try.underlying28] at hw
  simp only at hw
  have get : ∀ (i : Nat) (t e : TypeId) (k o : Nat), (Try.prog.fieldsOf 28)[i]?.map (fun f => (f.type, f.offset)) = some (t, o) → Try.prog.underlying t = some (.slice e) → Try.prog.bytesOf e = k → Try.prog.cellsOf t = 1 → ∃ (a : Option Addr) (n c : Nat), ((letC l s).toList.drop o).take 1 = [.slice a n c] ∧ n * k ≤ 140737488351232 := by
    intro i t e k o hi ht hk hc
    rw [show Try.prog.fieldsOf 28 = _ from by unfold Program.fieldsOf; rw [Try.underlying28]] at hi
    simp only at hi
    cases hfi : (_ : Array Field)[i]? with
    | none => rw [hfi] at hi; cases hi
    | some f =>
      rw [hfi] at hi
      simp only [Option.map_some, Option.some.injEq, Prod.mk.injEq] at hi
      obtain ⟨rfl, rfl⟩ := hi
      have h1 := hf i f hfi
      have hlt := (Array.getElem?_eq_some_iff.1 hfi).1
      rw [List.getElem?_eq_getElem (by omega), hc] at h1
      refine slice_room ht hk h1 (weights_mem _ _ i f.type _ ?_ ?_ hw)
      · rw [List.getElem?_map, Array.getElem?_toList, hfi]
        rfl
      · rw [List.getElem?_map, List.getElem?_eq_getElem (by omega)]
        rfl
  obtain ⟨a1, n1, c1, e1, g1⟩ := get 4 22 52 48 4 (by kernel_rfl) Try.underlying22 bytes_rf cells_rfs
  obtain ⟨a2, n2, c2, e2, g2⟩ := get 5 23 25 32 5 (by kernel_rfl) Try.underlying23 bytes_id cells_ids
  obtain ⟨a3, n3, c3, e3, g3⟩ := get 6 23 25 32 6 (by kernel_rfl) Try.underlying23 bytes_id cells_ids
  have q1 : [Value.slice s.ra s.rn s.rc] = [.slice a1 n1 c1] := e1
  have q2 : [Value.slice s.wa s.wn s.wc] = [.slice a2 n2 c2] := e2
  have q3 : [Value.slice s.ha s.hn s.hc] = [.slice a3 n3 c3] := e3
  simp only [List.cons.injEq, Value.slice.injEq, and_true] at q1 q2 q3
  obtain ⟨_, rfl, _⟩ := q1
  obtain ⟨_, rfl, _⟩ := q2
  obtain ⟨_, rfl, _⟩ := q3
  omega
set_option maxRecDepth 100000 in
theorem open_letS {v : Value} {d : DataW H} {p : List MemPlace} (hv : Value.okWide Try.prog w .any b0 28 v) (h : DataW.Trod enc Try.prog w base spare held 28 v d p) (hr : (d.weights Try.prog 28).all (· ≤ reachBytes) = true) :
    ∃ (l : LetL) (s : LS), v = .agg (letC l s) ∧ LetA w l s ∧ s.rn * 48 ≤ 140737488355328 ∧ s.wn * 32 ≤ 140737488355328 ∧ s.hn * 32 ≤ 140737488355328 := by
  obtain ⟨l, s, rfl, hA, _⟩ := open_let hv h
  obtain ⟨fuel, hf⟩ := h
  exact ⟨l, s, rfl, hA, let_room hf hr⟩
set_option maxRecDepth 100000 in
theorem open_bytes {v : Value} {d : DataW H} {p : List MemPlace} (hv : Value.okWide Try.prog w .any b0 26 v) (h : DataW.Trod enc Try.prog w base spare held 26 v d p) :
    ∃ (a : Option Addr) (n c : Nat) (l : List Int), v = .slice a n c ∧ Bs w a n c l ∧ IsBytes l := by
  obtain ⟨a, n, c, rfl⟩ := okWide_slice Try.underlying26 hv
  obtain ⟨fuel, hf⟩ := h
  obtain ⟨a', n', c', l, e, hs, hb⟩ := open_bs_cells hf
  simp only [Value.cells, List.cons.injEq, Value.slice.injEq, and_true] at e
  obtain ⟨rfl, rfl, rfl⟩ := e
  exact ⟨a, n, c, l, rfl, hs, hb⟩
end

end Go.Proofs.Ytfjbmgfkfeehnaa
