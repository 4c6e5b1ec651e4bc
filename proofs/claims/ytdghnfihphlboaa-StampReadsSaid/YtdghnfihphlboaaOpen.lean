/- Arguments opened: numbers, texts, bytes, stamps, operations. -/
import Derived.Test.YtdghnfihphlboaaFrame
namespace Go.Proofs.Ytdghnfihphlboaa
open Go.ChangeShapes Go.WideShapes Go.ChangeAt Go.RowKit
open Go.ChangeMaps (open_string shut_string)

theorem Args.cons {P : Program} {H : Type} {enc : TypeId × Value → H} {W : World} {base : Nat} {t : TypeId} {ts : List TypeId} {vs : List Value} {ds : List (DataW H)} {p : List MemPlace} (h : Args P enc W base (t :: ts) vs ds p) :
    ∃ v vs' d ds' p0 p1, vs = v :: vs' ∧ ds = d :: ds' ∧ Value.okWide P W .any base t v ∧ DataW.Trod enc P W 0 (fun _ => true) true t v d p0 ∧ (d.weights P t).all (· ≤ reachBytes) = true ∧
      Args P enc W base ts vs' ds' p1 := by
  obtain ⟨h1, h2, h3⟩ := h
  cases vs with
  | nil => exact h2.elim
  | cons v vs =>
    cases ds with
    | nil => exact h2.elim
    | cons d ds =>
      obtain ⟨p0, p1, h4, h5, _⟩ := h2
      rw [DataW.weightsEach, List.all_append, Bool.and_eq_true] at h3
      exact ⟨v, vs, d, ds, p0, p1, rfl, rfl, h1 0 t v rfl rfl, h4, h3.1, ⟨fun j t' v' a b => h1 (j + 1) t' v' a b, h5, h3.2⟩⟩
theorem Args.nil {P : Program} {H : Type} {enc : TypeId × Value → H} {W : World} {base : Nat} {vs : List Value} {ds : List (DataW H)} {p : List MemPlace} (h : Args P enc W base [] vs ds p) : vs = [] := by
  obtain ⟨h1, h2, h3⟩ := h
  cases vs with
  | nil => rfl
  | cons v vs => cases ds <;> exact h2.elim

section
variable {P : Program} {H : Type} {enc : TypeId × Value → H} {w : World} {base : Nat} {spare : Nat → Bool} {held : Bool}
theorem flat_get {α : Type} (f : α → List Value) (k : Nat) : ∀ (xs : List α), (∀ x ∈ xs, (f x).length = k) → ∀ i r, r < k → (hi : i < xs.length) → (xs.flatMap f)[i * k + r]? = (f xs[i])[r]?
  | [], _, i, _, _, hi => by simp at hi
  | x :: xs, hk, 0, r, hr, _ => by
    have := hk x (by simp)
    rw [List.flatMap_cons, Nat.zero_mul, Nat.zero_add, List.getElem?_append_left (by omega)]
    rfl
  | x :: xs, hk, i + 1, r, hr, hi => by
    have := hk x (by simp)
    rw [List.flatMap_cons, List.getElem?_append_right (by rw [this, Nat.succ_mul]; omega), this]
    rw [show (i + 1) * k + r - k = i * k + r by rw [Nat.succ_mul]; omega]
    simpa using flat_get f k xs (fun y hy => hk y (by simp [hy])) i r hr (by simpa using hi)

theorem addr_add (b off j : Nat) : (⟨b, off, none⟩ : Addr).add j = ⟨b, off + j, none⟩ := by unfold Addr.add; split <;> simp_all
/-- The cells of a slice's elements, each read by 'f'. -/
theorem open_elems {t e : TypeId} {k fuel : Nat} {cs : List Value} {x : DataW H × List MemPlace} (ht : P.underlying t = some (.slice e)) (hc : P.cellsOf e = k) (hk : 0 < k)
    {α : Type} (f : α → List Value) (good : α → Prop) (hf : ∀ a, good a → (f a).length = k)
    (each : ∀ (n : Nat) (c : List Value) (y : DataW H × List MemPlace), DataW.trod enc P w base spare held n e c = some y → ∃ a, good a ∧ c = f a)
    (h : DataW.trod enc P w base spare held fuel t cs = some x) :
    ∃ (a : Option Addr) (n c : Nat) (xs : List α), cs = [.slice a n c] ∧ Sl w k a n c (xs.flatMap f) ∧ xs.length = n ∧ (∀ y ∈ xs, good y) ∧ (a = none ∧ x.1 = .nil ∨ ∃ el re, x.1 = .slice el re ∧ el.length = n) := by
  rcases DataW.trod_slice ht h with ⟨rfl, rfl⟩ | ⟨a, len, cap, elems, rest, n, _, rfl, rfl, hb, hl, hm, hlen, hel, hsp, hns⟩
  · exact ⟨none, 0, 0, [], rfl, Sl.empty _ _, rfl, by simp, .inl ⟨rfl, rfl⟩⟩
  have pick : ∀ i : Fin len, ∃ y, good y ∧ ∀ j, j < k → w.cell? ((a.add (i.1 * k)).add j) = (f y)[j]? := by
    intro i
    have h1 := hel i.1 i.2
    rw [hc, List.getElem?_eq_getElem (by omega), Option.bind_eq_some_iff] at h1
    obtain ⟨c, hc1, hc2⟩ := h1
    obtain ⟨y, hy, rfl⟩ := each _ _ _ hc2
    exact ⟨y, hy, (World.cells?_some hc1).2.2⟩
  have hpick : ∃ g : Fin len → α, ∀ i, good (g i) ∧ ∀ j, j < k → w.cell? ((a.add (i.1 * k)).add j) = (f (g i))[j]? := ⟨fun i => Classical.choose (pick i), fun i => Classical.choose_spec (pick i)⟩
  obtain ⟨g, hg⟩ := hpick
  have hgood : ∀ y ∈ List.ofFn g, good y := by
    intro y hy
    obtain ⟨i, rfl⟩ := List.mem_ofFn.1 hy
    exact (hg i).1
  refine ⟨some a, len, cap, List.ofFn g, rfl, ⟨?_, hl, hm, (fun h => by cases h), fun h0 => ?_⟩, by simp, hgood, .inr ⟨_, _, rfl, by simpa using hlen⟩⟩
  · have : ∀ l : List α, (∀ y ∈ l, good y) → (l.flatMap f).length = l.length * k := by
      intro l
      induction l with
      | nil => intro _; simp
      | cons y l ih =>
        intro hl
        rw [List.flatMap_cons, List.length_append, hf y (hl y (by simp)), ih (fun z hz => hl z (by simp [hz])), List.length_cons, Nat.succ_mul]
        omega
    simpa using this _ hgood
  · have hsp0 : a.spot = none := by
      have := (hg ⟨0, h0⟩).2 0 hk
      have hlen := hf _ (hg ⟨0, h0⟩).1
      rw [List.getElem?_eq_getElem (by omega)] at this
      simp [Addr.add] at this
      exact World.cell?_spot this
    obtain ⟨b, off, spot⟩ := a
    simp only at hsp0
    subst hsp0
    refine ⟨b, off, rfl, fun j hj => ?_⟩
    obtain ⟨i, r, hi, hr, rfl⟩ : ∃ i r, i < len ∧ r < k ∧ j = i * k + r := ⟨j / k, j % k, by rw [Nat.div_lt_iff_lt_mul hk]; exact hj, Nat.mod_lt _ hk, by rw [Nat.mul_comm]; exact (Nat.div_add_mod j k).symm⟩
    have h1 := (hg ⟨i, hi⟩).2 r hr
    rw [flat_get f k _ (fun y hy => hf y (hgood y hy)) i r hr (by simpa using hi), List.getElem_ofFn]
    rw [← h1]
    rw [addr_add, addr_add, Nat.add_assoc]
theorem trod_field {fs : Array Field} {cs : List Value} {xs : List (DataW H × List MemPlace)} {n : Nat} (hf : ∀ (i : Nat) (f : Field), fs[i]? = some f → DataW.trod enc P w base spare held n f.type ((cs.drop f.offset).take (P.cellsOf f.type)) = xs[i]?)
    (hl : xs.length = fs.size) (i : Nat) (t : TypeId) (o k : Nat) (h : (fs[i]?).map (fun f => (f.type, f.offset)) = some (t, o)) (hk : P.cellsOf t = k) : ∃ y, DataW.trod enc P w base spare held n t ((cs.drop o).take k) = some y := by
  cases hfi : fs[i]? with
  | none => rw [hfi] at h; cases h
  | some f =>
    rw [hfi] at h
    simp only [Option.map_some, Option.some.injEq, Prod.mk.injEq] at h
    obtain ⟨rfl, rfl⟩ := h
    have := hf i f hfi
    have hi : i < fs.size := (Array.getElem?_eq_some_iff.1 hfi).1
    rw [List.getElem?_eq_getElem (by omega), hk] at this
    exact ⟨_, this⟩
end

section
variable {H : Type} {enc : TypeId × Value → H} {w : World} {base b0 : Nat} {spare : Nat → Bool} {held : Bool}
theorem cells_st : Try.prog.cellsOf 23 = 2 := by kernel_rfl
theorem cells_arr : Try.prog.cellsOf 30 = 32 := by kernel_rfl
theorem cells_u8 : Try.prog.cellsOf 5 = 1 := by kernel_rfl
theorem cells_i64 : Try.prog.cellsOf 2 = 1 := by kernel_rfl
theorem cells_int : Try.prog.cellsOf 3 = 1 := by kernel_rfl
theorem cells_str : Try.prog.cellsOf 9 = 1 := by kernel_rfl
theorem cells_sts : Try.prog.cellsOf 31 = 1 := by kernel_rfl
theorem cells_op : Try.prog.cellsOf 33 = 41 := by kernel_rfl

def InI (n : Int) : Prop := -9223372036854775808 ≤ n ∧ n ≤ 9223372036854775807
def St.ok (s : St) : Prop := InI s.t ∧ InI s.r
theorem wf_i64 {n : Int} (h : (Lit.int .i64 n).wf = true) : InI n := by
  simp only [Lit.wf, Bool.and_eq_true, decide_eq_true_eq] at h
  exact h
theorem wf_u8 {n : Int} (h : (Lit.int .u8 n).wf = true) : 0 ≤ n ∧ n < 256 := by
  simp only [Lit.wf, Bool.and_eq_true, decide_eq_true_eq] at h
  have h1 : (0 : Int) ≤ n := h.1
  have h2 : n ≤ 255 := h.2
  omega

set_option maxRecDepth 100000 in
theorem open_st_cells {fuel : Nat} {cs : List Value} {x : DataW H × List MemPlace} (h : DataW.trod enc Try.prog w base spare held fuel 23 cs = some x) : ∃ s : St, s.ok ∧ cs = [.int .i64 s.t, .int .i64 s.r] := by
  obtain ⟨xs, n, _, rfl, hl, hx, hf⟩ := DataW.trod_struct Try.underlying23 h
  rw [cells_st] at hl
  match cs, hl with
  | [c0, c1], _ =>
    obtain ⟨y0, h0⟩ := trod_field hf hx 0 2 0 1 rfl cells_i64
    obtain ⟨y1, h1⟩ := trod_field hf hx 1 3 1 1 rfl cells_int
    obtain ⟨t, e0, _, w0⟩ := DataW.trod_int Try.underlying2 h0
    obtain ⟨r, e1, _, w1⟩ := DataW.trod_int Try.underlying3 h1
    simp at e0 e1
    exact ⟨⟨t, r⟩, ⟨wf_i64 w0, wf_i64 w1⟩, by rw [e0, e1]⟩

set_option maxRecDepth 100000 in
theorem open_st {v : Value} {d : DataW H} {p : List MemPlace} (hv : Value.okWide Try.prog w .any b0 23 v) (h : DataW.Trod enc Try.prog w base spare held 23 v d p) : ∃ s : St, s.ok ∧ v = .agg #[.int .i64 s.t, .int .i64 s.r] := by
  obtain ⟨cs, rfl, _⟩ := okWide_struct Try.underlying23 hv
  obtain ⟨fuel, hf⟩ := h
  obtain ⟨s, hs, e⟩ := open_st_cells hf
  refine ⟨s, hs, ?_⟩
  congr 1
  apply Array.ext'
  simpa [Value.cells] using e

set_option maxRecDepth 100000 in
theorem open_sts_cells {fuel : Nat} {cs : List Value} {x : DataW H × List MemPlace} (h : DataW.trod enc Try.prog w base spare held fuel 31 cs = some x) :
    ∃ (a : Option Addr) (n c : Nat) (l : List St), cs = [.slice a n c] ∧ Sl w 2 a n c (stsC l) ∧ ∀ s ∈ l, s.ok := by
  obtain ⟨a, n, c, l, e, hs, _, hg, _⟩ := open_elems Try.underlying31 cells_st (by decide) (fun s : St => [.int .i64 s.t, .int .i64 s.r]) St.ok (fun _ _ => rfl) (fun n c y hy => open_st_cells hy) h
  exact ⟨a, n, c, l, e, hs, hg⟩
set_option maxRecDepth 100000 in
theorem open_id_cells {fuel : Nat} {cs : List Value} {x : DataW H × List MemPlace} (h : DataW.trod enc Try.prog w base spare held fuel 30 cs = some x) :
    ∃ l : List Int, l.length = 32 ∧ IsBytes l ∧ cs = l.map (Value.int .u8) := by
  obtain ⟨xs, m, _, rfl, hl, hx, hf⟩ := DataW.trod_array Try.underlying30 h
  rw [cells_arr] at hl
  have pick : ∀ i : Fin 32, ∃ n : Int, (0 ≤ n ∧ n < 256) ∧ cs[i.1]? = some (.int .u8 n) := by
    intro i
    have h1 := hf i.1 i.2
    rw [cells_u8, List.getElem?_eq_getElem (by omega)] at h1
    obtain ⟨n, e, _, hw⟩ := DataW.trod_int Try.underlying5 h1
    refine ⟨n, wf_u8 hw, ?_⟩
    have : ((cs.drop (i.1 * 1)).take 1)[0]? = some (.int .u8 n) := by rw [e]; rfl
    rw [List.getElem?_take_of_lt (by omega), List.getElem?_drop, Nat.mul_one, Nat.add_zero] at this
    exact this
  obtain ⟨g, hg⟩ : ∃ g : Fin 32 → Int, ∀ i, (0 ≤ g i ∧ g i < 256) ∧ cs[i.1]? = some (.int .u8 (g i)) := ⟨fun i => Classical.choose (pick i), fun i => Classical.choose_spec (pick i)⟩
  refine ⟨List.ofFn g, by simp, ?_, ?_⟩
  · intro x hx
    obtain ⟨i, rfl⟩ := List.mem_ofFn.1 hx
    exact (hg i).1
  · apply List.ext_getElem?
    intro j
    by_cases hj : j < 32
    · rw [(hg ⟨j, hj⟩).2, List.getElem?_map, List.getElem?_eq_getElem (l := List.ofFn g) (by simpa using hj), List.getElem_ofFn]
      rfl
    · rw [List.getElem?_eq_none (by omega), List.getElem?_eq_none (by simp; omega)]
def OpL.ok (o : OpL) : Prop := InI o.kind ∧ o.at_.ok ∧ o.node.ok ∧ o.parent.ok ∧ IsBytes o.data ∧ ∀ s ∈ o.over, s.ok
set_option maxRecDepth 100000 in
theorem open_op_cells {fuel : Nat} {cs : List Value} {x : DataW H × List MemPlace} (h : DataW.trod enc Try.prog w base spare held fuel 33 cs = some x) :
    ∃ (o : OpL) (a : Option Addr) (n c : Nat), cs = (opC o (.slice a n c)).toList ∧ OpA w o a n c ∧ o.ok := by
  obtain ⟨xs, n, _, rfl, hl, hx, hf⟩ := DataW.trod_struct Try.underlying33 h
  rw [cells_op] at hl
  obtain ⟨y0, h0⟩ := trod_field hf hx 0 3 0 1 rfl cells_int
  obtain ⟨y1, h1⟩ := trod_field hf hx 1 23 1 2 rfl cells_st
  obtain ⟨y2, h2⟩ := trod_field hf hx 2 23 3 2 rfl cells_st
  obtain ⟨y3, h3⟩ := trod_field hf hx 3 23 5 2 rfl cells_st
  obtain ⟨y4, h4⟩ := trod_field hf hx 4 9 7 1 rfl cells_str
  obtain ⟨y5, h5⟩ := trod_field hf hx 5 30 8 32 rfl cells_arr
  obtain ⟨y6, h6⟩ := trod_field hf hx 6 31 40 1 rfl cells_sts
  obtain ⟨k, e0, _, w0⟩ := DataW.trod_int Try.underlying3 h0
  obtain ⟨s1, w1, e1⟩ := open_st_cells h1
  obtain ⟨s2, w2, e2⟩ := open_st_cells h2
  obtain ⟨s3, w3, e3⟩ := open_st_cells h3
  obtain ⟨nm, e4, _, w4⟩ := DataW.trod_string Try.underlying9 h4
  obtain ⟨dt, w5, w5b, e5⟩ := open_id_cells h5
  obtain ⟨a, m, c, ov, e6, w6, w6b⟩ := open_sts_cells h6
  refine ⟨⟨k, s1, s2, s3, nm, dt, ov⟩, a, m, c, ?_, ⟨w6, w5, by unfold maxLen at w4; exact w4⟩, wf_i64 w0, w1, w2, w3, w5b, w6b⟩
  have split : cs = (cs.drop 0).take 1 ++ ((cs.drop 1).take 2 ++ ((cs.drop 3).take 2 ++ ((cs.drop 5).take 2 ++ ((cs.drop 7).take 1 ++ ((cs.drop 8).take 32 ++ (cs.drop 40).take 1))))) := by
    apply List.ext_getElem?
    intro j
    simp only [List.getElem?_append, List.getElem?_take, List.getElem?_drop, List.length_take, List.length_drop, hl]
    grind
  rw [split, e0, e1, e2, e3, e4, e5, e6]
  simp [opC]
set_option maxRecDepth 100000 in
theorem open_op {v : Value} {d : DataW H} {p : List MemPlace} (hv : Value.okWide Try.prog w .any b0 33 v) (h : DataW.Trod enc Try.prog w base spare held 33 v d p) :
    ∃ (o : OpL) (a : Option Addr) (n c : Nat), v = .agg (opC o (.slice a n c)) ∧ OpA w o a n c ∧ o.ok := by
  obtain ⟨cs, rfl, _⟩ := okWide_struct Try.underlying33 hv
  obtain ⟨fuel, hf⟩ := h
  obtain ⟨o, a, n, c, e, h1, h2⟩ := open_op_cells hf
  refine ⟨o, a, n, c, ?_, h1, h2⟩
  congr 1
  apply Array.ext'
  simpa [Value.cells] using e
set_option maxRecDepth 100000 in
theorem open_str {v : Value} {d : DataW H} {p : List MemPlace} (hv : Value.okWide Try.prog w .any b0 9 v) (h : DataW.Trod enc Try.prog w base spare held 9 v d p) : ∃ s : ByteArray, v = .string s ∧ s.size ≤ 9223372036854775807 := by
  obtain ⟨s, rfl, _, _, hs⟩ := open_string Try.underlying9 hv h
  exact ⟨s, rfl, by unfold maxLen at hs; omega⟩
end

end Go.Proofs.Ytdghnfihphlboaa
