/- Arguments opened: numbers, texts, bytes, stamps, operations. -/
import Derived.Test.YtfjbmgfkfeehnaaFrame
import Derived.Test.YtfjbmgfkfeehnaaSame
namespace Go.Proofs.Ytfjbmgfkfeehnaa
open Go.ChangeShapes Go.WideShapes Go.ChangeAt Go.RowKit
open Go.ChangeMaps (open_string shut_string)

theorem Args.cons {P : Program} {H : Type} {enc : TypeId × Value → H} {W : World} {base : Nat} {t : TypeId} {ts : List TypeId} {vs : List Value} {ds : List (DataW H)} {p : List MemPlace} (h : Args P enc W base (t :: ts) vs ds p) :
    ∃ v vs' d ds' p0 p1, vs = v :: vs' ∧ ds = d :: ds' ∧ Value.okWide P W .any base t v ∧ DataW.Trod enc P W 0 (fun _ => true) true t v d p0 ∧ (d.weights P t).all (· ≤ reachBytes) = true ∧
      Args P enc W base ts vs' ds' p1 := by
  obtain ⟨h1, h2, h3⟩ := h
  cases vs with
  | nil => exact h2.elim
  | cons v vs =>
    cases ds with
    | nil => exact h2.elim
    | cons d ds =>
      obtain ⟨p0, p1, h4, h5, _⟩ := h2
      rw [DataW.weightsEach, List.all_append, Bool.and_eq_true] at h3
      exact ⟨v, vs, d, ds, p0, p1, rfl, rfl, h1 0 t v rfl rfl, h4, h3.1, ⟨fun j t' v' a b => h1 (j + 1) t' v' a b, h5, h3.2⟩⟩
theorem Args.nil {P : Program} {H : Type} {enc : TypeId × Value → H} {W : World} {base : Nat} {vs : List Value} {ds : List (DataW H)} {p : List MemPlace} (h : Args P enc W base [] vs ds p) : vs = [] := by
  obtain ⟨h1, h2, h3⟩ := h
  cases vs with
  | nil => rfl
  | cons v vs => cases ds <;> exact h2.elim

section
variable {P : Program} {H : Type} {enc : TypeId × Value → H} {w : World} {base : Nat} {spare : Nat → Bool} {held : Bool}
theorem flat_get {α : Type} (f : α → List Value) (k : Nat) : ∀ (xs : List α), (∀ x ∈ xs, (f x).length = k) → ∀ i r, r < k → (hi : i < xs.length) → (xs.flatMap f)[i * k + r]? = (f xs[i])[r]?
  | [], _, i, _, _, hi => by simp at hi
  | x :: xs, hk, 0, r, hr, _ => by
    have := hk x (by simp)
    rw [List.flatMap_cons, Nat.zero_mul, Nat.zero_add, List.getElem?_append_left (by omega)]
    rfl
  | x :: xs, hk, i + 1, r, hr, hi => by
    have := hk x (by simp)
    rw [List.flatMap_cons, List.getElem?_append_right (by rw [this, Nat.succ_mul]; omega), this]
    rw [show (i + 1) * k + r - k = i * k + r by rw [Nat.succ_mul]; omega]
    simpa using flat_get f k xs (fun y hy => hk y (by simp [hy])) i r hr (by simpa using hi)

theorem addr_add (b off j : Nat) : (⟨b, off, none⟩ : Addr).add j = ⟨b, off + j, none⟩ := by unfold Addr.add; split <;> simp_all
/-- The cells of a slice's elements, each read by 'f'. -/
theorem open_elems {t e : TypeId} {k fuel : Nat} {cs : List Value} {x : DataW H × List MemPlace} (ht : P.underlying t = some (.slice e)) (hc : P.cellsOf e = k) (hk : 0 < k)
    {α : Type} (f : α → List Value) (good : α → Prop) (hf : ∀ a, good a → (f a).length = k)
    (each : ∀ (n : Nat) (c : List Value) (y : DataW H × List MemPlace), DataW.trod enc P w base spare held n e c = some y → ∃ a, good a ∧ c = f a)
    (h : DataW.trod enc P w base spare held fuel t cs = some x) :
    ∃ (a : Option Addr) (n c : Nat) (xs : List α), cs = [.slice a n c] ∧ Sl w k a n c (xs.flatMap f) ∧ xs.length = n ∧ (∀ y ∈ xs, good y) ∧ (a = none ∧ x.1 = .nil ∨ ∃ el re, x.1 = .slice el re ∧ el.length = n) := by
  rcases DataW.trod_slice ht h with ⟨rfl, rfl⟩ | ⟨a, len, cap, elems, rest, n, _, rfl, rfl, hb, hl, hm, hlen, hel, hsp, hns⟩
  · exact ⟨none, 0, 0, [], rfl, Sl.empty _ _, rfl, by simp, .inl ⟨rfl, rfl⟩⟩
  have pick : ∀ i : Fin len, ∃ y, good y ∧ ∀ j, j < k → w.cell? ((a.add (i.1 * k)).add j) = (f y)[j]? := by
    intro i
    have h1 := hel i.1 i.2
    rw [hc, List.getElem?_eq_getElem (by omega), Option.bind_eq_some_iff] at h1
    obtain ⟨c, hc1, hc2⟩ := h1
    obtain ⟨y, hy, rfl⟩ := each _ _ _ hc2
    exact ⟨y, hy, (World.cells?_some hc1).2.2⟩
  have hpick : ∃ g : Fin len → α, ∀ i, good (g i) ∧ ∀ j, j < k → w.cell? ((a.add (i.1 * k)).add j) = (f (g i))[j]? := ⟨fun i => Classical.choose (pick i), fun i => Classical.choose_spec (pick i)⟩
  obtain ⟨g, hg⟩ := hpick
  have hgood : ∀ y ∈ List.ofFn g, good y := by
    intro y hy
    obtain ⟨i, rfl⟩ := List.mem_ofFn.1 hy
    exact (hg i).1
  refine ⟨some a, len, cap, List.ofFn g, rfl, ⟨?_, hl, hm, (fun h => by cases h), fun h0 => ?_⟩, by simp, hgood, .inr ⟨_, _, rfl, by simpa using hlen⟩⟩
  · have : ∀ l : List α, (∀ y ∈ l, good y) → (l.flatMap f).length = l.length * k := by
      intro l
      induction l with
      | nil => intro _; simp
      | cons y l ih =>
        intro hl
        rw [List.flatMap_cons, List.length_append, hf y (hl y (by simp)), ih (fun z hz => hl z (by simp [hz])), List.length_cons, Nat.succ_mul]
        omega
    simpa using this _ hgood
  · have hsp0 : a.spot = none := by
      have := (hg ⟨0, h0⟩).2 0 hk
      have hlen := hf _ (hg ⟨0, h0⟩).1
      rw [List.getElem?_eq_getElem (by omega)] at this
      simp [Addr.add] at this
      exact World.cell?_spot this
    obtain ⟨b, off, spot⟩ := a
    simp only at hsp0
    subst hsp0
    refine ⟨b, off, rfl, fun j hj => ?_⟩
    obtain ⟨i, r, hi, hr, rfl⟩ : ∃ i r, i < len ∧ r < k ∧ j = i * k + r := ⟨j / k, j % k, by rw [Nat.div_lt_iff_lt_mul hk]; exact hj, Nat.mod_lt _ hk, by rw [Nat.mul_comm]; exact (Nat.div_add_mod j k).symm⟩
    have h1 := (hg ⟨i, hi⟩).2 r hr
    rw [flat_get f k _ (fun y hy => hf y (hgood y hy)) i r hr (by simpa using hi), List.getElem_ofFn]
    rw [← h1]
    rw [addr_add, addr_add, Nat.add_assoc]
theorem trod_field {fs : Array Field} {cs : List Value} {xs : List (DataW H × List MemPlace)} {n : Nat} (hf : ∀ (i : Nat) (f : Field), fs[i]? = some f → DataW.trod enc P w base spare held n f.type ((cs.drop f.offset).take (P.cellsOf f.type)) = xs[i]?)
    (hl : xs.length = fs.size) (i : Nat) (t : TypeId) (o k : Nat) (h : (fs[i]?).map (fun f => (f.type, f.offset)) = some (t, o)) (hk : P.cellsOf t = k) : ∃ y, DataW.trod enc P w base spare held n t ((cs.drop o).take k) = some y := by
  cases hfi : fs[i]? with
  | none => rw [hfi] at h; cases h
  | some f =>
    rw [hfi] at h
    simp only [Option.map_some, Option.some.injEq, Prod.mk.injEq] at h
    obtain ⟨rfl, rfl⟩ := h
    have := hf i f hfi
    have hi : i < fs.size := (Array.getElem?_eq_some_iff.1 hfi).1
    rw [List.getElem?_eq_getElem (by omega), hk] at this
    exact ⟨_, this⟩
end

section
variable {H : Type} {enc : TypeId × Value → H} {w : World} {base b0 : Nat} {spare : Nat → Bool} {held : Bool}
theorem cells_arr : Try.prog.cellsOf 25 = 32 := by kernel_rfl
theorem cells_u8 : Try.prog.cellsOf 5 = 1 := by kernel_rfl
theorem cells_i64 : Try.prog.cellsOf 2 = 1 := by kernel_rfl
theorem cells_int : Try.prog.cellsOf 3 = 1 := by kernel_rfl
theorem cells_str : Try.prog.cellsOf 9 = 1 := by kernel_rfl
theorem cells_rf : Try.prog.cellsOf 52 = 33 := by kernel_rfl
theorem cells_rfs : Try.prog.cellsOf 22 = 1 := by kernel_rfl
theorem cells_ids : Try.prog.cellsOf 23 = 1 := by kernel_rfl
theorem cells_bs : Try.prog.cellsOf 26 = 1 := by kernel_rfl
theorem cells_let : Try.prog.cellsOf 28 = 42 := by kernel_rfl

def InI (n : Int) : Prop := -9223372036854775808 ≤ n ∧ n ≤ 9223372036854775807
theorem wf_i64 {n : Int} (h : (Lit.int .i64 n).wf = true) : InI n := by
  simp only [Lit.wf, Bool.and_eq_true, decide_eq_true_eq] at h
  exact h
theorem wf_u8 {n : Int} (h : (Lit.int .u8 n).wf = true) : 0 ≤ n ∧ n < 256 := by
  simp only [Lit.wf, Bool.and_eq_true, decide_eq_true_eq] at h
  have h1 : (0 : Int) ≤ n := h.1
  have h2 : n ≤ 255 := h.2
  omega

set_option maxRecDepth 100000 in
theorem open_id_cells {fuel : Nat} {cs : List Value} {x : DataW H × List MemPlace} (h : DataW.trod enc Try.prog w base spare held fuel 25 cs = some x) :
    ∃ l : List Int, l.length = 32 ∧ IsBytes l ∧ cs = l.map (Value.int .u8) := by
  obtain ⟨xs, m, _, rfl, hl, hx, hf⟩ := DataW.trod_array Try.underlying25 h
  rw [cells_arr] at hl
  have pick : ∀ i : Fin 32, ∃ n : Int, (0 ≤ n ∧ n < 256) ∧ cs[i.1]? = some (.int .u8 n) := by
    intro i
    have h1 := hf i.1 i.2
    rw [cells_u8, List.getElem?_eq_getElem (by omega)] at h1
    obtain ⟨n, e, _, hw⟩ := DataW.trod_int Try.underlying5 h1
    refine ⟨n, wf_u8 hw, ?_⟩
    have : ((cs.drop (i.1 * 1)).take 1)[0]? = some (.int .u8 n) := by rw [e]; rfl
    rw [List.getElem?_take_of_lt (by omega), List.getElem?_drop, Nat.mul_one, Nat.add_zero] at this
    exact this
  obtain ⟨g, hg⟩ : ∃ g : Fin 32 → Int, ∀ i, (0 ≤ g i ∧ g i < 256) ∧ cs[i.1]? = some (.int .u8 (g i)) := ⟨fun i => Classical.choose (pick i), fun i => Classical.choose_spec (pick i)⟩
  refine ⟨List.ofFn g, by simp, ?_, ?_⟩
  · intro x hx
    obtain ⟨i, rfl⟩ := List.mem_ofFn.1 hx
    exact (hg i).1
  · apply List.ext_getElem?
    intro j
    by_cases hj : j < 32
    · rw [(hg ⟨j, hj⟩).2, List.getElem?_map, List.getElem?_eq_getElem (l := List.ofFn g) (by simpa using hj), List.getElem_ofFn]
      rfl
    · rw [List.getElem?_eq_none (by omega), List.getElem?_eq_none (by simp; omega)]
theorem flat_one (f : Int → Value) (l : List Int) : l.flatMap (fun x => [f x]) = l.map f := by
  induction l with
  | nil => rfl
  | cons x l ih => simp [ih]
set_option maxRecDepth 100000 in
theorem open_ids_cells {fuel : Nat} {cs : List Value} {x : DataW H × List MemPlace} (h : DataW.trod enc Try.prog w base spare held fuel 23 cs = some x) :
    ∃ (a : Option Addr) (n c : Nat) (l : List (List Int)), cs = [.slice a n c] ∧ Ids w a n c l := by
  obtain ⟨a, n, c, l, e, hs, _, hg, _⟩ := open_elems Try.underlying23 cells_arr (by decide) idF (fun d => d.length = 32 ∧ IsBytes d) (fun _ hd => idF_len hd.1) (fun n c y hy => by
    obtain ⟨d, h1, h2, e⟩ := open_id_cells hy
    exact ⟨d, ⟨h1, h2⟩, e⟩) h
  exact ⟨a, n, c, l, e, ⟨hs, hg⟩⟩
set_option maxRecDepth 100000 in
theorem open_rf_cells {fuel : Nat} {cs : List Value} {x : DataW H × List MemPlace} (h : DataW.trod enc Try.prog w base spare held fuel 52 cs = some x) :
    ∃ r : RfL, ((r.id.length = 32 ∧ IsBytes r.id) ∧ r.name.size ≤ 9223372036854775807) ∧ cs = rfF r := by
  obtain ⟨xs, n, _, rfl, hl, hx, hf⟩ := DataW.trod_struct Try.underlying52 h
  rw [cells_rf] at hl
  obtain ⟨y0, h0⟩ := trod_field hf hx 0 9 0 1 rfl cells_str
  obtain ⟨y1, h1⟩ := trod_field hf hx 1 25 1 32 rfl cells_arr
  obtain ⟨nm, e0, _, w0⟩ := DataW.trod_string Try.underlying9 h0
  obtain ⟨d, w1, w1b, e1⟩ := open_id_cells h1
  refine ⟨⟨nm, d⟩, ⟨⟨w1, w1b⟩, by unfold maxLen at w0; exact w0⟩, ?_⟩
  have split : cs = (cs.drop 0).take 1 ++ (cs.drop 1).take 32 := by
    apply List.ext_getElem?
    intro j
    simp only [List.getElem?_append, List.getElem?_take, List.getElem?_drop, List.length_take, List.length_drop, hl]
    grind
  rw [split, e0, e1]
  rfl
set_option maxRecDepth 100000 in
theorem open_rfs_cells {fuel : Nat} {cs : List Value} {x : DataW H × List MemPlace} (h : DataW.trod enc Try.prog w base spare held fuel 22 cs = some x) :
    ∃ (a : Option Addr) (n c : Nat) (l : List RfL), cs = [.slice a n c] ∧ Rfs w a n c l := by
  obtain ⟨a, n, c, l, e, hs, _, hg, _⟩ := open_elems Try.underlying22 cells_rf (by decide) rfF (fun r => (r.id.length = 32 ∧ IsBytes r.id) ∧ r.name.size ≤ 9223372036854775807) (fun _ hd => rfF_len hd.1.1) (fun n c y hy => open_rf_cells hy) h
  exact ⟨a, n, c, l, e, ⟨hs, hg⟩⟩
set_option maxRecDepth 100000 in
theorem open_bs_cells {fuel : Nat} {cs : List Value} {x : DataW H × List MemPlace} (h : DataW.trod enc Try.prog w base spare held fuel 26 cs = some x) :
    ∃ (a : Option Addr) (n c : Nat) (l : List Int), cs = [.slice a n c] ∧ Bs w a n c l ∧ IsBytes l := by
  obtain ⟨a, n, c, l, e, hs, _, hg, _⟩ := open_elems Try.underlying26 cells_u8 (by decide) (fun x : Int => [.int .u8 x]) (fun x => 0 ≤ x ∧ x < 256) (fun _ _ => rfl) (fun n c y hy => by
    obtain ⟨z, e, _, hw⟩ := DataW.trod_int Try.underlying5 hy
    exact ⟨z, wf_u8 hw, e⟩) h
  rw [flat_one] at hs
  exact ⟨a, n, c, l, e, hs, hg⟩
def LetL.ints (l : LetL) : Prop := InI l.kind ∧ InI l.from_ ∧ InI l.to_ ∧ InI l.session ∧ InI l.off ∧ InI l.total
set_option maxRecDepth 100000 in
theorem open_let_cells {fuel : Nat} {cs : List Value} {x : DataW H × List MemPlace} (h : DataW.trod enc Try.prog w base spare held fuel 28 cs = some x) :
    ∃ (l : LetL) (s : LS), cs = (letC l s).toList ∧ LetA w l s ∧ l.ints := by
  obtain ⟨xs, n, _, rfl, hl, hx, hf⟩ := DataW.trod_struct Try.underlying28 h
  rw [cells_let] at hl
  obtain ⟨y0, h0⟩ := trod_field hf hx 0 3 0 1 rfl cells_int
  obtain ⟨y1, h1⟩ := trod_field hf hx 1 3 1 1 rfl cells_int
  obtain ⟨y2, h2⟩ := trod_field hf hx 2 3 2 1 rfl cells_int
  obtain ⟨y3, h3⟩ := trod_field hf hx 3 2 3 1 rfl cells_i64
  obtain ⟨y4, h4⟩ := trod_field hf hx 4 22 4 1 rfl cells_rfs
  obtain ⟨y5, h5⟩ := trod_field hf hx 5 23 5 1 rfl cells_ids
  obtain ⟨y6, h6⟩ := trod_field hf hx 6 23 6 1 rfl cells_ids
  obtain ⟨y7, h7⟩ := trod_field hf hx 7 3 7 1 rfl cells_int
  obtain ⟨y8, h8⟩ := trod_field hf hx 8 3 8 1 rfl cells_int
  obtain ⟨y9, h9⟩ := trod_field hf hx 9 25 9 32 rfl cells_arr
  obtain ⟨y10, h10⟩ := trod_field hf hx 10 26 41 1 rfl cells_bs
  obtain ⟨k0, e0, _, w0⟩ := DataW.trod_int Try.underlying3 h0
  obtain ⟨k1, e1, _, w1⟩ := DataW.trod_int Try.underlying3 h1
  obtain ⟨k2, e2, _, w2⟩ := DataW.trod_int Try.underlying3 h2
  obtain ⟨k3, e3, _, w3⟩ := DataW.trod_int Try.underlying2 h3
  obtain ⟨ra, rn, rc, rs, e4, w4⟩ := open_rfs_cells h4
  obtain ⟨wa, wn, wc, ws, e5, w5⟩ := open_ids_cells h5
  obtain ⟨ha, hn, hc, hs, e6, w6⟩ := open_ids_cells h6
  obtain ⟨k7, e7, _, w7⟩ := DataW.trod_int Try.underlying3 h7
  obtain ⟨k8, e8, _, w8⟩ := DataW.trod_int Try.underlying3 h8
  obtain ⟨p, w9, w9b, e9⟩ := open_id_cells h9
  obtain ⟨da, dn, dc, d, e10, w10, w10b⟩ := open_bs_cells h10
  refine ⟨⟨k0, k1, k2, k3, rs, ws, hs, k7, k8, p, d⟩, ⟨ra, rn, rc, wa, wn, wc, ha, hn, hc, da, dn, dc⟩, ?_, ⟨w4, w5, w6, w10, w9, w10b, w9b⟩, wf_i64 w0, wf_i64 w1, wf_i64 w2, wf_i64 w3, wf_i64 w7, wf_i64 w8⟩
  have split : cs = (cs.drop 0).take 1 ++ ((cs.drop 1).take 1 ++ ((cs.drop 2).take 1 ++ ((cs.drop 3).take 1 ++ ((cs.drop 4).take 1 ++ ((cs.drop 5).take 1 ++ ((cs.drop 6).take 1 ++ ((cs.drop 7).take 1 ++ ((cs.drop 8).take 1 ++ ((cs.drop 9).take 32 ++ (cs.drop 41).take 1))))))))) := by
    have st : ∀ k m, cs.drop k = (cs.drop k).take m ++ cs.drop (k + m) := fun k m => by
      rw [← List.drop_drop]
      exact (List.take_append_drop m _).symm
    have h41 : cs.drop 41 = (cs.drop 41).take 1 := (List.take_of_length_le (by simp; omega)).symm
    exact (st 0 1).trans (congrArg _ ((st 1 1).trans (congrArg _ ((st 2 1).trans (congrArg _ ((st 3 1).trans (congrArg _ ((st 4 1).trans (congrArg _ ((st 5 1).trans (congrArg _ ((st 6 1).trans (congrArg _ ((st 7 1).trans (congrArg _ ((st 8 1).trans (congrArg _ ((st 9 32).trans (congrArg _ h41)))))))))))))))))))
  rw [split, e0, e1, e2, e3, e4, e5, e6, e7, e8, e9, e10]
  simp [letC]
set_option maxRecDepth 100000 in
theorem open_let {v : Value} {d : DataW H} {p : List MemPlace} (hv : Value.okWide Try.prog w .any b0 28 v) (h : DataW.Trod enc Try.prog w base spare held 28 v d p) :
    ∃ (l : LetL) (s : LS), v = .agg (letC l s) ∧ LetA w l s ∧ l.ints := by
  obtain ⟨cs, rfl, _⟩ := okWide_struct Try.underlying28 hv
  obtain ⟨fuel, hf⟩ := h
  obtain ⟨l, s, e, h1, h2⟩ := open_let_cells hf
  refine ⟨l, s, ?_, h1, h2⟩
  congr 1
  apply Array.ext'
  simpa [Value.cells] using e
set_option maxRecDepth 100000 in
theorem open_str {v : Value} {d : DataW H} {p : List MemPlace} (hv : Value.okWide Try.prog w .any b0 9 v) (h : DataW.Trod enc Try.prog w base spare held 9 v d p) : ∃ s : ByteArray, v = .string s ∧ s.size ≤ 9223372036854775807 := by
  obtain ⟨s, rfl, _, _, hs⟩ := open_string Try.underlying9 hv h
  exact ⟨s, rfl, by unfold maxLen at hs; omega⟩
end

end Go.Proofs.Ytfjbmgfkfeehnaa
