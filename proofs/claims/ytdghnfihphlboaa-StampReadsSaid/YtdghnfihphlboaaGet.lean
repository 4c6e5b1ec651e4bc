/- An operation is read. -/
import Derived.Test.YtdghnfihphlboaaPut
import Derived.Test.YtdghnfihphlboaaGoodR
namespace Go.Proofs.Ytdghnfihphlboaa
open Go.RowKit

def zop : OpL := ⟨0, ⟨0, 0⟩, ⟨0, 0⟩, ⟨0, 0⟩, ⟨#[]⟩, zero32, []⟩
/-- So many stamps are read. -/
def getSts : Nat → Rd → List St × Rd
  | 0, s => ([], s)
  | n + 1, s => ((getSt s).1 :: (getSts n (getSt s).2).1, (getSts n (getSt s).2).2)
/-- What is read, before it is asked whether it is right. -/
def getRaw (s : Rd) : OpL × Rd :=
  let k := getNum 2 s
  let a := getSt k.2
  let n := getSt a.2
  if k.1 = 1 then
    let p := getSt n.2
    let t := getText 60 p.2
    (⟨k.1, a.1, n.1, p.1, toS t.1, zero32, []⟩, t.2)
  else
    let d := getId n.2
    let m := getNum 64 d.2
    let v := getSts m.1.toNat m.2
    (⟨k.1, a.1, n.1, ⟨0, 0⟩, ⟨#[]⟩, d.1, v.1⟩, v.2)
def getOp (s : Rd) : OpL × Rd := if (getRaw s).2.isSome && goodB (getRaw s).1 then getRaw s else (zop, none)

/-- While an operation is read: the reader at g, the operation at q, the result at r. -/
structure GS (w W : World) (H g q r : Nat) (X : Array Value) (s : Rd) : Prop where
  gr : w.grownBy W (some g)
  hq : W.heap[q]? = some (.cells X 33 (0, 0))
  hr : W.heap[r]? = some (.cells (opC zop (.slice none 0 0)) 33 (0, 0))
  rd : RdAt W H g s
  le : H ≤ w.heap.size
  gq : g < w.heap.size
  qw : w.heap.size < q
  rw' : r = w.heap.size
theorem GS.call {w W W' : World} {H g q r : Nat} {X : Array Value} {s s' : Rd} (h : GS w W H g q r X s) (k : W.grownBy W' (some g)) (hr : RdAt W' H g s') : GS w W' H g q r X s' := by
  have h1 := h.gq
  have h2 := h.qw
  have h3 := h.rw'
  exact ⟨grown_trans h.gr k, grown_at k h.hq (by omega), grown_at k h.hr (by omega), hr, h.le, h.gq, h.qw, h.rw'⟩
theorem GS.store {w W W' : World} {H g q r : Nat} {X X' : Array Value} {s : Rd} (h : GS w W H g q r X s) (hq : W'.heap[q]? = some (.cells X' 33 (0, 0))) (k : W.grownBy W' (some q)) : GS w W' H g q r X' s := by
  have h1 := h.gq
  have h2 := h.qw
  have h3 := h.rw'
  have h4 := h.le
  have h5 := h.gr.size
  refine ⟨⟨k.os.trans h.gr.os, k.tape.trans h.gr.tape, k.output.trans h.gr.output, Nat.le_trans h.gr.size k.size, fun j hj hjg => (k.block j (Nat.lt_of_lt_of_le hj h.gr.size) (by simp; omega)).trans (h.gr.block j hj hjg)⟩, hq, grown_at k h.hr (by omega), ?_, h.le, h.gq, h.qw, h.rw'⟩
  exact h.rd.grown' k (by omega) (by omega) (by omega)
theorem GS.drew {w W : World} {H g q r : Nat} {X : Array Value} {s : Rd} (h : GS w W H g q r X s) : GS w W.drew H g q r X s :=
  ⟨⟨h.gr.os, h.gr.tape, h.gr.output, h.gr.size, h.gr.block⟩, h.hq, h.hr, h.rd.drew, h.le, h.gq, h.qw, h.rw'⟩

theorem opC_ge (o : OpL) (v : Value) (k : Nat) (hk : k ≤ 9) : k ≤ (opC o v).size := by simp [opC]; omega
theorem put_at (o : OpL) (v : Value) (s : St) : put (opC o v) 1 #[.int .i64 s.t, .int .i64 s.r] = opC { o with at_ := s } v := rfl
theorem put_node (o : OpL) (v : Value) (s : St) : put (opC o v) 3 #[.int .i64 s.t, .int .i64 s.r] = opC { o with node := s } v := rfl
theorem put_parent (o : OpL) (v : Value) (s : St) : put (opC o v) 5 #[.int .i64 s.t, .int .i64 s.r] = opC { o with parent := s } v := rfl
theorem put_name (o : OpL) (v : Value) (s : ByteArray) : put (opC o v) 7 #[.string s] = opC { o with name := s } v := rfl
theorem put_data (o : OpL) (v : Value) (d : List Int) (h : o.data.length = 32) (hd : d.length = 32) : put (opC o v) 8 (idC d) = opC { o with data := d } v := by
  simp [put, opC, idC, h, hd]
theorem info_st : (Try.prog.info? 23).map (·.size) = some 2 := by kernel_rfl
theorem one_st (x y : Int) : ∀ v ∈ (#[Value.int .i64 x, Value.int .i64 y] : Array Value).toList, v.oneCell' = true := by intro v hv; simp at hv; rcases hv with rfl | rfl <;> rfl
theorem RdBytes.getSt {s : Rd} (h : RdBytes s) : RdBytes (getSt s).2 := (h.getNum _).getNum _

/-- What reading an operation leaves. -/
def OGet (w : World) (H g : Nat) (x : OpL × Rd) (e : Ending) (w' : World) : Prop :=
  ∃ a n c, e = .returned (.agg (opC x.1 (.slice a n c))) ∧ w.grownBy w' (some g) ∧ RdAt w' H g x.2 ∧ OpA w' x.1 a n c
theorem zop_a (w : World) : OpA w zop none 0 0 := ⟨Sl.empty _ _, rfl, by decide⟩

theorem RdAt.belowW {w w' : World} {H g : Nat} {s : Rd} (h : RdAt w H g s) (hb : Below w.heap.size w w') (hH : H ≤ w.heap.size) : RdAt w' H g s :=
  h.kept (hb.block _ h.lt) (fun k hk _ => hb.block k (by omega))
theorem GS.quiet {w W W' : World} {H g q r : Nat} {X : Array Value} {s : Rd} (h : GS w W H g q r X s) (hb : Below W.heap.size W W') : GS w W' H g q r X s :=
  h.call (grown_below hb) (h.rd.belowW hb (Nat.le_trans h.le h.gr.size))
theorem Sl.grownNe {w w' : World} {k : Nat} {a : Option Addr} {n c r : Nat} {xs : List Value} (h : Sl w k a n c xs) (g : w.grownBy w' (some r)) (hx : ∀ x, a = some x → r < x.block) : Sl w' k a n c xs := by
  refine ⟨h.len, h.le, h.cap, h.nil, fun hn => ?_⟩
  obtain ⟨b, off, ha, hc⟩ := h.cells hn
  refine ⟨b, off, ha, fun j hj => ?_⟩
  have hl := h.len
  have hb := hx _ ha
  have hv := hc j hj
  rw [List.getElem?_eq_getElem (by omega)] at hv ⊢
  exact g.cell hv (by simp; simp at hb; omega)
theorem rnum_le (most : Int) : ∀ (l : List Int) (i acc : Nat) (n : Int) (r : List Int), rnum most i acc l = some (n, r) → n ≤ most
  | [], i, acc, n, r, h => by rw [rnum_nil] at h; cases h
  | b :: l, i, acc, n, r, h => by
    rw [rnum.eq_def] at h
    simp only [] at h
    split at h
    · split at h
      · cases h
      · rename_i hc
        injection h with h
        injection h with h1 h2
        omega
    · split at h
      · exact rnum_le most l _ _ n r h
      · cases h
theorem getNum_le (most : Int) (h0 : 0 ≤ most) (s : Rd) : (getNum most s).1 ≤ most := by
  cases s with
  | none => exact h0
  | some l =>
    unfold getNum
    simp only []
    cases hq : rnum most 0 0 l with
    | none => exact h0
    | some x => exact rnum_le most l 0 0 x.1 x.2 hq
theorem toS_le (s : Rd) : (toS (getText 60 s).1).size ≤ 9223372036854775807 := by
  have h1 := getNum_le 60 (by omega) s
  have h2 : (getText 60 s).1.length ≤ 60 := by
    unfold getText textOf
    split
    · simp
    · split
      · simp; omega
      · simp
  have h3 : (toS (getText 60 s).1).size = (getText 60 s).1.length := strOfNums_size _
  omega
theorem getOp_none {s : Rd} {O : OpL} (h : getRaw s = (O, none)) : getOp s = (zop, none) := by simp [getOp, h]
theorem getOp_bad {s s' : Rd} {O : OpL} (h : getRaw s = (O, s')) (hb : goodB O = false) : getOp s = (zop, none) := by simp [getOp, h, hb]
theorem getOp_good {s : Rd} {l : List Int} {O : OpL} (h : getRaw s = (O, some l)) (hb : goodB O = true) : getOp s = (O, some l) := by simp [getOp, h, hb]

theorem GS.own {w W W' : World} {H g q r : Nat} {X : Array Value} {s : Rd} {b : Option Nat} (h : GS w W H g q r X s) (k : W.grownBy W' b) (hb : ∀ j, b = some j → q < j) : GS w W' H g q r X s := by
  have h1 := h.gq
  have h2 := h.qw
  have h3 := h.rw'
  have h4 := h.le
  have h5 := h.gr.size
  have hq := (blk_cell h.hq).2.2
  have hk : ∀ j, j ≤ q → W'.heap[j]? = W.heap[j]? := fun j hj => k.block j (by omega) (fun e => by have := hb j e.symm; omega)
  exact ⟨⟨k.os.trans h.gr.os, k.tape.trans h.gr.tape, k.output.trans h.gr.output, Nat.le_trans h.gr.size k.size, fun j hj hjg => (hk j (by omega)).trans (h.gr.block j hj hjg)⟩, (hk q (by omega)).trans h.hq, (hk r (by omega)).trans h.hr, h.rd.kept (hk g (by omega)) (fun j hj _ => hk j (by omega)), h.le, h.gq, h.qw, h.rw'⟩
theorem own_grown {w w' : World} {base e k : Nat} {v : Value} {n : Nat} {xs : List Value} {b : Option Nat} (h : w.ownsRow base e k v n xs) (hg : w.grownBy w' b) (hb : ∀ j, b = some j → j < base) : w'.ownsRow base e k v n xs := by
  obtain ⟨hl, h | ⟨g, cap, cur, hv, hbg, hh, r⟩⟩ := h
  · exact ⟨hl, .inl h⟩
  · refine ⟨hl, .inr ⟨g, cap, cur, hv, hbg, ?_, r⟩⟩
    have hlt : g < w.heap.size := by
      rcases Nat.lt_or_ge g w.heap.size with h | h
      · exact h
      · rw [Array.getElem?_eq_none h] at hh; cases hh
    rw [hg.block g hlt (fun e => by have := hb g e.symm; omega)]; exact hh
theorem own_base_lt {w : World} {base e k n j : Nat} {v : Value} {xs : List Value} (h : w.ownsRow (base + 1) e k v n xs) (hv : v.ownBlock = some j) : base < j := by
  obtain ⟨_, ⟨rfl, _⟩ | ⟨g, cap, cur, rfl, hbg, _⟩⟩ := h
  · simp [Value.ownBlock] at hv
  · simp [Value.ownBlock] at hv
    omega
theorem info_st3 : (Try.prog.info? 23).map (fun i => (i.zero, i.size, i.bytes)) = some (some (.agg #[.int .i64 0, .int .i64 0]), 2, 16) := by kernel_rfl
/-- 'append(s, x)' of one stamp, s the call's own: a step of a region that draws. -/
theorem step_sts {ops : Array Oper} {o : Oper} {a : Act} {w : World} {K : Act → World → Prop} {Q : Exit → Act → World → Prop} {E : Prop} (hgd : o.guard = none) (s x : Operand)
    (ho : o.op = .call { callee := .builtin .append, args := #[s, x], argTypes := #[31, 31] })
    (base : Nat) (v : Value) (n : Nat) (xs : List Value) (hs : a.eval s = v) (hown : w.ownsRow base 23 2 v n xs) (b c : Nat) (t r : Int) (hx : a.eval x = .slice (some ⟨b, 0, none⟩) 1 c)
    (hc0 : w.cell? ⟨b, 0, none⟩ = some (.int .i64 t)) (hc1 : w.cell? ⟨b, 1, none⟩ = some (.int .i64 r)) (hn : n + 1 ≤ 64) (hbase : base ≤ w.heap.size)
    (h : ∀ v' w', w'.ownsRow base 23 2 v' (n + 1) (xs ++ [.int .i64 t, .int .i64 r]) → w.grownBy w' v.ownBlock → K (a.put o.dst v') w') :
    if Region.wanted o (yielded ops a.tmps) = true then Oper.wp Try.prog o a w K Q else E := by
  obtain ⟨i0, hi, hz0, hz1, hz2⟩ := info_parts info_st3
  refine step_of_wp hgd (wp_append_own w s x 31 ho base 23 i0 _ 2 16 Try.underlying31 hi hz0 hz1 hz2 rfl (by decide) v n xs hs hown ⟨b, 0, none⟩ 1 c [.int .i64 t, .int .i64 r] hx rfl
    (fun j y hj => ?_) (fun y hy => by simp at hy; rcases hy with rfl | rfl <;> rfl) (by unfold maxLen; omega) (by omega) hbase fun v' w' h1 h2 _ => h v' w' h1 h2)
  match j, hj with
  | 0, hj => simp at hj; subst hj; simpa [Addr.add] using hc0
  | 1, hj => simp at hj; subst hj; simpa [Addr.add] using hc1
  | _ + 2, hj => simp at hj
theorem opC_set (o : OpL) (v u : Value) (h : o.data.length = 32) : (opC o v).setIfInBounds 40 u = opC o u := by
  obtain ⟨k, a, n, p, nm, d, ov⟩ := o
  apply Array.ext'
  simp only [opC, Array.toList_setIfInBounds] at h ⊢
  rw [List.set_append_right _ _ (by simp), List.set_append_right _ _ (by simp [h])]
  simp [h]
theorem getSts_snoc : ∀ (j : Nat) (s : Rd), getSts (j + 1) s = ((getSts j s).1 ++ [(getSt (getSts j s).2).1], (getSt (getSts j s).2).2)
  | 0, s => rfl
  | j + 1, s => by
    rw [show getSts (j + 1 + 1) s = ((getSt s).1 :: (getSts (j + 1) (getSt s).2).1, (getSts (j + 1) (getSt s).2).2) from rfl, getSts_snoc j (getSt s).2]
    rfl
theorem RdBytes.getSts {s : Rd} (h : RdBytes s) : ∀ j, RdBytes (getSts j s).2
  | 0 => h
  | j + 1 => by rw [getSts_snoc]; exact (RdBytes.getSts h j).getSt
theorem RdBytes.getId {s : Rd} (h : RdBytes s) : RdBytes (getId s).2 := by
  cases s with
  | none => exact h
  | some l =>
    intro m hm
    unfold Go.Proofs.Ytdghnfihphlboaa.getId at hm
    simp only [] at hm
    split at hm
    · cases hm; exact (h l rfl).drop 32
    · cases hm

set_option maxRecDepth 100000 in
set_option maxHeartbeats 1000000 in
theorem oget_any (H g : Nat) (s : Rd) (w : World) (h : RdAt w H g s) (hs : RdBytes s) (hH : H ≤ w.heap.size) :
    Calls Try.prog 27 #[.pointer (some ⟨g, 0, none⟩)] w (OGet w H g (getOp s)) := by
  have hA := h.alloc hH (.cells (opC zop (.slice none 0 0)) 33)
  have hg := h.lt
  have hr0 := blk0 w (opC zop (.slice none 0 0)) 33
  have hgr0 : w.grownBy (w.alloc (.cells (opC zop (.slice none 0 0)) 33)) (some g) := grown_below ((Below.refl _ _).alloc (Nat.le_refl _) _)
  have hs0 := hs.getNum 2
  have hs1 := hs0.getSt
  have hs2 := hs1.getSt
  have hs3 := hs2.getSt
  go_enter Try.func27, Try.ntmps27
  go_wp2_with fail
  go_at_call 52
  refine (rdnum_any H g s 2 _ hA hs).mono ?_
  rintro e w1 ⟨rfl, hgr1, hrd1⟩
  have hsz1 := hgr1.size
  have hS : GS w (w1.alloc (.cells (opC zop (.slice none 0 0)) 33)) H g w1.heap.size w.heap.size (opC zop (.slice none 0 0)) (getNum 2 s).2 := by
    simp at hsz1
    exact ⟨grown_trans hgr0 (grown_trans hgr1 (grown_below ((Below.refl _ _).alloc (Nat.le_refl _) _))), blk0 _ _ _, grown_at (grown_trans hgr1 (grown_below ((Below.refl _ _).alloc (Nat.le_refl _) (.cells (opC zop (.slice none 0 0)) 33)))) hr0 (by omega), hrd1.alloc (by omega) _, hH, hg, by omega, rfl⟩
  obtain ⟨k1, hk1⟩ : ∃ k, getNum 2 s = k := ⟨_, rfl⟩
  rw [hk1] at hS hs0 hs1 hs2 hs3
  have hk1' := hk1
  simp only [hk1]
  (repeat ((fail_if_success (with_reducible show wpList _ _ _ (Oper.mk _ (Op.store _ _ _) _ _ _ _ :: _) _ _)); first | go_values | go_skip | go_guarded | go_step | go_upon))
  refine wpList_store_seg (w := w1.alloc (.cells (opC zop (.slice none 0 0)) 33)) rfl 33 _ _ rfl rfl w1.heap.size 0 rfl (opC { zop with kind := k1.1 } (.slice none 0 0)) rfl 33 (opC zop (.slice none 0 0)) hS.hq (by simp [opC, zop]) info_op (opC_one _ _ rfl) (opC { zop with kind := k1.1 } (.slice none 0 0)) rfl ?_
  intro w3 h1 h2 h3
  have hS := hS.store h1 h2
  have hsq : w.heap.size ≤ w1.heap.size := by simp at hsz1; omega
  clear h1 h2 h3 hrd1 hgr1 hA hr0 hgr0 hsz1 hk1
  generalize w1.heap.size = q at hS hsq ⊢
  go_wp2_with fail
  go_at_call 53
  refine (getst_any H g _ _ hS.rd (by assumption) (Nat.le_trans hS.le hS.gr.size)).mono ?_
  rintro e w3 ⟨rfl, hgr, hrd⟩
  have hS := hS.call hgr hrd
  dsimp only
  (repeat ((fail_if_success (with_reducible show wpList _ _ _ (Oper.mk _ (Op.store _ _ _) _ _ _ _ :: _) _ _)); first | go_values | go_skip | go_guarded | go_step | go_upon))
  refine wpList_store_seg rfl 23 _ _ rfl rfl q 1 rfl #[.int .i64 (getSt k1.2).1.t, .int .i64 (getSt k1.2).1.r] rfl 33 _ hS.hq (opC_ge _ _ _ (by simp)) info_st (one_st _ _) _ (put_at _ _ (getSt k1.2).1) ?_
  intro w3 h1 h2 h3
  have hS := hS.store h1 h2
  go_wp2_with fail
  go_at_call 53
  refine (getst_any H g _ _ hS.rd (by assumption) (Nat.le_trans hS.le hS.gr.size)).mono ?_
  rintro e w3 ⟨rfl, hgr, hrd⟩
  have hS := hS.call hgr hrd
  dsimp only
  (repeat ((fail_if_success (with_reducible show wpList _ _ _ (Oper.mk _ (Op.store _ _ _) _ _ _ _ :: _) _ _)); first | go_values | go_skip | go_guarded | go_step | go_upon))
  refine wpList_store_seg rfl 23 _ _ rfl rfl q 3 rfl #[.int .i64 (getSt (getSt k1.2).2).1.t, .int .i64 (getSt (getSt k1.2).2).1.r] rfl 33 _ hS.hq (opC_ge _ _ _ (by simp)) info_st (one_st _ _) _ (put_node _ _ (getSt (getSt k1.2).2).1) ?_
  intro w3 h1 h2 h3
  have hS := hS.store h1 h2
  go_upto_region 4 with fail
  have hS : GS w w3 H g q w.heap.size (opC ⟨k1.1, (getSt k1.2).1, (getSt (getSt k1.2).2).1, ⟨0, 0⟩, ⟨#[]⟩, zero32, []⟩ (.slice none 0 0)) (getSt (getSt k1.2).2).2 := hS
  have hcx := (blk_cell hS.hq).1
  have x0 := (opC_x ⟨k1.1, (getSt k1.2).1, (getSt (getSt k1.2).2).1, ⟨0, 0⟩, ⟨#[]⟩, zero32, []⟩ (.slice none 0 0) rfl).x0
  have c0 : w3.cell? ⟨q, 0, none⟩ = some (.int .i64 k1.1) := (hcx 0).trans x0
  clear hcx x0
  by_cases hk : k1.1 = 1
  · have hk' : (k1.1 == 1) = true := by simpa using hk
    go_upto_region 5 with fail
    go_wp2_with fail
    go_at_call 53
    refine (getst_any H g _ _ hS.rd (by assumption) (Nat.le_trans hS.le hS.gr.size)).mono ?_
    rintro e w3 ⟨rfl, hgr, hrd⟩
    have hS := hS.call hgr hrd
    dsimp only
    (repeat ((fail_if_success (with_reducible show wpList _ _ _ (Oper.mk _ (Op.store _ _ _) _ _ _ _ :: _) _ _)); first | go_values | go_skip | go_guarded | go_step | go_upon))
    refine wpList_store_seg rfl 23 _ _ rfl rfl q 5 rfl #[.int .i64 (getSt (getSt (getSt k1.2).2).2).1.t, .int .i64 (getSt (getSt (getSt k1.2).2).2).1.r] rfl 33 _ hS.hq (opC_ge _ _ _ (by simp)) info_st (one_st _ _) _ (put_parent _ _ (getSt (getSt (getSt k1.2).2).2).1) ?_
    intro w3 h1 h2 h3
    have hS := hS.store h1 h2
    have hS : GS w w3 H g q w.heap.size (opC ⟨k1.1, (getSt k1.2).1, (getSt (getSt k1.2).2).1, (getSt (getSt (getSt k1.2).2).2).1, ⟨#[]⟩, zero32, []⟩ (.slice none 0 0)) (getSt (getSt (getSt k1.2).2).2).2 := hS
    go_wp2_with fail
    go_at_call 54
    refine (rdtext_any H g _ 60 _ hS.rd hs3).mono ?_
    rintro e w4 ⟨rfl, hgr, hrd⟩
    have hS := hS.call hgr hrd
    dsimp only
    have hcx := (blk_cell hS.hq).1
    have hfx := (blk_cell hS.hq).2.1
    have x7 := (opC_x ⟨k1.1, (getSt k1.2).1, (getSt (getSt k1.2).2).1, (getSt (getSt (getSt k1.2).2).2).1, ⟨#[]⟩, zero32, []⟩ (.slice none 0 0) rfl).x7
    have c7 : w4.cell? ⟨q, 7, none⟩ = some (.string ⟨#[]⟩) := (hcx 7).trans x7
    have f7 := hfx 7
    clear hcx hfx x7
    go_upto_region 12 with fail
    have hT := hS.store (heap_setCell_same w4 q 7 _ _ (.string (toS (getText 60 (getSt (getSt (getSt k1.2).2).2).2).1)) hS.hq) (grown_set _ _ _ _)
    obtain ⟨O, hOd⟩ : ∃ O : OpL, O = ⟨k1.1, (getSt k1.2).1, (getSt (getSt k1.2).2).1, (getSt (getSt (getSt k1.2).2).2).1, toS (getText 60 (getSt (getSt (getSt k1.2).2).2).2).1, zero32, []⟩ := ⟨_, rfl⟩
    obtain ⟨S, hSd⟩ : ∃ S, (getText 60 (getSt (getSt (getSt k1.2).2).2).2).2 = S := ⟨_, rfl⟩
    have hT : GS w (w4.setCell ⟨q, 7, none⟩ (.string (toS (getText 60 (getSt (getSt (getSt k1.2).2).2).2).1))) H g q w.heap.size (opC O (.slice none 0 0)) S := by rw [hOd, ← hSd]; exact hT
    have hR : getRaw s = (O, S) := by simp only [getRaw, hk1', hk, if_true]; rw [hOd, ← hSd, hk]
    generalize (w4.setCell ⟨q, 7, none⟩ (.string (toS (getText 60 (getSt (getSt (getSt k1.2).2).2).2).1))) = W at hT ⊢
    obtain ⟨av, nv, cv, hac, hO, hov⟩ : ∃ a n c, (Value.slice none 0 0) = .slice a n c ∧ OpA W O a n c ∧ ∀ x, a = some x → w.heap.size < x.block := ⟨none, 0, 0, rfl, by rw [hOd]; exact ⟨Sl.empty _ _, rfl, toS_le _⟩, fun x hx => by cases hx⟩
    rw [hac] at hT
    clear hac
    have HS := Lib.hid (opC_x O (.slice av nv cv) hO.data).size
    have HX := Lib.hid (opC_x O (.slice av nv cv) hO.data).xa
    have HG0 : ∀ w', Below W.heap.size W w' → Calls Try.prog 18 #[.agg (opC O (.slice av nv cv))] w' (Ret w' (.bool (goodB O))) := fun w' hb => good_any O av nv cv w' (hO.below hb)
    have HG := Lib.hid HG0
    clear HG0
    have HO1 := Lib.hid (opC_one O (.slice av nv cv) rfl)
    revert HS HX HG HO1 hT
    obtain ⟨X, hXd⟩ : ∃ X, opC O (.slice av nv cv) = X := ⟨_, rfl⟩
    have HXd := Lib.hid hXd
    simp only [hXd]
    clear hXd
    intro hT HS HX HG HO1
    cases S with
    | none =>
      go_upto_region 14 with (first | (go_at_call 29; refine (rdgood_any _ _ _ _ hT.rd).mono ?_; rintro e w' ⟨rfl, rfl⟩) | (go_at_call 56; refine (fail_any _ _ _ _ hT.rd).mono ?_; rintro e w6 ⟨rfl, hgr, hrd⟩; have hT := hT.call hgr hrd) | (with_reducible show wpList _ _ _ _ _ _; refine wpList_load_seg ?hw 33 _ rfl q 0 rfl 33 X (0, 0) _ 41 hT.hq (by rw [HS.out]; omega) Try.underlying33 rfl info_op X HX.out ?_; (case hw => (simp [go_sem]; done))) | (go_at_call 18; (with_reducible refine (HG.out _ (Below.refl _ _)).mono ?_); rintro e w5 ⟨rfl, hb⟩; have hT := hT.quiet hb; have hO := hO.below hb))
      (repeat ((fail_if_success (with_reducible show wpList _ _ _ (Oper.mk _ (Op.store _ _ _) _ _ _ _ :: _) _ _)); first | go_values | go_skip | go_guarded | go_step | go_upon))
      refine wpList_wanted rfl fun _ hK => wp_store_idle 33 _ _ rfl rfl w.heap.size rfl (opC zop (.slice none 0 0)) rfl 33 hT.hr info_op (opC_one _ _ rfl) (hK _ _ ?_)
      go_wp2_with fail
      refine bodyPost_ret (results_cell_row rfl _ _ _ 33 _ (0, 0) _ rfl hT.hr Try.underlying33 rfl info_op) rfl ?_
      rw [getOp_none hR]
      exact ⟨none, 0, 0, rfl, hT.gr, hT.rd, zop_a _⟩
    | some l =>
      cases hgd : goodB O with
      | false =>
        rw [hgd] at HG
        go_upto_region 14 with (first | (go_at_call 29; refine (rdgood_any _ _ _ _ hT.rd).mono ?_; rintro e w' ⟨rfl, rfl⟩) | (go_at_call 56; refine (fail_any _ _ _ _ hT.rd).mono ?_; rintro e w6 ⟨rfl, hgr, hrd⟩; have hT := hT.call hgr hrd) | (with_reducible show wpList _ _ _ _ _ _; refine wpList_load_seg ?hw 33 _ rfl q 0 rfl 33 X (0, 0) _ 41 hT.hq (by rw [HS.out]; omega) Try.underlying33 rfl info_op X HX.out ?_; (case hw => (simp [go_sem]; done))) | (go_at_call 18; (with_reducible refine (HG.out _ (Below.refl _ _)).mono ?_); rintro e w5 ⟨rfl, hb⟩; have hT := hT.quiet hb; have hO := hO.below hb))
        (repeat ((fail_if_success (with_reducible show wpList _ _ _ (Oper.mk _ (Op.store _ _ _) _ _ _ _ :: _) _ _)); first | go_values | go_skip | go_guarded | go_step | go_upon))
        refine wpList_wanted rfl fun _ hK => wp_store_idle 33 _ _ rfl rfl w.heap.size rfl (opC zop (.slice none 0 0)) rfl 33 hT.hr info_op (opC_one _ _ rfl) (hK _ _ ?_)
        go_wp2_with fail
        refine bodyPost_ret (results_cell_row rfl _ _ _ 33 _ (0, 0) _ rfl hT.hr Try.underlying33 rfl info_op) rfl ?_
        rw [getOp_bad hR hgd]
        exact ⟨none, 0, 0, rfl, hT.gr, hT.rd, zop_a _⟩
      | true =>
        rw [hgd] at HG
        go_upto_region 15 with (first | (go_at_call 29; refine (rdgood_any _ _ _ _ hT.rd).mono ?_; rintro e w' ⟨rfl, rfl⟩) | (with_reducible show wpList _ _ _ _ _ _; refine wpList_load_seg ?hw 33 _ rfl q 0 rfl 33 X (0, 0) _ 41 hT.hq (by rw [HS.out]; omega) Try.underlying33 rfl info_op X HX.out ?_; (case hw => (simp [go_sem]; done))) | (go_at_call 18; (with_reducible refine (HG.out _ (Below.refl _ _)).mono ?_); rintro e w5 ⟨rfl, hb⟩; have hT := hT.quiet hb; have hO := hO.below hb))
        (repeat ((fail_if_success (with_reducible show wpList _ _ _ (Oper.mk _ (Op.load _ _) _ _ _ _ :: _) _ _)); first | go_values | go_skip | go_guarded | go_step | go_upon))
        refine wpList_load_seg rfl 33 _ rfl q 0 rfl 33 X (0, 0) _ 41 hT.hq (by rw [HS.out]; omega) Try.underlying33 rfl info_op X HX.out ?_
        (repeat ((fail_if_success (with_reducible show wpList _ _ _ (Oper.mk _ (Op.store _ _ _) _ _ _ _ :: _) _ _)); first | go_values | go_skip | go_guarded | go_step | go_upon))
        refine wpList_store_seg rfl 33 _ _ rfl rfl w.heap.size 0 rfl X rfl 33 (opC zop (.slice none 0 0)) hT.hr (by rw [HS.out]; simp [opC, zop, zero32]) (by rw [HS.out]; exact info_op) HO1.out X (put_whole _ _ (by rw [HS.out]; rfl)) ?_
        intro w7 h1 h2 h3
        go_wp2_with fail
        refine bodyPost_ret (results_cell_row rfl _ _ _ 33 _ (0, 0) _ rfl h1 Try.underlying33 rfl (by rw [HS.out]; exact info_op)) rfl ?_
        rw [getOp_good hR hgd]
        have q1 := hT.gr
        have q2 := hT.gq
        have q3 := hT.le
        have q4 := q1.size
        refine ⟨av, nv, cv, by rw [HXd.out], ⟨h2.os.trans q1.os, h2.tape.trans q1.tape, h2.output.trans q1.output, Nat.le_trans q1.size h2.size, fun j hj hjg => (h2.block j (by omega) (by simp; omega)).trans (q1.block j hj hjg)⟩, hT.rd.grown' h2 (by omega) (by omega) (by omega), ⟨hO.over.grownNe h2 hov, hO.data, hO.name⟩⟩
  · have hk' : (k1.1 == 1) = false := by simpa using hk
    go_upto_region 7 with fail
    go_wp2_with fail
    go_at_call 55
    refine (rdid_any H g _ _ hS.rd (Nat.le_trans hS.le hS.gr.size)).mono ?_
    rintro e w3 ⟨rfl, hgr, hrd⟩
    have hS := hS.call hgr hrd
    dsimp only
    (repeat ((fail_if_success (with_reducible show wpList _ _ _ (Oper.mk _ (Op.store _ _ _) _ _ _ _ :: _) _ _)); first | go_values | go_skip | go_guarded | go_step | go_upon))
    have hdl : (getId (getSt (getSt k1.2).2).2).1.length = 32 := id_len hs2
    refine wpList_store_seg rfl 30 _ _ rfl rfl q 8 rfl (idC (getId (getSt (getSt k1.2).2).2).1) rfl 33 _ hS.hq (by simp [opC, idC, hdl, zero32]) (by rw [show (idC (getId (getSt (getSt k1.2).2).2).1).size = 32 by simp [idC, hdl]]; exact size_id) (cells_id _) _ (put_data _ _ _ rfl hdl) ?_
    intro w3 h1 h2 h3
    have hS := hS.store h1 h2
    have hS : GS w w3 H g q w.heap.size (opC ⟨k1.1, (getSt k1.2).1, (getSt (getSt k1.2).2).1, ⟨0, 0⟩, ⟨#[]⟩, (getId (getSt (getSt k1.2).2).2).1, []⟩ (.slice none 0 0)) (getId (getSt (getSt k1.2).2).2).2 := hS
    go_wp2_with fail
    go_at_call 52
    refine (rdnum_any H g _ 64 _ hS.rd hs2.getId).mono ?_
    rintro e w4 ⟨rfl, hgr, hrd⟩
    have hS := hS.call hgr hrd
    dsimp only
    go_upto_region 9 with fail
    have hnn := getNum_nonneg 64 (getId (getSt (getSt k1.2).2).2).2
    have hle := getNum_le 64 (by omega) (getId (getSt (getSt k1.2).2).2).2
    obtain ⟨m, hm⟩ : ∃ m : Nat, (getNum 64 (getId (getSt (getSt k1.2).2).2).2).1 = (m : Int) := ⟨_, (Int.toNat_of_nonneg hnn).symm⟩
    have hbS : RdBytes (getNum 64 (getId (getSt (getSt k1.2).2).2).2).2 := hs2.getId.getNum 64
    have hraw : getRaw s = (⟨k1.1, (getSt k1.2).1, (getSt (getSt k1.2).2).1, ⟨0, 0⟩, ⟨#[]⟩, (getId (getSt (getSt k1.2).2).2).1, (getSts m (getNum 64 (getId (getSt (getSt k1.2).2).2).2).2).1⟩, (getSts m (getNum 64 (getId (getSt (getSt k1.2).2).2).2).2).2) := by
      simp only [getRaw, hk1', hk, if_false, hm, Int.toNat_natCast]
    have HRaw := Lib.hid hraw
    clear hraw
    simp only [hm] at hle ⊢
    generalize (getNum 64 (getId (getSt (getSt k1.2).2).2).2).2 = S0 at hS hbS HRaw
    obtain ⟨D, hD⟩ : ∃ D : OpL, D = ⟨k1.1, (getSt k1.2).1, (getSt (getSt k1.2).2).1, ⟨0, 0⟩, ⟨#[]⟩, (getId (getSt (getSt k1.2).2).2).1, []⟩ := ⟨_, rfl⟩
    have hDl : D.data.length = 32 := by rw [hD]; exact hdl
    rw [← hD] at hS
    have HD := Lib.hid hD
    clear hD hnn hm
    go_loopw [27] (fun i wr => ∃ (j : Nat) (v : Value), j ≤ m ∧ i = .int .i64 j ∧ GS w wr H g q w.heap.size (opC D v) (getSts j S0).2 ∧ wr.ownsRow (q + 1) 23 2 v j (stsC (getSts j S0).1)) (fun i _ => m - (intOf i).toNat)
    case atStart => exact ⟨0, _, Nat.zero_le _, rfl, hS, World.ownsRow_nil _ _ _ _⟩
    case round =>
      clear hS
      obtain ⟨j, v, hj, rfl, hS, hO⟩ := hrel
      by_cases hjm : j < m
      · have c40 : wr.cell? ⟨q, 40, none⟩ = some v := ((blk_cell hS.hq).1 40).trans (opC_x D v hDl).x40
        have hq := (blk_cell hS.hq).2.2
        have hSd := hS.drew
        have hOd : wr.drew.ownsRow (q + 1) 23 2 v j (stsC (getSts j S0).1) := hO
        have hqg : g < q + 1 := by have := hS.gq; have := hS.qw; omega
        have hbj := hbS.getSts j
        go_wp2_with fail
        go_region_law (first
          | (refine step_sts rfl _ _ rfl (q + 1) _ j _ rfl (own_grown hO3 (b := none) (grown_below ((Below.refl _ _).alloc (Nat.le_refl _) _)) (fun j e => by cases e)) _ _ (getSt (getSts j S0).2).1.t (getSt (getSts j S0).2).1.r rfl (by simp [go_sem]) (by simp [go_sem]) (by omega) (by simp; omega) ?_; intro v' w5 hO5 hg5; obtain ⟨a5, n5, rfl, _⟩ := own_form hO5; have hS5 := (hS3.quiet ((Below.refl _ _).alloc (Nat.le_refl _) (.cells #[.int .i64 (getSt (getSts j S0).2).1.t, .int .i64 (getSt (getSts j S0).2).1.r] 23))).own hg5 (fun k hk => own_base_lt hO3 hk); have c5 : w5.cell? ⟨q, 40, none⟩ = some v := ((blk_cell hS5.hq).1 40).trans (opC_x D v hDl).x40; have f5 : w5.frozen? ⟨q, 40, none⟩ = false := (blk_cell hS5.hq).2.1 40)
          | (go_simp; go_at_call 53; refine (getst_any H g _ _ hSd.rd hbj (Nat.le_trans hSd.le hSd.gr.size)).mono ?_; rintro e w3 ⟨rfl, hgr, hrd⟩; have hS3 := hSd.call hgr hrd; have hO3 := own_grown hOd hgr (fun j e => by cases e; exact hqg); have c3 : w3.cell? ⟨q, 40, none⟩ = some v := ((blk_cell hS3.hq).1 40).trans (opC_x D v hDl).x40; have hq3 := (blk_cell hS3.hq).2.2))
        all_goals
          go_wp2_with fail
          go_roundw
          case rel =>
            refine ⟨j + 1, .slice a5 (j + 1) n5, by omega, by go_num, ?_, ?_⟩
            · have e := hS5.store (heap_setCell_same w5 q 40 _ _ (.slice a5 (j + 1) n5) hS5.hq) (grown_set _ _ _ _)
              rw [opC_set _ _ _ hDl] at e
              rw [getSts_snoc]
              exact e
            · rw [getSts_snoc]
              have := own_grown hO5 (grown_set w5 q 40 (.slice a5 (j + 1) n5)) (fun k e => by cases e; omega)
              simpa [stsC_append, stsC] using this
          case measure => simp [intOf]; omega
      · obtain rfl : j = m := by omega
        obtain ⟨av, cv, rfl, _⟩ := own_form hO
        obtain ⟨O, hOd⟩ : ∃ O : OpL, O = ⟨k1.1, (getSt k1.2).1, (getSt (getSt k1.2).2).1, ⟨0, 0⟩, ⟨#[]⟩, (getId (getSt (getSt k1.2).2).2).1, (getSts j S0).1⟩ := ⟨_, rfl⟩
        have hov : ∀ x, av = some x → w.heap.size < x.block := fun x hx => by
          have h1 := own_base_lt hO (j := x.block) (by rw [hx]; rfl)
          have h2 := hS.qw
          omega
        have hSl := own_sl hO
        have hOA : OpA wr O av j cv := by rw [hOd]; exact ⟨hSl, hdl, by show (⟨#[]⟩ : ByteArray).size ≤ 9223372036854775807; decide⟩
        obtain ⟨S, hSd⟩ : ∃ S, (getSts j S0).2 = S := ⟨_, rfl⟩
        have hT : GS w wr H g q w.heap.size (opC O (.slice av j cv)) S := by
          have h1 := hS
          rw [HD.out, hSd] at h1
          rw [hOd]
          exact h1
        have hR : getRaw s = (O, S) := by rw [HRaw.out, hOd, hSd]
        clear hS hSl
        go_upto_region 12 with fail
        have hO := hOA
        obtain ⟨nv, hnv⟩ : ∃ nv, nv = j := ⟨_, rfl⟩
        rw [← hnv] at hT hO
        clear hnv
        generalize wr = W at *
        have HS := Lib.hid (opC_x O (.slice av nv cv) hO.data).size
        have HX := Lib.hid (opC_x O (.slice av nv cv) hO.data).xa
        have HG0 : ∀ w', Below W.heap.size W w' → Calls Try.prog 18 #[.agg (opC O (.slice av nv cv))] w' (Ret w' (.bool (goodB O))) := fun w' hb => good_any O av nv cv w' (hO.below hb)
        have HG := Lib.hid HG0
        clear HG0
        have HO1 := Lib.hid (opC_one O (.slice av nv cv) rfl)
        revert HS HX HG HO1 hT
        obtain ⟨X, hXd⟩ : ∃ X, opC O (.slice av nv cv) = X := ⟨_, rfl⟩
        have HXd := Lib.hid hXd
        simp only [hXd]
        clear hXd
        intro hT HS HX HG HO1
        cases S with
        | none =>
          go_upto_region 14 with (first | (go_at_call 29; refine (rdgood_any _ _ _ _ hT.rd).mono ?_; rintro e w' ⟨rfl, rfl⟩) | (go_at_call 56; refine (fail_any _ _ _ _ hT.rd).mono ?_; rintro e w6 ⟨rfl, hgr, hrd⟩; have hT := hT.call hgr hrd) | (with_reducible show wpList _ _ _ _ _ _; refine wpList_load_seg ?hw 33 _ rfl q 0 rfl 33 X (0, 0) _ 41 hT.hq (by rw [HS.out]; omega) Try.underlying33 rfl info_op X HX.out ?_; (case hw => (simp [go_sem]; done))) | (go_at_call 18; (with_reducible refine (HG.out _ (Below.refl _ _)).mono ?_); rintro e w5 ⟨rfl, hb⟩; have hT := hT.quiet hb; have hO := hO.below hb))
          (repeat ((fail_if_success (with_reducible show wpList _ _ _ (Oper.mk _ (Op.store _ _ _) _ _ _ _ :: _) _ _)); first | go_values | go_skip | go_guarded | go_step | go_upon))
          refine wpList_wanted rfl fun _ hK => wp_store_idle 33 _ _ rfl rfl w.heap.size rfl (opC zop (.slice none 0 0)) rfl 33 hT.hr info_op (opC_one _ _ rfl) (hK _ _ ?_)
          go_wp2_with fail
          refine bodyPost_ret (results_cell_row rfl _ _ _ 33 _ (0, 0) _ rfl hT.hr Try.underlying33 rfl info_op) rfl ?_
          rw [getOp_none hR]
          exact ⟨none, 0, 0, rfl, hT.gr, hT.rd, zop_a _⟩
        | some l =>
          cases hgd : goodB O with
          | false =>
            rw [hgd] at HG
            go_upto_region 14 with (first | (go_at_call 29; refine (rdgood_any _ _ _ _ hT.rd).mono ?_; rintro e w' ⟨rfl, rfl⟩) | (go_at_call 56; refine (fail_any _ _ _ _ hT.rd).mono ?_; rintro e w6 ⟨rfl, hgr, hrd⟩; have hT := hT.call hgr hrd) | (with_reducible show wpList _ _ _ _ _ _; refine wpList_load_seg ?hw 33 _ rfl q 0 rfl 33 X (0, 0) _ 41 hT.hq (by rw [HS.out]; omega) Try.underlying33 rfl info_op X HX.out ?_; (case hw => (simp [go_sem]; done))) | (go_at_call 18; (with_reducible refine (HG.out _ (Below.refl _ _)).mono ?_); rintro e w5 ⟨rfl, hb⟩; have hT := hT.quiet hb; have hO := hO.below hb))
            (repeat ((fail_if_success (with_reducible show wpList _ _ _ (Oper.mk _ (Op.store _ _ _) _ _ _ _ :: _) _ _)); first | go_values | go_skip | go_guarded | go_step | go_upon))
            refine wpList_wanted rfl fun _ hK => wp_store_idle 33 _ _ rfl rfl w.heap.size rfl (opC zop (.slice none 0 0)) rfl 33 hT.hr info_op (opC_one _ _ rfl) (hK _ _ ?_)
            go_wp2_with fail
            refine bodyPost_ret (results_cell_row rfl _ _ _ 33 _ (0, 0) _ rfl hT.hr Try.underlying33 rfl info_op) rfl ?_
            rw [getOp_bad hR hgd]
            exact ⟨none, 0, 0, rfl, hT.gr, hT.rd, zop_a _⟩
          | true =>
            rw [hgd] at HG
            go_upto_region 15 with (first | (go_at_call 29; refine (rdgood_any _ _ _ _ hT.rd).mono ?_; rintro e w' ⟨rfl, rfl⟩) | (with_reducible show wpList _ _ _ _ _ _; refine wpList_load_seg ?hw 33 _ rfl q 0 rfl 33 X (0, 0) _ 41 hT.hq (by rw [HS.out]; omega) Try.underlying33 rfl info_op X HX.out ?_; (case hw => (simp [go_sem]; done))) | (go_at_call 18; (with_reducible refine (HG.out _ (Below.refl _ _)).mono ?_); rintro e w5 ⟨rfl, hb⟩; have hT := hT.quiet hb; have hO := hO.below hb))
            (repeat ((fail_if_success (with_reducible show wpList _ _ _ (Oper.mk _ (Op.load _ _) _ _ _ _ :: _) _ _)); first | go_values | go_skip | go_guarded | go_step | go_upon))
            refine wpList_load_seg rfl 33 _ rfl q 0 rfl 33 X (0, 0) _ 41 hT.hq (by rw [HS.out]; omega) Try.underlying33 rfl info_op X HX.out ?_
            (repeat ((fail_if_success (with_reducible show wpList _ _ _ (Oper.mk _ (Op.store _ _ _) _ _ _ _ :: _) _ _)); first | go_values | go_skip | go_guarded | go_step | go_upon))
            refine wpList_store_seg rfl 33 _ _ rfl rfl w.heap.size 0 rfl X rfl 33 (opC zop (.slice none 0 0)) hT.hr (by rw [HS.out]; simp [opC, zop, zero32]) (by rw [HS.out]; exact info_op) HO1.out X (put_whole _ _ (by rw [HS.out]; rfl)) ?_
            intro w7 h1 h2 h3
            go_wp2_with fail
            refine bodyPost_ret (results_cell_row rfl _ _ _ 33 _ (0, 0) _ rfl h1 Try.underlying33 rfl (by rw [HS.out]; exact info_op)) rfl ?_
            rw [getOp_good hR hgd]
            have q1 := hT.gr
            have q2 := hT.gq
            have q3 := hT.le
            have q4 := q1.size
            refine ⟨av, nv, cv, by rw [HXd.out], ⟨h2.os.trans q1.os, h2.tape.trans q1.tape, h2.output.trans q1.output, Nat.le_trans q1.size h2.size, fun j hj hjg => (h2.block j (by omega) (by simp; omega)).trans (q1.block j hj hjg)⟩, hT.rd.grown' h2 (by omega) (by omega) (by omega), ⟨hO.over.grownNe h2 hov, hO.data, hO.name⟩⟩

end Go.Proofs.Ytdghnfihphlboaa
