/- A letter as the document's: as. -/
import Derived.Test.YtfjbmgfkfeehnaaDocX
import Derived.Test.YtfjbmgfkfeehnaaDocRg
namespace Go.Proofs.Ytfjbmgfkfeehnaa
open Go.RowKit

theorem foldl_fill_at : ∀ (xs pre post rest : List Value) (k o : Nat), xs.length = post.length → pre.length = o + k →
    Array.foldl (fun (cs : Array Value) (x : Value × Nat) => cs.setIfInBounds (o + x.snd) x.fst) (pre ++ (post ++ rest)).toArray (xs.zipIdx k).toArray = (pre ++ (xs ++ rest)).toArray
  | [], pre, post, rest, k, o, h, _ => by
    obtain rfl : post = [] := List.eq_nil_of_length_eq_zero (by simpa using h.symm)
    simp
  | x :: xs, pre, [], rest, k, o, h, _ => by simp at h
  | x :: xs, pre, y :: post, rest, k, o, h, hp => by
    have ih := foldl_fill_at xs (pre ++ [x]) post rest (k + 1) o (by simpa using h) (by simp; omega)
    simp only [List.foldl_toArray, List.zipIdx_cons, List.foldl_cons] at ih ⊢
    rw [show (pre ++ (y :: post ++ rest)).toArray.setIfInBounds (o + k) x = ((pre ++ [x]) ++ (post ++ rest)).toArray by
      apply Array.ext'
      rw [Array.toList_setIfInBounds]
      simp [List.set_append_right, hp]]
    simpa using ih
@[go_sem] theorem fill_pack (k f t n o tt : Int) (p : List Int) (hp : p.length = 32) : Array.foldl (fun (cs : Array Value) (x : Value × Nat) => cs.setIfInBounds (9 + x.snd) x.fst) #[.int .i64 k, .int .i64 f, .int .i64 t, .int .i64 n, .slice none 0 0, .slice none 0 0, .slice none 0 0, .int .i64 o, .int .i64 tt, .int .u8 0, .int .u8 0, .int .u8 0, .int .u8 0, .int .u8 0, .int .u8 0, .int .u8 0, .int .u8 0, .int .u8 0, .int .u8 0, .int .u8 0, .int .u8 0, .int .u8 0, .int .u8 0, .int .u8 0, .int .u8 0, .int .u8 0, .int .u8 0, .int .u8 0, .int .u8 0, .int .u8 0, .int .u8 0, .int .u8 0, .int .u8 0, .int .u8 0, .int .u8 0, .int .u8 0, .int .u8 0, .int .u8 0, .int .u8 0, .int .u8 0, .int .u8 0, .slice none 0 0] ((idC p).zipIdx 0) 0 32 = letC ⟨k, f, t, n, [], [], [], o, tt, p, []⟩ LS.none := by
  have := foldl_fill_at (p.map (Value.int .u8)) [.int .i64 k, .int .i64 f, .int .i64 t, .int .i64 n, .slice none 0 0, .slice none 0 0, .slice none 0 0, .int .i64 o, .int .i64 tt] (List.replicate 32 (.int .u8 0)) [.slice none 0 0] 0 9 (by simp [hp]) rfl
  have e : (idC p).zipIdx 0 = ((p.map (Value.int .u8)).zipIdx 0).toArray := by apply Array.ext'; simp [idC]
  have hs : (((p.map (Value.int .u8)).zipIdx 0).toArray).size = 32 := by simp [hp]
  rw [hs] at this
  rw [e]
  refine Eq.trans ?_ (this.trans ?_)
  · rfl
  · simp [letC, LS.none]

@[go_sem] theorem fill_rf (n : ByteArray) (p : List Int) (hp : p.length = 32) : Array.foldl (fun (cs : Array Value) (x : Value × Nat) => cs.setIfInBounds (1 + x.snd) x.fst) #[.string n, .int .u8 0, .int .u8 0, .int .u8 0, .int .u8 0, .int .u8 0, .int .u8 0, .int .u8 0, .int .u8 0, .int .u8 0, .int .u8 0, .int .u8 0, .int .u8 0, .int .u8 0, .int .u8 0, .int .u8 0, .int .u8 0, .int .u8 0, .int .u8 0, .int .u8 0, .int .u8 0, .int .u8 0, .int .u8 0, .int .u8 0, .int .u8 0, .int .u8 0, .int .u8 0, .int .u8 0, .int .u8 0, .int .u8 0, .int .u8 0, .int .u8 0, .int .u8 0] ((idC p).zipIdx 0) 0 32 = rfC ⟨n, p⟩ := by
  have := foldl_fill_at (p.map (Value.int .u8)) [.string n] (List.replicate 32 (.int .u8 0)) [] 0 1 (by simp [hp]) rfl
  have e : (idC p).zipIdx 0 = ((p.map (Value.int .u8)).zipIdx 0).toArray := by apply Array.ext'; simp [idC]
  have hs : (((p.map (Value.int .u8)).zipIdx 0).toArray).size = 32 := by simp [hp]
  rw [hs] at this
  rw [e]
  refine Eq.trans ?_ (this.trans ?_)
  · rfl
  · simp [rfC, rfF]
theorem info_drf3 : (Try.prog.info? 64).map (fun i => (i.zero, i.size, i.bytes)) = some (some (.agg (rfC rf0)), 33, 48) := by kernel_rfl
theorem info_darr3 : (Try.prog.info? 24).map (fun i => (i.zero, i.size, i.bytes)) = some (some (.agg (idC zero32)), 32, 32) := by kernel_rfl
/-- 'append(s, x)' of one branch, the document's. -/
theorem app_drf {ops : Array Oper} {rest : List Oper} {o : Oper} {a : Act} {w : World} {Q : Exit → Act → World → Prop} (hgd : o.guard = none) (s x : Operand)
    (ho : o.op = .call { callee := .builtin .append, args := #[s, x], argTypes := #[34, 34] })
    (base : Nat) (v : Value) (n : Nat) (xs : List Value) (hs : a.eval s = v) (hown : w.ownsRow base 64 33 v n xs) (b c : Nat) (r : RfL) (hx : a.eval x = .slice (some ⟨b, 0, none⟩) 1 c)
    (hb : w.heap[b]? = some (.cells (rfC r) 64 (0, 0))) (hd : r.id.length = 32) (hn : (n + 1) * 48 ≤ 140737488355328) (hbase : base ≤ w.heap.size)
    (h : ∀ v' w', w'.ownsRow base 64 33 v' (n + 1) (xs ++ rfF r) → w.grownBy w' v.ownBlock → wpList Try.prog ops Q rest (a.put o.dst v') w') : wpList Try.prog ops Q (o :: rest) a w := by
  obtain ⟨i0, hi, hz0, hz1, hz2⟩ := info_parts info_drf3
  refine wpList_append_own w hgd s x 34 ho base 64 i0 _ 33 48 Try.underlying34 hi hz0 hz1 hz2 rfl (by decide) v n xs hs hown ⟨b, 0, none⟩ 1 c (rfF r) hx (by rw [rfF_len hd])
    (fun j y hj => ?_) (fun y hy => one_rf r y hy) (by unfold maxLen; omega) (by omega) hbase fun v' w' h1 h2 _ => h v' w' h1 h2
  rw [Addr.add_mid, Nat.zero_add, (blk_cell hb).1 j]
  simpa [rfC] using hj
/-- 'append(s, x)' of one ID, the document's. -/
theorem app_did {ops : Array Oper} {rest : List Oper} {o : Oper} {a : Act} {w : World} {Q : Exit → Act → World → Prop} (hgd : o.guard = none) (s x : Operand)
    (ho : o.op = .call { callee := .builtin .append, args := #[s, x], argTypes := #[35, 35] })
    (base : Nat) (v : Value) (n : Nat) (xs : List Value) (hs : a.eval s = v) (hown : w.ownsRow base 24 32 v n xs) (b c : Nat) (d : List Int) (hx : a.eval x = .slice (some ⟨b, 0, none⟩) 1 c)
    (hb : w.heap[b]? = some (.cells (idC d) 24 (0, 0))) (hd : d.length = 32) (hn : (n + 1) * 32 ≤ 140737488355328) (hbase : base ≤ w.heap.size)
    (h : ∀ v' w', w'.ownsRow base 24 32 v' (n + 1) (xs ++ idF d) → w.grownBy w' v.ownBlock → wpList Try.prog ops Q rest (a.put o.dst v') w') : wpList Try.prog ops Q (o :: rest) a w := by
  obtain ⟨i0, hi, hz0, hz1, hz2⟩ := info_parts info_darr3
  refine wpList_append_own w hgd s x 35 ho base 24 i0 _ 32 32 Try.underlying35 hi hz0 hz1 hz2 rfl (by decide) v n xs hs hown ⟨b, 0, none⟩ 1 c (idF d) hx (by rw [idF_len hd])
    (fun j y hj => ?_) (fun y hy => cells_id d y (by simpa [idC, idF] using hy)) (by unfold maxLen; omega) (by omega) hbase fun v' w' h1 h2 _ => h v' w' h1 h2
  rw [Addr.add_mid, Nat.zero_add, (blk_cell hb).1 j]
  simpa [idC, idF] using hj

/-- While the branches are taken over. -/
structure DS1 (w W wr : World) (q : Nat) (l : LetL) (s : LS) (k : Nat) (a : Option Addr) (c : Nat) : Prop where
  g : W.grownBy wr (some q)
  hq : wr.heap[q]? = some (.cells (letC ⟨l.kind, l.from_, l.to_, l.session, l.refs.take k, [], [], l.off, l.total, l.pack, l.data⟩ { LS.none with ra := a, rn := k, rc := c, da := s.da, dn := s.dn, dc := s.dc }) 37 (0, 0))
  own : wr.ownsRow W.heap.size 64 33 (.slice a k c) k (rowC 33 rfF (l.refs.take k))
/-- While IDs are taken over. -/
structure DI (W wr : World) (q : Nat) (ds : List (List Int)) (LL : List (List Int) → Option Addr → Nat → Nat → Array Value) (k : Nat) (a : Option Addr) (c : Nat) : Prop where
  g : W.grownBy wr (some q)
  hq : wr.heap[q]? = some (.cells (LL (ds.take k) a k c) 37 (0, 0))
  own : wr.ownsRow W.heap.size 24 32 (.slice a k c) k (rowC 32 idF (ds.take k))
theorem DI.quiet {W wr w' : World} {q : Nat} {ds : List (List Int)} {LL : List (List Int) → Option Addr → Nat → Nat → Array Value} {k : Nat} {a : Option Addr} {c : Nat} (h : DI W wr q ds LL k a c) (hb : Below wr.heap.size wr w') : DI W w' q ds LL k a c :=
  ⟨grown_trans h.g (grown_below hb), (hb.block q (blk_cell h.hq).2.2).trans h.hq, own_below h.own hb⟩
theorem DI.push {W wr w' : World} {q : Nat} {ds : List (List Int)} {LL : List (List Int) → Option Addr → Nat → Nat → Array Value} {k : Nat} {a a' : Option Addr} {c c' : Nat} {b : Option Nat} {d : List Int} (h : DI W wr q ds LL k a c) (g : wr.grownBy w' b) (hb : ∀ j, b = some j → W.heap.size ≤ j) (hq : q < W.heap.size) (hr : ds[k]? = some d)
    (own : w'.ownsRow W.heap.size 24 32 (.slice a' (k + 1) c') (k + 1) (rowC 32 idF (ds.take k) ++ idF d)) (f : Nat) (hget : (LL (ds.take k) a k c)[f]? = some (.slice a k c)) (hset : (LL (ds.take k) a k c).setIfInBounds f (.slice a' (k + 1) c') = LL (ds.take (k + 1)) a' (k + 1) c') :
    w'.cell? ⟨q, f, none⟩ = some (.slice a k c) ∧ w'.frozen? ⟨q, f, none⟩ = false ∧ DI W (w'.setCell ⟨q, f, none⟩ (.slice a' (k + 1) c')) q ds LL (k + 1) a' c' := by
  have hq' := (g.block q (blk_cell h.hq).2.2 (fun e => by have := hb q e.symm; omega)).trans h.hq
  obtain ⟨hk, rfl⟩ := List.getElem?_eq_some_iff.1 hr
  rw [← rowC_snoc, ← List.take_succ_eq_append_getElem hk] at own
  refine ⟨((blk_cell hq').1 f).trans hget, (blk_cell hq').2.1 f, grown_trans (grown_new h.g g hb) (grown_set _ _ _ _), (heap_setCell_same w' q f _ _ (.slice a' (k + 1) c') hq').trans (by rw [hset]), own_grown own (grown_set _ _ _ _) (fun j hj => by cases hj; exact hq)⟩

theorem DS1.quiet {w W wr w' : World} {q : Nat} {l : LetL} {s : LS} {k : Nat} {a : Option Addr} {c : Nat} (h : DS1 w W wr q l s k a c) (hb : Below wr.heap.size wr w') : DS1 w W w' q l s k a c :=
  ⟨grown_trans h.g (grown_below hb), (hb.block q (blk_cell h.hq).2.2).trans h.hq, own_below h.own hb⟩
theorem DS1.push {w W wr w' : World} {q : Nat} {l : LetL} {s : LS} {k : Nat} {a a' : Option Addr} {c c' : Nat} {b : Option Nat} {r : RfL} (h : DS1 w W wr q l s k a c) (g : wr.grownBy w' b) (hb : ∀ j, b = some j → W.heap.size ≤ j) (hq : q < W.heap.size) (hr : l.refs[k]? = some r)
    (own : w'.ownsRow W.heap.size 64 33 (.slice a' (k + 1) c') (k + 1) (rowC 33 rfF (l.refs.take k) ++ rfF r)) :
    w'.cell? ⟨q, 4, none⟩ = some (.slice a k c) ∧ w'.frozen? ⟨q, 4, none⟩ = false ∧ DS1 w W (w'.setCell ⟨q, 4, none⟩ (.slice a' (k + 1) c')) q l s (k + 1) a' c' := by
  have hq' := (g.block q (blk_cell h.hq).2.2 (fun e => by have := hb q e.symm; omega)).trans h.hq
  obtain ⟨hk, rfl⟩ := List.getElem?_eq_some_iff.1 hr
  rw [← rowC_snoc, ← List.take_succ_eq_append_getElem hk] at own
  refine ⟨(blk_cell hq').1 4, (blk_cell hq').2.1 4, grown_trans (grown_new h.g g hb) (grown_set _ _ _ _), (heap_setCell_same w' q 4 _ _ (.slice a' (k + 1) c') hq').trans rfl, own_grown own (grown_set _ _ _ _) (fun j hj => by cases hj; exact hq)⟩

set_option maxRecDepth 100000 in
set_option maxHeartbeats 8000000 in
theorem as_any (l : LetL) (s : LS) (w : World) (h : LetA w l s) (hrn : s.rn * 48 ≤ 140737488355328) (hwn : s.wn * 32 ≤ 140737488355328) (hhn : s.hn * 32 ≤ 140737488355328) :
    Calls Try.prog 11 #[.agg (letC l s)] w (fun e w' => ∃ s', e = .returned (.agg (letC l s')) ∧ Below w.heap.size w w' ∧ LetA w' l s') := by
  obtain ⟨hsz, x0, x1, x2, x3, x4, x5, x6, x7, x8, x41, xp, xa⟩ := letC_x l s h.pack
  have hx := blk0 w (letC l s) 28
  have hB0 : Below w.heap.size w (w.alloc (.cells (letC l s) 28)) := (Below.refl _ _).alloc (Nat.le_refl _) _
  have hpk := h.pack
  have HA := Lib.hid h
  have HS := Lib.hid hsz
  clear h xa hsz
  generalize letC l s = X at *
  go_enter Try.func11, Try.ntmps11
  go_upto_region 1 with fail
  have hr := blk0 (w.alloc (.cells X 28)) (letC zeroL LS.none) 37
  have hx := (Below.heap_alloc (w.alloc (.cells X 28)) (.cells (letC zeroL LS.none) 37) _ (blk_cell hx).2.2).trans hx
  have hB := hB0.alloc hB0.size (.cells (letC zeroL LS.none) 37)
  rw [show (w.alloc (.cells X 28)).heap.size = w.heap.size + 1 by simp] at hr
  obtain ⟨W1, hW1⟩ : ∃ W1, (w.alloc (.cells X 28)).alloc (.cells (letC zeroL LS.none) 37) = W1 := ⟨_, rfl⟩
  rw [hW1] at hr hx hB
  rw [show letC zeroL LS.none = #[.int .i64 0, .int .i64 0, .int .i64 0, .int .i64 0, .slice none 0 0, .slice none 0 0, .slice none 0 0, .int .i64 0, .int .i64 0, .int .u8 0, .int .u8 0, .int .u8 0, .int .u8 0, .int .u8 0, .int .u8 0, .int .u8 0, .int .u8 0, .int .u8 0, .int .u8 0, .int .u8 0, .int .u8 0, .int .u8 0, .int .u8 0, .int .u8 0, .int .u8 0, .int .u8 0, .int .u8 0, .int .u8 0, .int .u8 0, .int .u8 0, .int .u8 0, .int .u8 0, .int .u8 0, .int .u8 0, .int .u8 0, .int .u8 0, .int .u8 0, .int .u8 0, .int .u8 0, .int .u8 0, .int .u8 0, .slice none 0 0] from rfl] at hW1
  rw [hW1]
  clear hW1 hB0
  have hcx := (blk_cell hx).1
  have hsx := seg_of hx 9 32 (by rw [HS.out]; decide) xp
  have hi32 : (idC l.pack).size = 32 := by simp [idC, hpk]
  have hi42 := letC_size ⟨l.kind, l.from_, l.to_, l.session, [], [], [], l.off, l.total, l.pack, []⟩ LS.none hpk
  have hset := set_last ⟨l.kind, l.from_, l.to_, l.session, [], [], [], l.off, l.total, l.pack, []⟩ LS.none s.da s.dn s.dc l.data hpk
  (repeat ((fail_if_success (with_reducible show wpList _ _ _ (Oper.mk _ (Op.store _ _ _) _ _ _ _ :: _) _ _)); first | go_values | go_skip | go_guarded | go_step | go_upon))
  have hiS : (letC ⟨l.kind, l.from_, l.to_, l.session, [], [], [], l.off, l.total, l.pack, l.data⟩ { LS.none with da := s.da, dn := s.dn, dc := s.dc }).size = 42 := letC_size _ _ hpk
  have hz := blk0 W1 (letC zeroL LS.none) 37
  refine wpList_store_seg (w := W1.alloc (.cells (letC zeroL LS.none) 37)) rfl 37 _ _ rfl rfl W1.heap.size 0 rfl (letC ⟨l.kind, l.from_, l.to_, l.session, [], [], [], l.off, l.total, l.pack, l.data⟩ { LS.none with da := s.da, dn := s.dn, dc := s.dc }) rfl 37 (letC zeroL LS.none) hz (by rw [hiS, letC_size _ _ rfl]; decide) (by rw [hiS]; exact info_dlet) (letC_one _ _) (letC ⟨l.kind, l.from_, l.to_, l.session, [], [], [], l.off, l.total, l.pack, l.data⟩ { LS.none with da := s.da, dn := s.dn, dc := s.dc }) (put_whole _ _ (by rw [hiS, letC_size _ _ rfl])) ?_
  intro W2 hq2 hg2 hsz2
  clear hsz2
  have hb2 : Below W1.heap.size W1 W2 := (grow1' W1 (letC zeroL LS.none) 37).grown hg2 (by simp) (fun k hk => by cases hk; omega)
  have hB2 := Below.next hB hb2
  have hx2 := (hb2.block _ (blk_cell hx).2.2).trans hx
  have hr2 := (hb2.block _ (blk_cell hr).2.2).trans hr
  have hrq : w.heap.size + 1 < W1.heap.size := (blk_cell hr).2.2
  have hql := (blk_cell hq2).2.2
  clear hz hg2 hb2 hx hr hcx hsx hi32 hi42 hset hB
  generalize W1.heap.size = q at *
  have hqw : w.heap.size ≤ q := by omega
  have HX2 := Lib.hid hx2; have HR2 := Lib.hid hr2; have HQ2 := Lib.hid hq2
  have h4 := ((blk_cell hx2).1 4).trans x4
  have HRL := Lib.hid hrn
  have HWL5 := Lib.hid hwn
  have HWL6 := Lib.hid hhn
  clear hx2 hr2 hq2
  go_upto_region 3 with fail
  go_loopw [30] (fun i wr => ∃ (k : Nat) (a : Option Addr) (c : Nat), k ≤ s.rn ∧ i = .int .i64 k ∧ DS1 w W2 wr q l s k a c) (fun i _ => s.rn - (intOf i).toNat)
  case atStart => exact ⟨0, none, 0, Nat.zero_le _, rfl, grown_refl _ _, HQ2.out, World.ownsRow_nil _ _ _ _⟩
  case round =>
    obtain ⟨k, a, c, hk, rfl, hD⟩ := hrel
    have hBr := hB2.grown hD.g hB2.size (fun j hj => by cases hj; omega)
    by_cases hkn : k < s.rn
    · clear h4
      obtain ⟨b, off, hab, hc⟩ := HA.out.refs.seg (by omega)
      obtain ⟨r, hr⟩ : ∃ r, l.refs[k]? = some r := ⟨_, List.getElem?_eq_getElem (by have := HA.out.refs.len; omega)⟩
      have G := hc k r hr
      have hs := seg_below G.2 hBr
      have lr := G.1.1.1
      have HRk := Lib.hid hr
      have HG1 := Lib.hid G.1
      have HD := Lib.hid hD
      have hcI : (s.rn : Int) ≤ 9223372036854775807 := by have h1 := HA.out.refs.row.cap; have h2 := HA.out.refs.row.le; unfold maxLen at h1; omega
      have hk0 : (0 : Int) ≤ (k : Int) := by omega
      have hkI : (k : Int) < (s.rn : Int) := by omega
      clear hc hr hD G
      rw [hab]
      (repeat ((fail_if_success (with_reducible show wpList _ _ _ (Oper.mk _ (Op.store _ _ _) _ _ _ _ :: _) _ _)); first | go_values | go_skip | go_guarded | go_step | go_upon))
      have hz := blk0 wr (rfC rf0) 52
      refine wpList_store_seg (w := wr.alloc (.cells (rfC rf0) 52)) rfl 52 _ _ rfl rfl wr.heap.size 0 rfl (rfC r) rfl 52 (rfC rf0) hz (by rw [rfC_size lr]; decide) (info_rf' lr) (one_rf r) (rfC r) (put_whole _ _ (by rw [rfC_size lr]; rfl)) ?_
      intro w3 hq3 hg3 hs3
      clear hs3
      have hb3 : Below wr.heap.size wr w3 := ((Below.refl _ _).alloc (Nat.le_refl _) (.cells (rfC rf0) 52)).grown hg3 (by simp) (fun k hk => by cases hk; omega)
      have hD3 := DS1.quiet HD.out hb3
      have HD3 := Lib.hid hD3
      have hc4 := (blk_cell hD3.hq).1 4
      rw [show (letC ⟨l.kind, l.from_, l.to_, l.session, l.refs.take k, [], [], l.off, l.total, l.pack, l.data⟩ { LS.none with ra := a, rn := k, rc := c, da := s.da, dn := s.dn, dc := s.dc })[4]? = some (.slice a k c) from rfl] at hc4
      have k0 := show w3.cell? ⟨wr.heap.size, 0, none⟩ = some (.string r.name) from (blk_cell hq3).1 0
      have hsx := seg_rf hq3 lr
      have hi32 : (idC r.id).size = 32 := by simp [idC, lr]
      have hi33 := rfC_size lr
      clear hz hg3 hs hq3 hb3 hD3
      generalize wr.heap.size = p at *
      go_upto_region 5 with fail
      (repeat ((fail_if_success at_builtin); first | go_values | go_skip | go_guarded | go_step | go_upon))
      have hz := blk0 w3 (rfC r) 64
      clear hc4 k0 hsx hi32 hi33
      refine app_drf (w := w3.alloc (.cells (rfC r) 64)) rfl _ _ rfl W2.heap.size (.slice a k c) k _ rfl (own_below HD3.out.own (grow1' w3 (rfC r) 64)) w3.heap.size 1 r rfl hz lr (by have h2 := HRL.out; omega) (by have := HD3.out.g.size; simp; omega) ?_
      intro v4 w4 ho4 hg4
      obtain ⟨a4, c4, rfl, _⟩ := own_form ho4
      have hD4 := DS1.push HD3.out (grown_trans (grown_below (grow1' w3 (rfC r) 64)) hg4) (fun j hj => ((World.ownsRow.lt HD3.out.own) j hj).1) (Nat.lt_of_lt_of_le hql (Nat.le_refl _)) HRk.out ho4
      have HD4 := Lib.hid hD4.2.2
      have hc4 := hD4.1
      have hf4 := hD4.2.1
      clear hD4 hz ho4 hg4
      go_wp2_with fail
      go_roundw
      case rel => exact ⟨k + 1, a4, c4, by omega, by go_num, HD4.out⟩
      case measure => simp [intOf]; omega
    · obtain rfl : k = s.rn := by omega
      have htk : l.refs.take s.rn = l.refs := List.take_of_length_le (by rw [HA.out.refs.len]; exact Nat.le_refl _)
      have hq3 := hD.hq
      have ho3 := hD.own
      rw [htk] at hq3 ho3
      have hab3 : ∀ x, a = some x → q < x.block := fun x hx => by have := ((World.ownsRow.lt ho3) x.block (by rw [hx]; rfl)).1; omega
      have hRf : Rfs wr a s.rn c l.refs := ⟨own_sl ho3, HA.out.refs.all⟩
      have hx3 := (hD.g.block w.heap.size (blk_cell HX2.out).2.2 (by simp; omega)).trans HX2.out
      have hr3 := (hD.g.block (w.heap.size + 1) (blk_cell HR2.out).2.2 (by simp; omega)).trans HR2.out
      clear htk ho3 hD h4 hB2 HQ2
      obtain ⟨W3, rfl⟩ : ∃ W3 : World, W3 = wr := ⟨_, rfl⟩
      have hql3 := (blk_cell hq3).2.2
      have HX3 := Lib.hid hx3; have HR3 := Lib.hid hr3; have HQ3 := Lib.hid hq3
      have h5 := ((blk_cell hx3).1 5).trans x5
      clear hx3 hr3 hq3
      go_upto_region 8 with fail
      go_loopw [48] (fun i wr => ∃ (k : Nat) (a5 : Option Addr) (c5 : Nat), k ≤ s.wn ∧ i = .int .i64 k ∧ DI W3 wr q l.wants (fun ds a' k' c' => letC ⟨l.kind, l.from_, l.to_, l.session, l.refs, ds, [], l.off, l.total, l.pack, l.data⟩ ⟨a, s.rn, c, a', k', c', none, 0, 0, s.da, s.dn, s.dc⟩) k a5 c5) (fun i _ => s.wn - (intOf i).toNat)
      case atStart => exact ⟨0, none, 0, Nat.zero_le _, rfl, grown_refl _ _, HQ3.out, World.ownsRow_nil _ _ _ _⟩
      case round =>
        obtain ⟨k, a5, c5, hk, rfl, hD⟩ := hrel
        have hBr5 := hBr.grown hD.g hBr.size (fun j hj => by cases hj; omega)
        by_cases hkn : k < s.wn
        · clear h5
          obtain ⟨b, off, hab, hc⟩ := HA.out.wants.seg (by omega)
          obtain ⟨d, hd⟩ : ∃ d, l.wants[k]? = some d := ⟨_, List.getElem?_eq_getElem (by have := HA.out.wants.len; omega)⟩
          have G := hc k d hd
          have hs := seg_below G.2 hBr5
          have ld := G.1.1
          have HDk := Lib.hid hd
          have HD := Lib.hid hD
          have hcI : (s.wn : Int) ≤ 9223372036854775807 := by have h1 := HA.out.wants.row.cap; have h2 := HA.out.wants.row.le; unfold maxLen at h1; omega
          have hk0 : (0 : Int) ≤ (k : Int) := by omega
          have hkI : (k : Int) < (s.wn : Int) := by omega
          clear hc hd hD G
          rw [hab]
          (repeat ((fail_if_success (with_reducible show wpList _ _ _ (Oper.mk _ (Op.store _ _ _) _ _ _ _ :: _) _ _)); first | go_values | go_skip | go_guarded | go_step | go_upon))
          have hz := blk0 wr (idC zero32) 25
          refine wpList_store_seg (w := wr.alloc (.cells (idC zero32) 25)) rfl 25 _ _ rfl rfl wr.heap.size 0 rfl (idC d) rfl 25 (idC zero32) hz (by rw [idC_size ld]; decide) (size_id' ld) (cells_id d) (idC d) (put_whole _ _ (by rw [idC_size ld]; rfl)) ?_
          intro w3 hq3 hg3 hs3
          clear hs3
          have hb3 : Below wr.heap.size wr w3 := ((Below.refl _ _).alloc (Nat.le_refl _) (.cells (idC zero32) 25)).grown hg3 (by simp) (fun k hk => by cases hk; omega)
          have hD3 := DI.quiet HD.out hb3
          have HD3 := Lib.hid hD3
          have hc4 := (blk_cell hD3.hq).1 5
          rw [show ((fun ds a' k' c' => letC ⟨l.kind, l.from_, l.to_, l.session, l.refs, ds, [], l.off, l.total, l.pack, l.data⟩ ⟨a, s.rn, c, a', k', c', none, 0, 0, s.da, s.dn, s.dc⟩) (l.wants.take k) a5 k c5)[5]? = some (.slice a5 k c5) from rfl] at hc4
          have hsx := seg_id hq3 ld
          have hi32 := idC_size ld
          clear hz hg3 hs hq3 hb3 hD3
          generalize wr.heap.size = p at *
          go_upto_region 10 with fail
          (repeat ((fail_if_success at_builtin); first | go_values | go_skip | go_guarded | go_step | go_upon))
          have hz := blk0 w3 (idC d) 24
          clear hc4 hsx hi32
          refine app_did (w := w3.alloc (.cells (idC d) 24)) rfl _ _ rfl W3.heap.size (.slice a5 k c5) k _ rfl (own_below HD3.out.own (grow1' w3 (idC d) 24)) w3.heap.size 1 d rfl hz ld (by have h2 := HWL5.out; omega) (by have := HD3.out.g.size; simp; omega) ?_
          intro v4 w4 ho4 hg4
          obtain ⟨a4, c4, rfl, _⟩ := own_form ho4
          have hD4 := DI.push HD3.out (grown_trans (grown_below (grow1' w3 (idC d) 24)) hg4) (fun j hj => ((World.ownsRow.lt HD3.out.own) j hj).1) hql3 HDk.out ho4 5 rfl rfl
          have HD4 := Lib.hid hD4.2.2
          have hc4 := hD4.1
          have hf4 := hD4.2.1
          clear hD4 hz ho4 hg4
          go_wp2_with fail
          go_roundw
          case rel => exact ⟨k + 1, a4, c4, by omega, by go_num, HD4.out⟩
          case measure => simp [intOf]; omega
        · obtain rfl : k = s.wn := by omega
          have htk : l.wants.take s.wn = l.wants := List.take_of_length_le (by rw [HA.out.wants.len]; exact Nat.le_refl _)
          have hq4 := hD.hq
          have ho4 := hD.own
          rw [htk] at hq4 ho4
          have hab4 : ∀ x, a5 = some x → q < x.block := fun x hx => by have := ((World.ownsRow.lt ho4) x.block (by rw [hx]; rfl)).1; omega
          have hWt : Ids wr a5 s.wn c5 l.wants := ⟨own_sl ho4, HA.out.wants.all⟩
          have hRf : Rfs wr a s.rn c l.refs := ⟨Sl.grownAway hRf.row hD.g (fun x hx => by have := hab3 x hx; omega), hRf.all⟩
          have hx4 := (hD.g.block w.heap.size (blk_cell HX3.out).2.2 (by simp; omega)).trans HX3.out
          have hr4 := (hD.g.block (w.heap.size + 1) (blk_cell HR3.out).2.2 (by simp; omega)).trans HR3.out
          clear htk ho4 hD h5 HQ3
          obtain ⟨W4, rfl⟩ : ∃ W4 : World, W4 = wr := ⟨_, rfl⟩
          have hql4 := (blk_cell hq4).2.2
          have HX4 := Lib.hid hx4; have HR4 := Lib.hid hr4; have HQ4 := Lib.hid hq4
          have h6 := ((blk_cell hx4).1 6).trans x6
          clear hx4 hr4 hq4
          go_upto_region 13 with fail
          go_loopw [62] (fun i wr => ∃ (k : Nat) (a6 : Option Addr) (c6 : Nat), k ≤ s.hn ∧ i = .int .i64 k ∧ DI W4 wr q l.haves (fun ds a' k' c' => letC ⟨l.kind, l.from_, l.to_, l.session, l.refs, l.wants, ds, l.off, l.total, l.pack, l.data⟩ ⟨a, s.rn, c, a5, s.wn, c5, a', k', c', s.da, s.dn, s.dc⟩) k a6 c6) (fun i _ => s.hn - (intOf i).toNat)
          case atStart => exact ⟨0, none, 0, Nat.zero_le _, rfl, grown_refl _ _, HQ4.out, World.ownsRow_nil _ _ _ _⟩
          case round =>
            obtain ⟨k, a6, c6, hk, rfl, hD⟩ := hrel
            have hBr6 := hBr5.grown hD.g hBr5.size (fun j hj => by cases hj; omega)
            by_cases hkn : k < s.hn
            · clear h6
              obtain ⟨b, off, hab, hc⟩ := HA.out.haves.seg (by omega)
              obtain ⟨d, hd⟩ : ∃ d, l.haves[k]? = some d := ⟨_, List.getElem?_eq_getElem (by have := HA.out.haves.len; omega)⟩
              have G := hc k d hd
              have hs := seg_below G.2 hBr6
              have ld := G.1.1
              have HDk := Lib.hid hd
              have HD := Lib.hid hD
              have hcI : (s.hn : Int) ≤ 9223372036854775807 := by have h1 := HA.out.haves.row.cap; have h2 := HA.out.haves.row.le; unfold maxLen at h1; omega
              have hk0 : (0 : Int) ≤ (k : Int) := by omega
              have hkI : (k : Int) < (s.hn : Int) := by omega
              clear hc hd hD G
              rw [hab]
              (repeat ((fail_if_success (with_reducible show wpList _ _ _ (Oper.mk _ (Op.store _ _ _) _ _ _ _ :: _) _ _)); first | go_values | go_skip | go_guarded | go_step | go_upon))
              have hz := blk0 wr (idC zero32) 25
              refine wpList_store_seg (w := wr.alloc (.cells (idC zero32) 25)) rfl 25 _ _ rfl rfl wr.heap.size 0 rfl (idC d) rfl 25 (idC zero32) hz (by rw [idC_size ld]; decide) (size_id' ld) (cells_id d) (idC d) (put_whole _ _ (by rw [idC_size ld]; rfl)) ?_
              intro w3 hq3 hg3 hs3
              clear hs3
              have hb3 : Below wr.heap.size wr w3 := ((Below.refl _ _).alloc (Nat.le_refl _) (.cells (idC zero32) 25)).grown hg3 (by simp) (fun k hk => by cases hk; omega)
              have hD3 := DI.quiet HD.out hb3
              have HD3 := Lib.hid hD3
              have hc4 := (blk_cell hD3.hq).1 6
              rw [show ((fun ds a' k' c' => letC ⟨l.kind, l.from_, l.to_, l.session, l.refs, l.wants, ds, l.off, l.total, l.pack, l.data⟩ ⟨a, s.rn, c, a5, s.wn, c5, a', k', c', s.da, s.dn, s.dc⟩) (l.haves.take k) a6 k c6)[6]? = some (.slice a6 k c6) from rfl] at hc4
              have hsx := seg_id hq3 ld
              have hi32 := idC_size ld
              clear hz hg3 hs hq3 hb3 hD3
              generalize wr.heap.size = p at *
              go_upto_region 15 with fail
              (repeat ((fail_if_success at_builtin); first | go_values | go_skip | go_guarded | go_step | go_upon))
              have hz := blk0 w3 (idC d) 24
              clear hc4 hsx hi32
              refine app_did (w := w3.alloc (.cells (idC d) 24)) rfl _ _ rfl W4.heap.size (.slice a6 k c6) k _ rfl (own_below HD3.out.own (grow1' w3 (idC d) 24)) w3.heap.size 1 d rfl hz ld (by have h2 := HWL6.out; omega) (by have := HD3.out.g.size; simp; omega) ?_
              intro v4 w4 ho4 hg4
              obtain ⟨a4, c4, rfl, _⟩ := own_form ho4
              have hD4 := DI.push HD3.out (grown_trans (grown_below (grow1' w3 (idC d) 24)) hg4) (fun j hj => ((World.ownsRow.lt HD3.out.own) j hj).1) hql4 HDk.out ho4 6 rfl rfl
              have HD4 := Lib.hid hD4.2.2
              have hc4 := hD4.1
              have hf4 := hD4.2.1
              clear hD4 hz ho4 hg4
              go_wp2_with fail
              go_roundw
              case rel => exact ⟨k + 1, a4, c4, by omega, by go_num, HD4.out⟩
              case measure => simp [intOf]; omega
            · obtain rfl : k = s.hn := by omega
              have htk : l.haves.take s.hn = l.haves := List.take_of_length_le (by rw [HA.out.haves.len]; exact Nat.le_refl _)
              have hq5 := hD.hq
              have ho5 := hD.own
              rw [htk] at hq5 ho5
              have hHv : Ids wr a6 s.hn c6 l.haves := ⟨own_sl ho5, HA.out.haves.all⟩
              have hWt : Ids wr a5 s.wn c5 l.wants := ⟨Sl.grownAway hWt.row hD.g (fun x hx => by have := hab4 x hx; omega), hWt.all⟩
              have hRf : Rfs wr a s.rn c l.refs := ⟨Sl.grownAway hRf.row hD.g (fun x hx => by have := hab3 x hx; omega), hRf.all⟩
              have hr5 := (hD.g.block (w.heap.size + 1) (blk_cell HR4.out).2.2 (by simp; omega)).trans HR4.out
              have hHA := HA.out.below hBr6
              have hfin : LetA wr l ⟨a, s.rn, c, a5, s.wn, c5, a6, s.hn, c6, s.da, s.dn, s.dc⟩ := ⟨hRf, hWt, hHv, hHA.data, hpk, hHA.bytes, hHA.packb⟩
              have hq6 : wr.heap[q]? = some (.cells (letC l ⟨a, s.rn, c, a5, s.wn, c5, a6, s.hn, c6, s.da, s.dn, s.dc⟩) 37 (0, 0)) := hq5
              have hsl := seg_let hq6 hpk
              have HF := Lib.hid hfin
              have HX1 := letC_one l ⟨a, s.rn, c, a5, s.wn, c5, a6, s.hn, c6, s.da, s.dn, s.dc⟩
              have HXs := letC_size l ⟨a, s.rn, c, a5, s.wn, c5, a6, s.hn, c6, s.da, s.dn, s.dc⟩ hpk
              have hab5 : ∀ x, a6 = some x → q < x.block := fun x hx => by have := ((World.ownsRow.lt ho5) x.block (by rw [hx]; rfl)).1; omega
              clear htk ho5 hD h6 HQ4 hq5 hfin hHA hq6
              (repeat ((fail_if_success (with_reducible show wpList _ _ _ (Oper.mk _ (Op.store _ _ _) _ _ _ _ :: _) _ _)); first | go_values | go_skip | go_guarded | go_step | go_upon))
              refine wpList_store_seg (w := wr) rfl 37 _ _ rfl rfl (w.heap.size + 1) 0 rfl (letC l ⟨a, s.rn, c, a5, s.wn, c5, a6, s.hn, c6, s.da, s.dn, s.dc⟩) rfl 37 (letC zeroL LS.none) hr5 (by rw [HXs, letC_size _ _ rfl]; decide) (by rw [HXs]; exact info_dlet) HX1 (letC l ⟨a, s.rn, c, a5, s.wn, c5, a6, s.hn, c6, s.da, s.dn, s.dc⟩) (put_whole _ _ (by rw [HXs, letC_size _ _ rfl])) ?_
              intro w9 hq9 hg9 hs9
              clear hs9
              have hB9 := hBr6.grown hg9 hBr6.size (fun j hj => by cases hj; omega)
              have hF9 : LetA w9 l ⟨a, s.rn, c, a5, s.wn, c5, a6, s.hn, c6, s.da, s.dn, s.dc⟩ := ⟨⟨Sl.grownAway HF.out.refs.row hg9 (fun x hx => by have := hab3 x hx; omega), HF.out.refs.all⟩, ⟨Sl.grownAway HF.out.wants.row hg9 (fun x hx => by have := hab4 x hx; omega), HF.out.wants.all⟩, ⟨Sl.grownAway HF.out.haves.row hg9 (fun x hx => by have := hab5 x hx; omega), HF.out.haves.all⟩, (HA.out.below hB9).data, hpk, HF.out.bytes, HF.out.packb⟩
              clear hsl hr5 hg9
              go_wp2_with fail
              exact bodyPost_ret (results_cell_row rfl _ _ _ 37 _ (0, 0) _ rfl hq9 Try.underlying37 rfl (by rw [HXs]; exact info_dlet)) rfl ⟨_, rfl, hB9, hF9⟩

end Go.Proofs.Ytfjbmgfkfeehnaa
