/- All bytes are read as operations, as said: the walk. -/
import Derived.Test.YtdghnfihphlboaaRefO
namespace Go.Proofs.Ytdghnfihphlboaa
open Go.RowKit

theorem stsC_int : ∀ (l : List St) (v : Value), v ∈ stsC l → ∃ z, v = .int .i64 z
  | [], v, h => by cases h
  | s :: l, v, h => by
    rw [stsC_cons] at h
    simp only [List.mem_cons] at h
    rcases h with h | h | h
    · exact ⟨_, h⟩
    · exact ⟨_, h⟩
    · exact stsC_int l v h
theorem OpA.setP {w w' : World} {o : OpL} {a : Option Addr} {n c p : Nat} {x : Option Addr} {y z : Nat} {b : Bool} {t : TypeId} (h : OpA w o a n c) (hp : w.heap[p]? = some (.cells #[.slice x y z, .bool b] t (0, 0))) (k : w.grownBy w' (some p)) : OpA w' o a n c := by
  refine ⟨⟨h.over.len, h.over.le, h.over.cap, h.over.nil, fun hn => ?_⟩, h.data, h.name⟩
  obtain ⟨b', off, ha, hc⟩ := h.over.cells hn
  refine ⟨b', off, ha, fun j hj => ?_⟩
  have hl := h.over.len
  have hv := hc j hj
  rw [List.getElem?_eq_getElem (by omega)] at hv ⊢
  refine k.cell hv (fun e => ?_)
  obtain ⟨u, hu⟩ := stsC_int _ _ (List.getElem_mem (l := stsC o.over) (n := j) (by omega))
  rw [hu] at hv
  have e : b' = p := Option.some.inj e
  subst e
  rw [(blk_cell hp).1 (off + j)] at hv
  match off + j, hv with
  | 0, hv => simp at hv
  | 1, hv => simp at hv
  | _ + 2, hv => simp at hv
theorem RdBytes.textOf {s : Rd} (n : Int) (h : RdBytes s) : RdBytes (textOf (n, s)).2 := by
  cases s with
  | none => exact h
  | some l =>
    intro m hm
    unfold Go.Proofs.Ytdghnfihphlboaa.textOf at hm
    simp only [] at hm
    split at hm
    · cases hm; exact (h l rfl).drop _
    · cases hm
theorem RdBytes.getRaw {s : Rd} (h : RdBytes s) : RdBytes (getRaw s).2 := by
  unfold Go.Proofs.Ytdghnfihphlboaa.getRaw
  have h0 := h.getNum 2
  have h1 := h0.getSt
  have h2 := h1.getSt
  simp only []
  split
  · exact RdBytes.textOf _ (h2.getSt.getNum 60)
  · exact (h2.getId.getNum 64).getSts _
theorem RdBytes.getOp {s : Rd} (h : RdBytes s) : RdBytes (getOp s).2 := by
  unfold Go.Proofs.Ytdghnfihphlboaa.getOp
  split
  · exact h.getRaw
  · intro l hl; cases hl

set_option maxRecDepth 100000 in
set_option maxHeartbeats 4000000 in
theorem reads_any (a : Option Addr) (n c : Nat) (l : List Int) (w : World) (h : Bs w a n c l) (hl : l.length ≤ 140737488351232) (hby : IsBytes l) :
    Calls Try.prog 8 #[.slice a n c] w (Ret w (.bool true)) := by
  have HBs := Lib.hid h
  clear h
  go_enter Try.func8, Try.ntmps8
  go_wp2_with fail
  refine (read_any _ _ _ l _ HBs.out (by omega)).mono ?_
  rintro e w1 ⟨g, rfl, hb1, hrd, hgl, hgs⟩
  dsimp only
  go_wp2_with fail
  go_at_call 11
  refine (alive_any _).mono ?_
  rintro e w2 ⟨rfl, hb2⟩
  dsimp only
  have hB := Below.next hb1 hb2
  have hrd := hrd.belowW hb2 (Nat.le_of_lt hgs)
  go_upto_region 6 with fail
  have hrp := new1 w2 #[.slice a n c, .bool false] 48
  have hpg : g < w2.heap.size := hrd.lt
  have hrd := hrd.belowW (grow1 w2 (.cells #[.slice a n c, .bool false] 48)) (Nat.le_of_lt hpg)
  have hB := Below.next hB (grow1 w2 (.cells #[.slice a n c, .bool false] 48))
  have hwp : w.heap.size ≤ w2.heap.size := by omega
  clear hb1 hb2 hgs
  generalize w2.alloc (.cells #[.slice a n c, .bool false] 48) = W0 at *
  generalize w2.heap.size = p at *
  go_loopw [5] (fun i wr => ∃ (k : Nat) (s : Rd) (a : Option Addr) (n c : Nat) (b : Bool), k ≤ 50 ∧ i = .int .i64 k ∧ RdAt wr g g s ∧ RdBytes s ∧ Below w.heap.size w wr ∧ wr.heap[p]? = some (.cells #[.slice a n c, .bool b] 48 (0, 0)) ∧ InC w s a n c b) (fun i _ => 50 - (intOf i).toNat)
  case atStart => exact ⟨0, some l, a, n, c, false, by omega, rfl, hrd, fun l hl => by cases hl; exact hby, hB, hrp, rfl, HBs.out⟩
  case round =>
    clear hrd hrp hB hby hl
    obtain ⟨k, s, a1, n1, c1, b1, hk, rfl, hrd, hbs, hB, hrp, hi⟩ := hrel
    by_cases hk50 : k < 50
    · have hget := oget_any g g s wr hrd hbs (Nat.le_of_lt hrd.lt)
      have hbs' := hbs.getOp
      have hrg := fun (W : World) (hw : Below w.heap.size w W) => rget_any s a1 n1 c1 b1 w W hw hi hbs
      obtain ⟨O, s', hx⟩ : ∃ O s', getOp s = (O, s') := ⟨_, _, rfl⟩
      rw [hx] at hget hbs'
      have HRG := Lib.hid hrg
      have HX := Lib.hid hx
      have HG := Lib.hid hget
      have HBS := Lib.hid hbs'
      clear hrg hx hget hbs hbs' hi hrd
      (repeat ((fail_if_success (with_reducible show wpList _ _ _ (Oper.mk _ (Op.store _ _ _) _ _ _ _ :: _) _ _)); first | go_values | go_skip | go_guarded | go_step | go_upon))
      refine HG.out.mono ?_
      rintro e w3 ⟨a2, n2, c2, rfl, hg3, hrd, ho⟩
      dsimp only at hrd ho ⊢
      have hB := below_grown hB hg3 hgl
      have hrp := grown_at hg3 hrp (by omega)
      have hlt3 := lt_of hrp
      (repeat ((fail_if_success (with_reducible show wpList _ _ _ (Oper.mk _ (Op.store _ _ _) _ _ _ _ :: _) _ _)); first | go_values | go_skip | go_guarded | go_step | go_upon))
      have hz := new1 w3 (opC zop (.slice none 0 0)) 33
      have hzs : (opC O (.slice a2 n2 c2)).size = 41 := (opC_x O (.slice a2 n2 c2) ho.data).size
      refine wpList_store_seg (w := w3.alloc (.cells (opC zop (.slice none 0 0)) 33)) rfl 33 _ _ rfl rfl w3.heap.size 0 rfl (opC O (.slice a2 n2 c2)) rfl 33 (opC zop (.slice none 0 0)) hz (by rw [hzs]; simp [opC, zop, zero32]) (by rw [hzs]; exact info_op) (opC_one _ _ rfl) (opC O (.slice a2 n2 c2)) (put_whole _ _ (by rw [hzs]; simp [opC, zop, zero32])) ?_
      intro w4 h6 hg4 _
      have hb34 : Below w3.heap.size w3 w4 := (grow1 w3 _).grown hg4 (grow1 w3 _).size (fun j hj => by cases hj; exact Nat.le_refl _)
      have hB := Below.next hB hb34
      have hrp := keep hrp hb34
      have hrd := hrd.belowW hb34 (Nat.le_of_lt hrd.lt)
      have ho := ho.below hb34
      have hbx6 := boxed_of h6 hzs
      clear hb34 hg4 hz h6 hg3
      generalize w3.heap.size = q6 at *
      have hp0 := (blk_cell hrp).1 0
      have hp1 := (blk_cell hrp).1 1
      simp only [List.getElem?_toArray, List.getElem?_cons_zero, List.getElem?_cons_succ] at hp0 hp1
      go_wp2_with fail
      have hc := HRG.out w4 hB
      rw [HX.out] at hc
      refine hc.mono ?_
      rintro e w5 ⟨a3, n3, c3, a4, n4, c4, b4, rfl, hb5, ho2, hi⟩
      dsimp only at ho2 hi ⊢
      have hB := Below.next hB hb5
      have hrp := keep hrp hb5
      have hrd := hrd.belowW hb5 (Nat.le_of_lt hrd.lt)
      have ho := ho.below hb5
      have hbx6 := boxed_below hbx6 hb5
      clear hc hp0 hp1 hb5
      (repeat ((fail_if_success (with_reducible show wpList _ _ _ (Oper.mk _ (Op.store _ _ _) _ _ _ _ :: _) _ _)); first | go_values | go_skip | go_guarded | go_step | go_upon))
      have hz7 := keep (new1 w5 (opC zop (.slice none 0 0)) 33) (grow1 (w5.alloc (.cells (opC zop (.slice none 0 0)) 33)) (.cells #[.slice none 0 0, .bool false] 48))
      have hz8 : ((w5.alloc (.cells (opC zop (.slice none 0 0)) 33)).alloc (.cells #[.slice none 0 0, .bool false] 48)).heap[w5.heap.size + 1]? = some (.cells #[.slice none 0 0, .bool false] 48 (0, 0)) := by
        simpa using new1 (w5.alloc (.cells (opC zop (.slice none 0 0)) 33)) #[.slice none 0 0, .bool false] 48
      have hys : (opC O (.slice a3 n3 c3)).size = 41 := (opC_x O (.slice a3 n3 c3) ho2.data).size
      refine wpList_store_seg (w := (w5.alloc (.cells (opC zop (.slice none 0 0)) 33)).alloc (.cells #[.slice none 0 0, .bool false] 48)) rfl 33 _ _ rfl rfl w5.heap.size 0 rfl (opC O (.slice a3 n3 c3)) rfl 33 (opC zop (.slice none 0 0)) hz7 (by rw [hys]; simp [opC, zop, zero32]) (by rw [hys]; exact info_op) (opC_one _ _ rfl) (opC O (.slice a3 n3 c3)) (put_whole _ _ (by rw [hys]; simp [opC, zop, zero32])) ?_
      intro w6 h7 hg6 _
      have h8 := grown_at hg6 hz8 (by omega)
      have hb56 : Below w5.heap.size w5 w6 := (Below.next (grow1 w5 _) (grow1 _ _)).grown hg6 (Below.next (grow1 w5 _) (grow1 _ _)).size (fun j hj => by cases hj; exact Nat.le_refl _)
      have hlt5 := lt_of hrp
      (repeat ((fail_if_success (with_reducible show wpList _ _ _ (Oper.mk _ (Op.store _ _ _) _ _ _ _ :: _) _ _)); first | go_values | go_skip | go_guarded | go_step | go_upon))
      refine wpList_store_seg rfl 48 _ _ rfl rfl (w5.heap.size + 1) 0 rfl #[.slice a4 n4 c4, .bool b4] rfl 48 #[.slice none 0 0, .bool false] h8 (by simp) info_in one_in #[.slice a4 n4 c4, .bool b4] rfl ?_
      intro w7 h8' hg7 _
      have h7 := grown_at hg7 h7 (by omega)
      have hb57 : Below w5.heap.size w5 w7 := hb56.grown hg7 hb56.size (fun j hj => by cases hj; omega)
      have hB := Below.next hB hb57
      have hrp := keep hrp hb57
      have hrd := hrd.belowW hb57 (Nat.le_of_lt hrd.lt)
      have ho := ho.below hb57
      have ho2 := ho2.below hb57
      have hbx6 := boxed_below hbx6 hb57
      have hbx7 := boxed_of h7 hys
      clear hb57 hb56 hg7 hg6 hz7 hz8 h8 h7
      generalize w5.heap.size = q7 at *
      have hp0 := (blk_cell h8').1 0
      have hp1 := (blk_cell h8').1 1
      simp only [List.getElem?_toArray, List.getElem?_cons_zero, List.getElem?_cons_succ] at hp0 hp1
      go_upto_region 10 with fail
      (repeat ((fail_if_success (with_reducible show wpList _ _ _ (Oper.mk _ (Op.store _ _ _) _ _ _ _ :: _) _ _)); first | go_values | go_skip | go_guarded | go_step | go_upon))
      refine wpList_store_seg rfl 48 _ _ rfl rfl p 0 rfl #[.slice a4 n4 c4, .bool b4] rfl 48 #[.slice a1 n1 c1, .bool b1] hrp (by simp) info_in one_in #[.slice a4 n4 c4, .bool b4] rfl ?_
      intro w8 h9 hg8 _
      have hB := below_grown hB hg8 hwp
      have hrd := hrd.grown' hg8 (by omega) (by omega) (Nat.le_of_lt hrd.lt)
      have ho := ho.setP hrp hg8
      have ho2 := ho2.setP hrp hg8
      have hbx6 := boxed_kept hbx6 (hg8.block _ (boxed_lt hbx6) (by simp; omega))
      have hbx7 := boxed_kept hbx7 (hg8.block _ (boxed_lt hbx7) (by simp; omega))
      clear hg8 hrp h8' hp0 hp1
      have hbad := hi.bad
      have hlen := hi.len
      have hs1 := fun (W : World) (hW : Below w8.heap.size w8 W) => rsame_any O O a2 n2 c2 a3 n3 c3 W (ho.below hW) (ho2.below hW)
      rw [show sameB O O = true by simp [sameB]] at hs1
      have A1 := fun (d : Nat) (os : Array Obj) => Calls.regrown_of (hs1 _ (grow_below w8 d os))
      have A2 := fun (d : Nat) (os : Array Obj) => Calls.regrown_of ((rdgood_any g g s' _ (hrd.belowW (grow_below w8 d os) (Nat.le_of_lt hrd.lt))).mono fun e w' ⟨he, hw⟩ => (⟨he, hw ▸ Below.refl _ _⟩ : Ret _ _ e w'))
      have A3 := fun (d : Nat) (os : Array Obj) => Calls.regrown_of ((rdleft_any g g s' _ (hrd.belowW (grow_below w8 d os) (Nat.le_of_lt hrd.lt))).mono fun e w' ⟨he, hw⟩ => (⟨he, hw ▸ Below.refl _ _⟩ : Ret _ _ e w'))
      have q6' := fun (d : Nat) (os : Array Obj) => boxed_below hbx6 (grow_below w8 d os)
      have q7' := fun (d : Nat) (os : Array Obj) => boxed_below hbx7 (grow_below w8 d os)
      have hp0 := (blk_cell h9).1 0
      have hp1 := (blk_cell h9).1 1
      simp only [List.getElem?_toArray, List.getElem?_cons_zero, List.getElem?_cons_succ] at hp0 hp1
      have k0 := cell_regrown hp0
      have k1 := cell_regrown hp1
      obtain ⟨bs, hbs⟩ : ∃ bs, s'.isSome = bs := ⟨_, rfl⟩
      rw [hbs] at A2 hbad
      obtain ⟨m, hm⟩ : ∃ m, (s'.getD []).length = m := ⟨_, rfl⟩
      rw [hm] at A3 hlen
      have hee : (bs == !bs) = false := by cases bs <;> rfl
      have HI := Lib.hid hi
      have HRD := Lib.hid hrd
      have H9 := Lib.hid h9
      subst hlen
      clear hs1 ho ho2 hbx6 hbx7 hi hrd h9 hp0 hp1 hm
      rw [hbad] at k1
      go_wp2_with fail
      (refine wp_region_quiet_below (by kernel_rfl) (by kernel_rfl) ?_; (repeat (go_big_quiet_step ((first | with_reducible exact A1 _ _ | with_reducible exact A2 _ _ | with_reducible exact A3 _ _)))); refine wpQuiet_nil ?_; intro _ hw'; obtain ⟨⟨dq, osq⟩, hw''⟩ := hw'; subst hw'')
      have k1' := k1 dq osq
      have hBf := Below.next hB (grow_below w8 dq osq)
      have HBf := Lib.hid hBf
      clear k0 k1 q6' q7' A1 A2 A3 hee hBf
      cases bs with
      | false =>
        go_wp2_with fail
        go_ret
        exact Ret.mk rfl HBf.out
      | true =>
        go_wp2_with fail
        go_roundw
        case rel =>
          exact ⟨k + 1, s', a4, _, c4, b4, by omega, by go_num, HRD.out.belowW (grow_below w8 dq osq) (Nat.le_of_lt HRD.out.lt), HBS.out, HBf.out, keep H9.out (grow_below w8 dq osq), HI.out⟩
        case measure => simp [intOf]; omega
    · obtain rfl : k = 50 := by omega
      clear hi hrp hrd
      go_wp2_with fail
      go_ret
      exact Ret.mk rfl hB

end Go.Proofs.Ytdghnfihphlboaa
