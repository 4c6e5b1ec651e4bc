/- The document's reader: operations. -/
import Derived.Test.YtdghnfihphlboaaRefI
import Derived.Test.YtdghnfihphlboaaGet
import Derived.Test.YtdghnfihphlboaaBoxO
namespace Go.Proofs.Ytdghnfihphlboaa
open Go.RowKit

/-- An operation and a reader are handed back. -/
def RGet (w0 w : World) (x : OpL × Rd) (e : Ending) (w' : World) : Prop :=
  ∃ a n c a' n' c' b', e = .returned (.tuple #[.agg (opC x.1 (.slice a n c)), .agg #[.slice a' n' c', .bool b']]) ∧ Below w.heap.size w w' ∧ OpA w' x.1 a n c ∧ InC w0 x.2 a' n' c' b'
theorem keep {w w' : World} {g : Nat} {o : Obj} (h : w.heap[g]? = some o) (hb : Below w.heap.size w w') : w'.heap[g]? = some o := by
  have hlt : g < w.heap.size := by
    rcases Nat.lt_or_ge g w.heap.size with hl | hl
    · exact hl
    · rw [Array.getElem?_eq_none hl] at h; cases h
  exact (hb.block g hlt).trans h
theorem grow1 (w : World) (o : Obj) : Below w.heap.size w (w.alloc o) := (Below.refl _ _).alloc (Nat.le_refl _) _
theorem new1 (w : World) (X : Array Value) (t : TypeId) : (w.alloc (.cells X t)).heap[w.heap.size]? = some (.cells X t (0, 0)) := blk0 w X t
theorem lt_of {w : World} {g : Nat} {o : Obj} (h : w.heap[g]? = some o) : g < w.heap.size := by
  rcases Nat.lt_or_ge g w.heap.size with hl | hl
  · exact hl
  · rw [Array.getElem?_eq_none hl] at h; cases h

theorem own_keep {w w' : World} {g : Nat} {o : Obj} {b : Option Nat} (h : w.heap[g]? = some o) (k : w.grownBy w' b) (hne : b ≠ some g) : w'.heap[g]? = some o := (k.block g (lt_of h) (fun e => hne e.symm)).trans h
/-- 'append(s, x)' of one stamp, s the call's own. -/
theorem app_sts {ops : Array Oper} {rest : List Oper} {o : Oper} {a : Act} {w : World} {Q : Exit → Act → World → Prop} (hgd : o.guard = none) (s x : Operand)
    (ho : o.op = .call { callee := .builtin .append, args := #[s, x], argTypes := #[31, 31] })
    (base : Nat) (v : Value) (n : Nat) (xs : List Value) (hs : a.eval s = v) (hown : w.ownsRow base 23 2 v n xs) (b c : Nat) (t r : Int) (hx : a.eval x = .slice (some ⟨b, 0, none⟩) 1 c)
    (hc0 : w.cell? ⟨b, 0, none⟩ = some (.int .i64 t)) (hc1 : w.cell? ⟨b, 1, none⟩ = some (.int .i64 r)) (hn : n + 1 ≤ 64) (hbase : base ≤ w.heap.size)
    (h : ∀ v' w', w'.ownsRow base 23 2 v' (n + 1) (xs ++ [.int .i64 t, .int .i64 r]) → w.grownBy w' v.ownBlock → wpList Try.prog ops Q rest (a.put o.dst v') w') : wpList Try.prog ops Q (o :: rest) a w := by
  obtain ⟨i0, hi, hz0, hz1, hz2⟩ := info_parts info_st3
  refine wpList_append_own w hgd s x 31 ho base 23 i0 _ 2 16 Try.underlying31 hi hz0 hz1 hz2 rfl (by decide) v n xs hs hown ⟨b, 0, none⟩ 1 c [.int .i64 t, .int .i64 r] hx rfl
    (fun j y hj => ?_) (fun y hy => by simp at hy; rcases hy with rfl | rfl <;> rfl) (by unfold maxLen; omega) (by omega) hbase fun v' w' h1 h2 _ => h v' w' h1 h2
  match j, hj with
  | 0, hj => simp at hj; subst hj; simpa [Addr.add] using hc0
  | 1, hj => simp at hj; subst hj; simpa [Addr.add] using hc1
  | _ + 2, hj => simp at hj
theorem getSts_stay {S0 : Rd} {j : Nat} (h : (getSts j S0).2 = none) : ∀ m, j ≤ m → (getSts m S0).2 = none := by
  intro m
  induction m with
  | zero =>
    intro hj
    have e : j = 0 := by omega
    rw [e] at h
    exact h
  | succ m ih =>
    intro hj
    by_cases hjm : j = m + 1
    · subst hjm; exact h
    · rw [getSts_snoc]
      simp only [ih (by omega)]
      rfl

/-- While an operation is read: the results at w.heap.size + 1, + 2; the operation at q, the reader at p. -/
structure RS (w W : World) (q p : Nat) (X : Array Value) (a : Option Addr) (n c : Nat) (b : Bool) : Prop where
  B : Below w.heap.size w W
  r2 : W.heap[w.heap.size + 1]? = some (.cells (opC zop (.slice none 0 0)) 33 (0, 0))
  r3 : W.heap[w.heap.size + 2]? = some (.cells #[.slice none 0 0, .bool false] 48 (0, 0))
  rq : W.heap[q]? = some (.cells X 33 (0, 0))
  rp : W.heap[p]? = some (.cells #[.slice a n c, .bool b] 48 (0, 0))
  h1 : w.heap.size + 2 < p
  h2 : p < q
theorem RS.call {w W W' : World} {q p : Nat} {X : Array Value} {a : Option Addr} {n c : Nat} {b : Bool} (h : RS w W q p X a n c b) (k : Below W.heap.size W W') : RS w W' q p X a n c b :=
  ⟨Below.next h.B k, keep h.r2 k, keep h.r3 k, keep h.rq k, keep h.rp k, h.h1, h.h2⟩
theorem RS.setQ {w W W' : World} {q p : Nat} {X X' : Array Value} {a : Option Addr} {n c : Nat} {b : Bool} (h : RS w W q p X a n c b) (hq : W'.heap[q]? = some (.cells X' 33 (0, 0))) (k : W.grownBy W' (some q)) : RS w W' q p X' a n c b := by
  have h1 := h.h1
  have h2 := h.h2
  exact ⟨h.B.grown k h.B.size (fun j hj => by cases hj; omega), grown_at k h.r2 (by omega), grown_at k h.r3 (by omega), hq, grown_at k h.rp (by omega), h.h1, h.h2⟩
theorem RS.setP {w W W' : World} {q p : Nat} {X : Array Value} {a a' : Option Addr} {n n' c c' : Nat} {b b' : Bool} (h : RS w W q p X a n c b) (hp : W'.heap[p]? = some (.cells #[.slice a' n' c', .bool b'] 48 (0, 0))) (k : W.grownBy W' (some p)) : RS w W' q p X a' n' c' b' := by
  have h1 := h.h1
  have h2 := h.h2
  exact ⟨h.B.grown k h.B.size (fun j hj => by cases hj; omega), grown_at k h.r2 (by omega), grown_at k h.r3 (by omega), grown_at k h.rq (by omega), hp, h.h1, h.h2⟩

theorem RS.own {w W W' : World} {q p : Nat} {X : Array Value} {a : Option Addr} {n c : Nat} {b : Bool} {r : Option Nat} (h : RS w W q p X a n c b) (k : W.grownBy W' r) (hr : ∀ j, r = some j → q < j) : RS w W' q p X a n c b := by
  have h1 := h.h1
  have h2 := h.h2
  have f : ∀ g, g ≤ q → r ≠ some g := fun g hg e => by have := hr g e; omega
  exact ⟨h.B.grown k h.B.size (fun j hj => by have := hr j hj; omega), own_keep h.r2 k (f _ (by omega)), own_keep h.r3 k (f _ (by omega)), own_keep h.rq k (f _ (Nat.le_refl _)), own_keep h.rp k (f _ (by omega)), h.h1, h.h2⟩

set_option maxRecDepth 100000 in
set_option maxHeartbeats 4000000 in
theorem rget_any (s : Rd) (a : Option Addr) (n c : Nat) (b : Bool) (w0 w : World) (hbw : Below w0.heap.size w0 w) (h : InC w0 s a n c b) (hby : RdBytes s) :
    Calls Try.prog 30 #[.agg #[.slice a n c, .bool b]] w (RGet w0 w (getOp s)) := by
  have hby0 := hby.getNum 2
  have hby1 := hby0.getSt
  have hby2 := hby1.getSt
  have hby3 := hby2.getSt
  have HC1 := Lib.hid (fun W hb => rgnum_any 2 s a n c b w0 W hb h hby)
  obtain ⟨k, s0, hk⟩ : ∃ k s0, getNum 2 s = (k, s0) := ⟨_, _, rfl⟩
  have HK := Lib.hid hk
  rw [hk] at HC1 hby0 hby1 hby2 hby3
  simp only at HC1 hby0 hby1 hby2 hby3
  obtain ⟨s1, s2, hs1, hs2⟩ : ∃ x y, getSt s0 = x ∧ getSt x.2 = y := ⟨_, _, rfl, rfl⟩
  have HS1 := Lib.hid hs1
  have HS2 := Lib.hid hs2
  rw [hs1] at hby1 hby2 hby3
  rw [hs2] at hby2 hby3
  have H0 := Lib.hid hby0; have H1 := Lib.hid hby1; have H2 := Lib.hid hby2; have H3 := Lib.hid hby3
  clear hby0 hby1 hby2 hby3 hby h hk hs1 hs2
  go_enter Try.func30, Try.ntmps30
  go_upto_region 1 with fail
  obtain ⟨W0, hW0⟩ : ∃ W0, W0 = ((w.alloc (.cells #[.slice a n c, .bool b] 48)).alloc (.cells (opC zop (.slice none 0 0)) 33)).alloc (.cells #[.slice none 0 0, .bool false] 48) := ⟨_, rfl⟩
  have hB : Below w.heap.size w W0 := by rw [hW0]; exact Below.next (Below.next (grow1 _ _) (grow1 _ _)) (grow1 _ _)
  have hr2 : W0.heap[w.heap.size + 1]? = some (.cells (opC zop (.slice none 0 0)) 33 (0, 0)) := by
    rw [hW0]
    refine keep ?_ (grow1 _ _)
    simpa using new1 (w.alloc (.cells #[.slice a n c, .bool b] 48)) (opC zop (.slice none 0 0)) 33
  have hr3 : W0.heap[w.heap.size + 2]? = some (.cells #[.slice none 0 0, .bool false] 48 (0, 0)) := by
    rw [hW0]
    simpa using new1 ((w.alloc (.cells #[.slice a n c, .bool b] 48)).alloc (.cells (opC zop (.slice none 0 0)) 33)) #[.slice none 0 0, .bool false] 48
  have hr1 : W0.heap[w.heap.size]? = some (.cells #[.slice a n c, .bool b] 48 (0, 0)) := by
    rw [hW0]
    exact keep (keep (new1 w _ _) (grow1 _ _)) (grow1 _ _)
  have hc0 := (blk_cell hr1).1 0
  have hc1 := (blk_cell hr1).1 1
  simp only [List.getElem?_toArray, List.getElem?_cons_zero, List.getElem?_cons_succ] at hc0 hc1
  show Code.wp _ _ _ _ (((w.alloc (.cells #[.slice a n c, .bool b] 48)).alloc (.cells (opC zop (.slice none 0 0)) 33)).alloc (.cells #[.slice none 0 0, .bool false] 48))
  rw [← hW0]
  clear hW0
  have R1 := Lib.hid hr1; have R2 := Lib.hid hr2; have R3 := Lib.hid hr3
  clear hr1 hr2 hr3
  go_wp2_with fail
  refine (HC1.out _ (Below.next hbw hB)).mono ?_
  rintro e w1 ⟨a1, n1, c1, b1, rfl, hb, hi⟩
  dsimp only
  have hr2 := keep R2.out hb
  have hr3 := keep R3.out hb
  have hB := Below.next hB hb
  clear R1 R2 R3 hc0 hc1 hb
  have hA := grow1 w1 (.cells #[.slice a1 n1 c1, .bool b1] 48)
  have hr2 := keep hr2 hA
  have hr3 := keep hr3 hA
  have hB := Below.next hB hA
  have HI := Lib.hid hi
  clear hA hi
  -- the first stamp
  go_wp2_with fail
  have hc := rgstamp_any s0 a1 n1 c1 b1 w0 _ (Below.next hbw hB) HI.out H0.out
  rw [HS1.out] at hc
  refine hc.mono ?_
  rintro e w2 ⟨a2, n2, c2, b2, rfl, hb, hi⟩
  dsimp only
  have hr2 := keep hr2 hb
  have hr3 := keep hr3 hb
  have hB := Below.next hB hb
  have HI := Lib.hid hi
  clear hc hb hi
  go_upto_region 3 with fail
  have hA := grow1 w2 (.cells #[.int .i64 s1.1.t, .int .i64 s1.1.r] 23)
  have hA2 := grow1 (w2.alloc (.cells #[.int .i64 s1.1.t, .int .i64 s1.1.r] 23)) (.cells #[.slice a2 n2 c2, .bool b2] 48)
  have hr6 := keep (new1 w2 #[.int .i64 s1.1.t, .int .i64 s1.1.r] 23) hA2
  have hr7 := new1 (w2.alloc (.cells #[.int .i64 s1.1.t, .int .i64 s1.1.r] 23)) #[.slice a2 n2 c2, .bool b2] 48
  have hr2 := keep (keep hr2 hA) hA2
  have hr3 := keep (keep hr3 hA) hA2
  have hB := Below.next (Below.next hB hA) hA2
  clear hA hA2
  have hr6 : ((w2.alloc (.cells #[.int .i64 s1.1.t, .int .i64 s1.1.r] 23)).alloc (.cells #[.slice a2 n2 c2, .bool b2] 48)).heap[w2.heap.size]? = some (.cells #[.int .i64 s1.1.t, .int .i64 s1.1.r] 23 (0, 0)) := hr6
  have hr7 : ((w2.alloc (.cells #[.int .i64 s1.1.t, .int .i64 s1.1.r] 23)).alloc (.cells #[.slice a2 n2 c2, .bool b2] 48)).heap[w2.heap.size + 1]? = some (.cells #[.slice a2 n2 c2, .bool b2] 48 (0, 0)) := by simpa using hr7
  generalize (w2.alloc (.cells #[.int .i64 s1.1.t, .int .i64 s1.1.r] 23)).alloc (.cells #[.slice a2 n2 c2, .bool b2] 48) = W2 at *
  generalize w2.heap.size = q6 at *
  have hc70 := (blk_cell hr7).1 0
  have hc71 := (blk_cell hr7).1 1
  simp only [List.getElem?_toArray, List.getElem?_cons_zero, List.getElem?_cons_succ] at hc70 hc71
  -- the second stamp
  go_wp2_with fail
  have hc := rgstamp_any s1.2 a2 n2 c2 b2 w0 _ (Below.next hbw hB) HI.out H1.out
  rw [HS2.out] at hc
  refine hc.mono ?_
  rintro e w3 ⟨a3, n3, c3, b3, rfl, hb, hi⟩
  dsimp only
  have hr2 := keep hr2 hb
  have hr3 := keep hr3 hb
  have hr6 := keep hr6 hb
  have hB := Below.next hB hb
  have HI := Lib.hid hi
  clear hc hb hi hc70 hc71 hr7
  go_upto_region 4 with fail
  have hlt0 := lt_of hr3
  have hA := grow1 w3 (.cells #[.int .i64 s2.1.t, .int .i64 s2.1.r] 23)
  have hA2 := grow1 (w3.alloc (.cells #[.int .i64 s2.1.t, .int .i64 s2.1.r] 23)) (.cells #[.slice a3 n3 c3, .bool b3] 48)
  have hr8 := keep (new1 w3 #[.int .i64 s2.1.t, .int .i64 s2.1.r] 23) hA2
  have hr9 : ((w3.alloc (.cells #[.int .i64 s2.1.t, .int .i64 s2.1.r] 23)).alloc (.cells #[.slice a3 n3 c3, .bool b3] 48)).heap[w3.heap.size + 1]? = some (.cells #[.slice a3 n3 c3, .bool b3] 48 (0, 0)) := by
    simpa using new1 (w3.alloc (.cells #[.int .i64 s2.1.t, .int .i64 s2.1.r] 23)) #[.slice a3 n3 c3, .bool b3] 48
  have hr2 := keep (keep hr2 hA) hA2
  have hr3 := keep (keep hr3 hA) hA2
  have hr6 := keep (keep hr6 hA) hA2
  have hB := Below.next (Below.next hB hA) hA2
  have hlt3 : w.heap.size + 2 < w3.heap.size + 1 := by omega
  clear hA hA2
  generalize (w3.alloc (.cells #[.int .i64 s2.1.t, .int .i64 s2.1.r] 23)).alloc (.cells #[.slice a3 n3 c3, .bool b3] 48) = W3 at *
  generalize w3.heap.size = q8 at *
  have hc60 := (blk_cell hr6).1 0
  have hc61 := (blk_cell hr6).1 1
  have hc80 := (blk_cell hr8).1 0
  have hc81 := (blk_cell hr8).1 1
  simp only [List.getElem?_toArray, List.getElem?_cons_zero, List.getElem?_cons_succ] at hc60 hc61 hc80 hc81
  (repeat ((fail_if_success (with_reducible show wpList _ _ _ (Oper.mk _ (Op.store _ _ _) _ _ _ _ :: _) _ _)); first | go_values | go_skip | go_guarded | go_step | go_upon))
  have hz := new1 W3 (opC zop (.slice none 0 0)) 33
  refine wpList_store_seg (w := W3.alloc (.cells (opC zop (.slice none 0 0)) 33)) rfl 33 _ _ rfl rfl W3.heap.size 0 rfl (opC ⟨k, s1.1, s2.1, ⟨0, 0⟩, ⟨#[]⟩, zero32, []⟩ (.slice none 0 0)) rfl 33 (opC zop (.slice none 0 0)) hz (by simp [opC, zop]) info_op (opC_one _ _ rfl) (opC ⟨k, s1.1, s2.1, ⟨0, 0⟩, ⟨#[]⟩, zero32, []⟩ (.slice none 0 0)) rfl ?_
  intro W4 hr10 hg4 hs4
  have hS : RS w W4 W3.heap.size (q8 + 1) (opC ⟨k, s1.1, s2.1, ⟨0, 0⟩, ⟨#[]⟩, zero32, []⟩ (.slice none 0 0)) a3 n3 c3 b3 := by
    have hA := grow1 W3 (.cells (opC zop (.slice none 0 0)) 33)
    have h2 := lt_of hr2
    have h3 := lt_of hr3
    have h9 := lt_of hr9
    exact ⟨(Below.next hB hA).grown hg4 (Below.next hB hA).size (fun j hj => by cases hj; exact hB.size), grown_at hg4 (keep hr2 hA) (by omega), grown_at hg4 (keep hr3 hA) (by omega), hr10, grown_at hg4 (keep hr9 hA) (by omega), hlt3, h9⟩
  clear hr2 hr3 hr6 hr8 hr9 hB hr10 hg4 hs4 hz hc60 hc61 hc80 hc81
  generalize W3.heap.size = q at *
  have hp0 := (blk_cell hS.rp).1 0
  have hp1 := (blk_cell hS.rp).1 1
  simp only [List.getElem?_toArray, List.getElem?_cons_zero, List.getElem?_cons_succ] at hp0 hp1
  by_cases hk1 : k = 1
  · have hk' : (k == 1) = true := by simpa using hk1
    have HK1 := Lib.hid hk1
    clear hk1
    go_wp2_with fail
    have hc := rgstamp_any s2.2 a3 n3 c3 b3 w0 _ (Below.next hbw hS.B) HI.out H2.out
    obtain ⟨s3, hs3⟩ : ∃ s3, getSt s2.2 = s3 := ⟨_, rfl⟩
    have HS3 := Lib.hid hs3
    have hby3 := H3.out
    rw [hs3] at hc hby3
    have H4 := Lib.hid hby3
    clear hs3 hby3
    refine hc.mono ?_
    rintro e w4 ⟨a4, n4, c4, b4, rfl, hb, hi⟩
    dsimp only
    have hS := hS.call hb
    have HI := Lib.hid hi
    clear hc hb hi hp0 hp1
    go_upto_region 7 with fail
    have hr11 := keep (new1 w4 #[.int .i64 s3.1.t, .int .i64 s3.1.r] 23) (grow1 (w4.alloc (.cells #[.int .i64 s3.1.t, .int .i64 s3.1.r] 23)) (.cells #[.slice a4 n4 c4, .bool b4] 48))
    have hr12 : ((w4.alloc (.cells #[.int .i64 s3.1.t, .int .i64 s3.1.r] 23)).alloc (.cells #[.slice a4 n4 c4, .bool b4] 48)).heap[w4.heap.size + 1]? = some (.cells #[.slice a4 n4 c4, .bool b4] 48 (0, 0)) := by
      simpa using new1 (w4.alloc (.cells #[.int .i64 s3.1.t, .int .i64 s3.1.r] 23)) #[.slice a4 n4 c4, .bool b4] 48
    have hS := (hS.call (grow1 w4 (.cells #[.int .i64 s3.1.t, .int .i64 s3.1.r] 23))).call (grow1 _ (.cells #[.slice a4 n4 c4, .bool b4] 48))
    have hq11 := lt_of hS.rq
    generalize (w4.alloc (.cells #[.int .i64 s3.1.t, .int .i64 s3.1.r] 23)).alloc (.cells #[.slice a4 n4 c4, .bool b4] 48) = W5 at *
    generalize w4.heap.size = q11 at *
    have hp0 := (blk_cell hr12).1 0
    have hp1 := (blk_cell hr12).1 1
    simp only [List.getElem?_toArray, List.getElem?_cons_zero, List.getElem?_cons_succ] at hp0 hp1
    go_wp2_with fail
    have hc := rgtext_any 60 s3.2 a4 n4 c4 b4 w0 _ (Below.next hbw hS.B) HI.out H4.out
    obtain ⟨tx, S, htx⟩ : ∃ tx S, getText 60 s3.2 = (tx, S) := ⟨_, _, rfl⟩
    have HTX := Lib.hid htx
    have hts := toS_le s3.2
    rw [htx] at hc hts
    have HTS := Lib.hid hts
    clear htx hts
    refine hc.mono ?_
    rintro e w5 ⟨a, n, c, b, rfl, hb, hi⟩
    dsimp only
    have hS := hS.call hb
    have hr11 := keep hr11 hb
    have HI := Lib.hid hi
    clear hc hb hi hp0 hp1 hr12
    go_upto_region 8 with fail
    have hq14 := lt_of hS.rq
    have hr14 := new1 w5 #[.slice a n c, .bool b] 48
    have hS := hS.call (grow1 w5 (.cells #[.slice a n c, .bool b] 48))
    have hr11 := keep hr11 (grow1 w5 (.cells #[.slice a n c, .bool b] 48))
    generalize w5.alloc (.cells #[.slice a n c, .bool b] 48) = W6 at *
    generalize w5.heap.size = q14 at *
    have hc0 := (blk_cell hr11).1 0
    have hc1 := (blk_cell hr11).1 1
    simp only [List.getElem?_toArray, List.getElem?_cons_zero, List.getElem?_cons_succ] at hc0 hc1
    (repeat ((fail_if_success (with_reducible show wpList _ _ _ (Oper.mk _ (Op.store _ _ _) _ _ _ _ :: _) _ _)); first | go_values | go_skip | go_guarded | go_step | go_upon))
    refine wpList_store_seg rfl 23 _ _ rfl rfl q 5 rfl #[.int .i64 s3.1.t, .int .i64 s3.1.r] rfl 33 _ hS.rq (opC_ge _ _ _ (by simp)) info_st (one_st _ _) _ (put_parent _ _ s3.1) ?_
    intro W7 h1 h2 h3
    have hS := hS.setQ h1 h2
    have hr14 := grown_at h2 hr14 (by omega)
    clear h1 h2 h3 hc0 hc1
    have hcx := (blk_cell hS.rq).1 7
    have f7 := (blk_cell hS.rq).2.1 7
    have x7 := (opC_x ⟨k, s1.1, s2.1, s3.1, ⟨#[]⟩, zero32, []⟩ (.slice none 0 0) rfl).x7
    have c7 : W7.cell? ⟨q, 7, none⟩ = some (.string ⟨#[]⟩) := hcx.trans x7
    clear hcx x7
    go_upto_region 10 with fail
    have hT := hS.setQ (heap_setCell_same W7 q 7 _ _ (.string (toS tx)) hS.rq) (grown_set _ _ _ _)
    have hr14 := grown_at (grown_set W7 q 7 (.string (toS tx))) hr14 (by omega)
    clear c7 f7 hS
    generalize W7.setCell ⟨q, 7, none⟩ (.string (toS tx)) = W8 at *
    have hc0 := (blk_cell hr14).1 0
    have hc1 := (blk_cell hr14).1 1
    simp only [List.getElem?_toArray, List.getElem?_cons_zero, List.getElem?_cons_succ] at hc0 hc1
    (repeat ((fail_if_success (with_reducible show wpList _ _ _ (Oper.mk _ (Op.store _ _ _) _ _ _ _ :: _) _ _)); first | go_values | go_skip | go_guarded | go_step | go_upon))
    refine wpList_store_seg rfl 48 _ _ rfl rfl (q8 + 1) 0 rfl #[.slice a n c, .bool b] rfl 48 #[.slice a3 n3 c3, .bool b3] hT.rp (by simp) info_in one_in #[.slice a n c, .bool b] rfl ?_
    intro W h1 h2 h3
    have hT := hT.setP h1 h2
    clear h1 h2 h3 hc0 hc1 hr14
    obtain ⟨O, hOd⟩ : ∃ O : OpL, O = ⟨k, s1.1, s2.1, s3.1, toS tx, zero32, []⟩ := ⟨_, rfl⟩
    have hR : getRaw s = (O, S) := by
      simp only [getRaw, HK.out, HS1.out, HS2.out, HS3.out, HTX.out, HK1.out, if_true]
      rw [hOd, HK1.out]
    have hXE : opC O (.slice none 0 0) = (opC ⟨k, s1.1, s2.1, s3.1, ⟨#[]⟩, zero32, []⟩ (.slice none 0 0)).setIfInBounds 7 (.string (toS tx)) := by rw [hOd]; rfl
    rw [← hXE] at hT
    obtain ⟨av, nv, cv, hac, hO, hov⟩ : ∃ a n c, (Value.slice none 0 0) = .slice a n c ∧ OpA W O a n c ∧ ∀ x, a = some x → w.heap.size + 2 < x.block := ⟨none, 0, 0, rfl, by rw [hOd]; exact ⟨Sl.empty _ _, rfl, HTS.out⟩, fun x hx => by cases hx⟩
    rw [hac] at hT
    have hXs := (opC_x O (.slice av nv cv) hO.data).size
    obtain ⟨X, hXd⟩ : ∃ X, opC O (.slice av nv cv) = X := ⟨_, rfl⟩
    rw [hXd] at hT hXs
    clear hXE hac hOd
    have HXd := Lib.hid hXd
    clear hXd
    generalize q8 + 1 = p at *
    (have hq1 := (blk_cell hT.rp).1 1; simp only [List.getElem?_toArray, List.getElem?_cons_zero, List.getElem?_cons_succ] at hq1; cases S with
      | none =>
        have hb : b = true := HI.out.2.2.2
        subst hb
        go_upto_region 22 with fail
        (repeat ((fail_if_success (with_reducible show wpList _ _ _ (Oper.mk _ (Op.store _ _ _) _ _ _ _ :: _) _ _)); first | go_values | go_skip | go_guarded | go_step | go_upon))
        refine wpList_store_idle rfl 33 _ _ rfl rfl (w.heap.size + 1) rfl (opC zop (.slice none 0 0)) rfl 33 hT.r2 info_op (opC_one _ _ rfl) ?_
        (repeat ((fail_if_success (with_reducible show wpList _ _ _ (Oper.mk _ (Op.store _ _ _) _ _ _ _ :: _) _ _)); first | go_values | go_skip | go_guarded | go_step | go_upon))
        refine wpList_store_seg rfl 48 _ _ rfl rfl (w.heap.size + 2) 0 rfl #[.slice none 0 0, .bool true] rfl 48 #[.slice none 0 0, .bool false] hT.r3 (by simp) info_in one_in #[.slice none 0 0, .bool true] rfl ?_
        intro w9 hr9 hg9 _
        have hr2 := (hg9.block _ (blk_cell hT.r2).2.2 (by simp)).trans hT.r2
        go_wp2_with fail
        refine bodyPost_ret (results_cells2 rfl _ _ (w.heap.size + 1) (w.heap.size + 2) 33 48 (opC zop (.slice none 0 0)) #[.slice none 0 0, .bool true] (0, 0) (0, 0) _ _ rfl rfl hr2 hr9 Try.underlying33 rfl info_op Try.underlying48 rfl info_in) rfl ?_
        rw [getOp_none hR]
        exact ⟨none, 0, 0, none, 0, 0, true, rfl, hT.B.grown hg9 hT.B.size (fun k hk => by cases hk; omega), zop_a _, rfl, rfl, rfl, rfl⟩
      | some l =>
        have hb : b = false := HI.out.1
        subst hb
        have hbx := boxed_of hT.rq hXs
        have hG : ∀ w', Below W.heap.size W w' → Calls Try.prog 19 #[.agg X] w' (Ret w' (.bool (goodB O))) := fun w' hb => HXd.out ▸ rgood_any O av nv cv w' (hO.below hb)
        have HGd := Lib.hid hG
        clear hG
        cases hgd : goodB O with
        | false =>
          rw [hgd] at HGd
          go_upto_region 22 with (go_at_call 19; (with_reducible refine (HGd.out _ (Below.refl _ _)).mono ?_); rintro e w6 ⟨rfl, hb⟩; have hT := hT.call hb)
          (repeat ((fail_if_success (with_reducible show wpList _ _ _ (Oper.mk _ (Op.store _ _ _) _ _ _ _ :: _) _ _)); first | go_values | go_skip | go_guarded | go_step | go_upon))
          refine wpList_store_idle rfl 33 _ _ rfl rfl (w.heap.size + 1) rfl (opC zop (.slice none 0 0)) rfl 33 hT.r2 info_op (opC_one _ _ rfl) ?_
          (repeat ((fail_if_success (with_reducible show wpList _ _ _ (Oper.mk _ (Op.store _ _ _) _ _ _ _ :: _) _ _)); first | go_values | go_skip | go_guarded | go_step | go_upon))
          refine wpList_store_seg rfl 48 _ _ rfl rfl (w.heap.size + 2) 0 rfl #[.slice none 0 0, .bool true] rfl 48 #[.slice none 0 0, .bool false] hT.r3 (by simp) info_in one_in #[.slice none 0 0, .bool true] rfl ?_
          intro w9 hr9 hg9 _
          have hr2 := (hg9.block _ (blk_cell hT.r2).2.2 (by simp)).trans hT.r2
          go_wp2_with fail
          refine bodyPost_ret (results_cells2 rfl _ _ (w.heap.size + 1) (w.heap.size + 2) 33 48 (opC zop (.slice none 0 0)) #[.slice none 0 0, .bool true] (0, 0) (0, 0) _ _ rfl rfl hr2 hr9 Try.underlying33 rfl info_op Try.underlying48 rfl info_in) rfl ?_
          rw [getOp_bad hR hgd]
          exact ⟨none, 0, 0, none, 0, 0, true, rfl, hT.B.grown hg9 hT.B.size (fun k hk => by cases hk; omega), zop_a _, rfl, rfl, rfl, rfl⟩
        | true =>
          rw [hgd] at HGd
          go_upto_region 23 with (go_at_call 19; (with_reducible refine (HGd.out _ (Below.refl _ _)).mono ?_); rintro e w6 ⟨rfl, hb⟩; have hT := hT.call hb; have hO := hO.below hb; have hbx := boxed_below hbx hb)
          have hx2 := boxW_of hT.r2 (n := 41) rfl
          have hbx2 := boxed_of hT.r2 (n := 41) rfl
          have hc30 := (blk_cell hT.r3).1 0
          have hc31 := (blk_cell hT.r3).1 1
          have hf30 := (blk_cell hT.r3).2.1 0
          have hf31 := (blk_cell hT.r3).2.1 1
          have hp0 := (blk_cell hT.rp).1 0
          have hp1 := (blk_cell hT.rp).1 1
          simp only [List.getElem?_toArray, List.getElem?_cons_zero, List.getElem?_cons_succ] at hc30 hc31 hp0 hp1
          have hn1 := hT.h1
          have hn2 := hT.h2
          have e1 : ¬ p = w.heap.size + 1 := (by omega)
          have e2 : ¬ p = w.heap.size + 2 := (by omega)
          have e3 : ¬ q = w.heap.size + 1 := (by omega)
          have hX1 : ones X = true := HXd.out ▸ ones_op O av nv cv
          have HT := Lib.hid hT
          have HO := Lib.hid hO
          have HRr := Lib.hid hR
          clear hT hO hR
          go_region_law (fail)
          all_goals
            go_wp2_with fail
            have hF := fin_heap (W := w6.drew) (cs := X) (x := .slice a n c) (y := .bool false) HT.out.r2 HT.out.r3 (by omega)
            refine bodyPost_ret (results_cells2 rfl _ _ (w.heap.size + 1) (w.heap.size + 2) 33 48 X #[.slice a n c, .bool false] (0, 0) (0, 0) _ _ rfl rfl hF.1 hF.2 Try.underlying33 rfl (by rw [hXs]; exact info_op) Try.underlying48 rfl info_in) rfl ?_
            rw [getOp_good HRr.out hgd]
            refine ⟨av, nv, cv, a, n, c, false, (by rw [HXd.out]), fin_below HT.out.B.drew (by omega) (by omega), ⟨?_, HO.out.data, HO.out.name⟩, HI.out⟩
            exact ((HO.out.over.drew.grownNe (grown_setRow _ _ _) (fun x hx => (by have := hov x hx; omega))).grownNe (grown_set _ _ _ _) (fun x hx => (by have := hov x hx; omega))).grownNe (grown_set _ _ _ _) (fun x hx => (by have := hov x hx; omega)))
  · have hk' : (k == 1) = false := by simpa using hk1
    have HK1 := Lib.hid hk1
    clear hk1
    go_wp2_with fail
    have hc := rgid_any s2.2 a3 n3 c3 b3 w0 _ (Below.next hbw hS.B) HI.out
    have hdl : (getId s2.2).1.length = 32 := id_len H2.out
    have hbyD := H2.out.getId
    obtain ⟨d, s3, hd⟩ : ∃ d s3, getId s2.2 = (d, s3) := ⟨_, _, rfl⟩
    have HD := Lib.hid hd
    rw [hd] at hc hdl hbyD
    have HDL := Lib.hid hdl
    have H4 := Lib.hid hbyD
    clear hd hdl hbyD
    refine hc.mono ?_
    rintro e w4 ⟨a4, n4, c4, b4, rfl, hb, hi⟩
    dsimp only
    have hS := hS.call hb
    have HI := Lib.hid hi
    clear hc hb hi hp0 hp1
    (repeat ((fail_if_success (with_reducible show wpList _ _ _ (Oper.mk _ (Op.store _ _ _) _ _ _ _ :: _) _ _)); first | go_values | go_skip | go_guarded | go_step | go_upon))
    have hz := keep (new1 w4 litZ 29) (grow1 (w4.alloc (.cells litZ 29)) (.cells #[.slice none 0 0, .bool false] 48))
    have hz16 : ((w4.alloc (.cells litZ 29)).alloc (.cells #[.slice none 0 0, .bool false] 48)).heap[w4.heap.size + 1]? = some (.cells #[.slice none 0 0, .bool false] 48 (0, 0)) := by
      simpa using new1 (w4.alloc (.cells litZ 29)) #[.slice none 0 0, .bool false] 48
    have hq15 := lt_of hS.rq
    have hS := (hS.call (grow1 w4 (.cells litZ 29))).call (grow1 _ (.cells #[.slice none 0 0, .bool false] 48))
    have hsi : (idC d).size = 32 := by simp [idC, HDL.out]
    have hnn := hS.h1
    have hpq := hS.h2
    refine wpList_store_seg (w := (w4.alloc (.cells litZ 29)).alloc (.cells #[.slice none 0 0, .bool false] 48)) rfl 29 _ _ rfl rfl w4.heap.size 0 rfl (idC d) rfl 29 litZ hz (by rw [hsi]; simp [litZ]) (by rw [hsi]; exact size_arr) (cells_id d) (idC d) (put_whole _ _ (by rw [hsi]; rfl)) ?_
    intro W5 h15 hg5 _
    have hS : RS w W5 q (q8 + 1) _ a3 n3 c3 b3 := ⟨hS.B.grown hg5 hS.B.size (fun j hj => by cases hj; omega), grown_at hg5 hS.r2 (by omega), grown_at hg5 hS.r3 (by omega), grown_at hg5 hS.rq (by omega), grown_at hg5 hS.rp (by omega), hS.h1, hS.h2⟩
    have h16 := grown_at hg5 hz16 (by omega)
    clear hz hz16 hg5
    generalize w4.heap.size = q15 at *
    (repeat ((fail_if_success (with_reducible show wpList _ _ _ (Oper.mk _ (Op.store _ _ _) _ _ _ _ :: _) _ _)); first | go_values | go_skip | go_guarded | go_step | go_upon))
    refine wpList_store_seg rfl 48 _ _ rfl rfl (q15 + 1) 0 rfl #[.slice a4 n4 c4, .bool b4] rfl 48 #[.slice none 0 0, .bool false] h16 (by simp) info_in one_in #[.slice a4 n4 c4, .bool b4] rfl ?_
    intro W6 h16' hg6 _
    have hS : RS w W6 q (q8 + 1) _ a3 n3 c3 b3 := ⟨hS.B.grown hg6 hS.B.size (fun j hj => by cases hj; omega), grown_at hg6 hS.r2 (by omega), grown_at hg6 hS.r3 (by omega), grown_at hg6 hS.rq (by omega), grown_at hg6 hS.rp (by omega), hS.h1, hS.h2⟩
    have h15 := grown_at hg6 h15 (by omega)
    clear h16 hg6
    have hp0 := (blk_cell h16').1 0
    have hp1 := (blk_cell h16').1 1
    simp only [List.getElem?_toArray, List.getElem?_cons_zero, List.getElem?_cons_succ] at hp0 hp1
    go_wp2_with fail
    have hc := rgnum_any 64 s3 a4 n4 c4 b4 w0 _ (Below.next hbw hS.B) HI.out H4.out
    have hnn := getNum_nonneg 64 s3
    have hle := getNum_le 64 (by omega) s3
    have hbyN := H4.out.getNum 64
    obtain ⟨m', S0, hm⟩ : ∃ m S0, getNum 64 s3 = (m, S0) := ⟨_, _, rfl⟩
    have HM := Lib.hid hm
    rw [hm] at hc hnn hle hbyN
    simp only at hc hnn hle hbyN
    obtain ⟨m, rfl⟩ : ∃ m : Nat, m' = m := ⟨m'.toNat, by omega⟩
    have H5 := Lib.hid hbyN
    clear hm hnn hbyN
    refine hc.mono ?_
    rintro e w6 ⟨a5, n5, c5, b5, rfl, hb, hi⟩
    dsimp only
    have hS := hS.call hb
    have h15 := keep h15 hb
    have HI := Lib.hid hi
    clear hc hb hi hp0 hp1 h16'
    go_upto_region 13 with fail
    have h18 := new1 w6 #[.slice a5 n5 c5, .bool b5] 48
    have hq18 := lt_of hS.rq
    have hS := hS.call (grow1 w6 (.cells #[.slice a5 n5 c5, .bool b5] 48))
    have h15 := keep h15 (grow1 w6 (.cells #[.slice a5 n5 c5, .bool b5] 48))
    generalize w6.alloc (.cells #[.slice a5 n5 c5, .bool b5] 48) = W7 at *
    generalize w6.heap.size = q18 at *
    have hx15 := boxW_of h15 hsi
    (repeat ((fail_if_success (with_reducible show wpList _ _ _ (Oper.mk _ (Op.store _ _ _) _ _ _ _ :: _) _ _)); first | go_values | go_skip | go_guarded | go_step | go_upon))
    refine wpList_store_seg rfl 30 _ _ rfl rfl q 8 rfl (idC d) rfl 33 _ hS.rq (by simp [opC, idC, HDL.out, zero32]) (by rw [hsi]; exact size_id) (cells_id _) _ (put_data _ _ _ rfl HDL.out) ?_
    intro W8 h1 h2 h3
    have hS := hS.setQ h1 h2
    have h18 := grown_at h2 h18 (by omega)
    clear h1 h2 h3 h15 hx15
    have hp0 := (blk_cell h18).1 0
    have hp1 := (blk_cell h18).1 1
    simp only [List.getElem?_toArray, List.getElem?_cons_zero, List.getElem?_cons_succ] at hp0 hp1
    go_upto_region 14 with fail
    (repeat ((fail_if_success (with_reducible show wpList _ _ _ (Oper.mk _ (Op.store _ _ _) _ _ _ _ :: _) _ _)); first | go_values | go_skip | go_guarded | go_step | go_upon))
    refine wpList_store_seg rfl 48 _ _ rfl rfl (q8 + 1) 0 rfl #[.slice a5 n5 c5, .bool b5] rfl 48 #[.slice a3 n3 c3, .bool b3] hS.rp (by simp) info_in one_in #[.slice a5 n5 c5, .bool b5] rfl ?_
    intro W9 h1 h2 h3
    have hS := hS.setP h1 h2
    clear h1 h2 h3 h18 hp0 hp1
    obtain ⟨D, hD⟩ : ∃ D : OpL, D = ⟨k, s1.1, s2.1, ⟨0, 0⟩, ⟨#[]⟩, d, []⟩ := ⟨_, rfl⟩
    have hS : RS w W9 q (q8 + 1) (opC D (.slice none 0 0)) a5 n5 c5 b5 := by rw [hD]; exact hS
    have hDl : D.data.length = 32 := by rw [hD]; exact HDL.out
    have hraw : getRaw s = (⟨k, s1.1, s2.1, ⟨0, 0⟩, ⟨#[]⟩, d, (getSts m S0).1⟩, (getSts m S0).2) := by
      simp only [getRaw, HK.out, HS1.out, HS2.out, HD.out, HM.out, if_neg HK1.out, Int.toNat_natCast]
    have HRaw := Lib.hid hraw
    have HDe := Lib.hid hD
    clear hraw hD hsi
    generalize q8 + 1 = p at *
    go_upto_region 16 with fail
    have hbyS : RdBytes (getSts 0 S0).2 := H5.out
    go_loopw [19] (fun i wr => ∃ (j : Nat) (v : Value) (a : Option Addr) (n c : Nat) (b : Bool), j ≤ m ∧ i = .int .i64 j ∧ RS w wr q p (opC D v) a n c b ∧ InC w0 (getSts j S0).2 a n c b ∧ wr.ownsRow (q + 1) 23 2 v j (stsC (getSts j S0).1)) (fun i _ => m - (intOf i).toNat)
    case atStart => exact ⟨0, _, _, _, _, _, Nat.zero_le _, rfl, hS, HI.out, World.ownsRow_nil _ _ _ _⟩
    case round =>
      clear hS HI hbyS
      obtain ⟨j, v, a, n, c, b, hj, rfl, hS, hi, hO⟩ := hrel
      have HI := Lib.hid hi
      have hp0 := (blk_cell hS.rp).1 0
      have hp1 := (blk_cell hS.rp).1 1
      simp only [List.getElem?_toArray, List.getElem?_cons_zero, List.getElem?_cons_succ] at hp0 hp1
      have hbj := H5.out.getSts j
      by_cases hjm : j < m
      · cases hs' : (getSts j S0).2 with
        | none =>
          rw [hs'] at hi HI
          have hR : getRaw s = (⟨k, s1.1, s2.1, ⟨0, 0⟩, ⟨#[]⟩, d, (getSts m S0).1⟩, none) := by rw [HRaw.out, getSts_stay hs' m (by omega)]
          have hT := hS
          clear hs' hi hS hbj
          have hb : b = true := HI.out.2.2.2
          subst hb
          go_upto_region 22 with fail
          (repeat ((fail_if_success (with_reducible show wpList _ _ _ (Oper.mk _ (Op.store _ _ _) _ _ _ _ :: _) _ _)); first | go_values | go_skip | go_guarded | go_step | go_upon))
          refine wpList_store_idle rfl 33 _ _ rfl rfl (w.heap.size + 1) rfl (opC zop (.slice none 0 0)) rfl 33 hT.r2 info_op (opC_one _ _ rfl) ?_
          (repeat ((fail_if_success (with_reducible show wpList _ _ _ (Oper.mk _ (Op.store _ _ _) _ _ _ _ :: _) _ _)); first | go_values | go_skip | go_guarded | go_step | go_upon))
          refine wpList_store_seg rfl 48 _ _ rfl rfl (w.heap.size + 2) 0 rfl #[.slice none 0 0, .bool true] rfl 48 #[.slice none 0 0, .bool false] hT.r3 (by simp) info_in one_in #[.slice none 0 0, .bool true] rfl ?_
          intro w9 hr9 hg9 _
          have hr2 := (hg9.block _ (blk_cell hT.r2).2.2 (by simp)).trans hT.r2
          go_wp2_with fail
          refine bodyPost_ret (results_cells2 rfl _ _ (w.heap.size + 1) (w.heap.size + 2) 33 48 (opC zop (.slice none 0 0)) #[.slice none 0 0, .bool true] (0, 0) (0, 0) _ _ rfl rfl hr2 hr9 Try.underlying33 rfl info_op Try.underlying48 rfl info_in) rfl ?_
          rw [getOp_none hR]
          exact ⟨none, 0, 0, none, 0, 0, true, rfl, hT.B.grown hg9 hT.B.size (fun k hk => by cases hk; omega), zop_a _, rfl, rfl, rfl, rfl⟩
        | some ls =>
          rw [hs'] at hi hbj
          have hb : b = false := hi.1
          subst hb
          have hlt := lt_of hS.rq
          have hc := rgstamp_any (some ls) a n c false w0 wr (Below.next hbw hS.B) hi hbj
          have HC := Lib.hid hc
          have HS' := Lib.hid hs'
          clear hc hs' hi hbj
          go_wp2_with fail
          refine HC.out.mono ?_
          rintro e w7 ⟨a7, n7, c7, b7, rfl, hb, hi7⟩
          dsimp only
          have hS := hS.call hb
          have hO := own_below hO hb
          have HI7 := Lib.hid hi7
          have hlt7 := lt_of hS.rq
          have HOlt := Lib.hid (show ∀ k, v.ownBlock = some k → k < w7.heap.size from fun k hk => (World.ownsRow.lt hO k hk).2)
          clear hp0 hp1 hi7 hb
          go_upto_region 19 with fail
          have h20 := keep (new1 w7 #[.int .i64 (getSt (some ls)).1.t, .int .i64 (getSt (some ls)).1.r] 23) (grow1 (w7.alloc (.cells #[.int .i64 (getSt (some ls)).1.t, .int .i64 (getSt (some ls)).1.r] 23)) (.cells #[.slice a7 n7 c7, .bool b7] 48))
          have h21 : ((w7.alloc (.cells #[.int .i64 (getSt (some ls)).1.t, .int .i64 (getSt (some ls)).1.r] 23)).alloc (.cells #[.slice a7 n7 c7, .bool b7] 48)).heap[w7.heap.size + 1]? = some (.cells #[.slice a7 n7 c7, .bool b7] 48 (0, 0)) := by
            simpa using new1 (w7.alloc (.cells #[.int .i64 (getSt (some ls)).1.t, .int .i64 (getSt (some ls)).1.r] 23)) #[.slice a7 n7 c7, .bool b7] 48
          have hS := (hS.call (grow1 w7 (.cells #[.int .i64 (getSt (some ls)).1.t, .int .i64 (getSt (some ls)).1.r] 23))).call (grow1 _ (.cells #[.slice a7 n7 c7, .bool b7] 48))
          have hO := own_below (own_below hO (grow1 w7 (.cells #[.int .i64 (getSt (some ls)).1.t, .int .i64 (getSt (some ls)).1.r] 23))) (grow1 _ (.cells #[.slice a7 n7 c7, .bool b7] 48))
          have hsz8 : ((w7.alloc (.cells #[.int .i64 (getSt (some ls)).1.t, .int .i64 (getSt (some ls)).1.r] 23)).alloc (.cells #[.slice a7 n7 c7, .bool b7] 48)).heap.size = w7.heap.size + 2 := by simp
          generalize (w7.alloc (.cells #[.int .i64 (getSt (some ls)).1.t, .int .i64 (getSt (some ls)).1.r] 23)).alloc (.cells #[.slice a7 n7 c7, .bool b7] 48) = W8 at *
          generalize w7.heap.size = q20 at *
          have hc0 := (blk_cell h20).1 0
          have hc1 := (blk_cell h20).1 1
          simp only [List.getElem?_toArray, List.getElem?_cons_zero, List.getElem?_cons_succ] at hc0 hc1
          have c40 : W8.cell? ⟨q, 40, none⟩ = some v := ((blk_cell hS.rq).1 40).trans (opC_x D v hDl).x40
          have hb8 : q + 1 ≤ W8.heap.size := by omega
          clear hsz8
          go_upto_region 20 with (at_builtin; refine app_sts rfl _ _ rfl (q + 1) _ j _ rfl (own_below hO (grow1 _ _)) W8.heap.size 1 (getSt (some ls)).1.t (getSt (some ls)).1.r rfl (by simp [go_sem]) (by simp [go_sem]) (by omega) (by simp; omega) ?_; intro v' w9 hO9 hg9; obtain ⟨a9, n9, rfl, _⟩ := own_form hO9; have hS := (hS.call (grow1 W8 (.cells #[.int .i64 (getSt (some ls)).1.t, .int .i64 (getSt (some ls)).1.r] 23))).own hg9 (fun k hk => own_base_lt hO hk); have h21 := own_keep (keep h21 (grow1 W8 (.cells #[.int .i64 (getSt (some ls)).1.t, .int .i64 (getSt (some ls)).1.r] 23))) hg9 (fun hk => (by have := HOlt.out _ hk; omega)); have c40 : w9.cell? ⟨q, 40, none⟩ = some v := ((blk_cell hS.rq).1 40).trans (opC_x D v hDl).x40; have f40 := (blk_cell hS.rq).2.1 40; clear hc0 hc1)
          have hS := hS.setQ (heap_setCell_same w9 q 40 _ _ (.slice a9 (j + 1) n9) hS.rq) (grown_set _ _ _ _)
          rw [opC_set _ _ _ hDl] at hS
          have h21 := grown_at (grown_set w9 q 40 (.slice a9 (j + 1) n9)) h21 (by omega)
          have hO := own_grown hO9 (grown_set w9 q 40 (.slice a9 (j + 1) n9)) (fun k e => by cases e; omega)
          clear c40 f40
          generalize w9.setCell ⟨q, 40, none⟩ (.slice a9 (j + 1) n9) = W10 at *
          have hp0 := (blk_cell h21).1 0
          have hp1 := (blk_cell h21).1 1
          simp only [List.getElem?_toArray, List.getElem?_cons_zero, List.getElem?_cons_succ] at hp0 hp1
          (repeat ((fail_if_success (with_reducible show wpList _ _ _ (Oper.mk _ (Op.store _ _ _) _ _ _ _ :: _) _ _)); first | go_values | go_skip | go_guarded | go_step | go_upon))
          refine wpList_store_seg rfl 48 _ _ rfl rfl p 0 rfl #[.slice a7 n7 c7, .bool b7] rfl 48 #[.slice a n c, .bool false] hS.rp (by simp) info_in one_in #[.slice a7 n7 c7, .bool b7] rfl ?_
          intro W11 h1 h2 h3
          have hS := hS.setP h1 h2
          have hO := own_grown hO h2 (fun k e => by cases e; omega)
          clear h1 h2 h3 hp0 hp1
          go_wp2_with fail
          go_roundw
          case rel =>
            refine ⟨j + 1, .slice a9 (j + 1) n9, a7, n7, c7, b7, by omega, by go_num, hS, ?_, ?_⟩
            · rw [getSts_snoc, HS'.out]; exact HI7.out
            · rw [getSts_snoc, HS'.out]
              simpa [stsC_append, stsC] using hO
          case measure => simp [intOf]; omega
      · obtain rfl : j = m := by omega
        obtain ⟨av, cv, rfl, _⟩ := own_form hO
        obtain ⟨O, hOd⟩ : ∃ O : OpL, O = ⟨k, s1.1, s2.1, ⟨0, 0⟩, ⟨#[]⟩, d, (getSts j S0).1⟩ := ⟨_, rfl⟩
        have hov : ∀ x, av = some x → w.heap.size + 2 < x.block := fun x hx => by
          have h1 := own_base_lt hO (j := x.block) (by rw [hx]; rfl)
          have h2 := hS.h2
          have h3 := hS.h1
          omega
        have hSl := own_sl hO
        have hO : OpA wr O av j cv := by rw [hOd]; exact ⟨hSl, HDL.out, by show (⟨#[]⟩ : ByteArray).size ≤ 9223372036854775807; decide⟩
        obtain ⟨S, hSd⟩ : ∃ S, (getSts j S0).2 = S := ⟨_, rfl⟩
        have hR : getRaw s = (O, S) := by rw [HRaw.out, hOd, hSd]
        have hT : RS w wr q p (opC O (.slice av j cv)) a n c b := by
          have h1 := hS
          rw [HDe.out] at h1
          rw [hOd]
          exact h1
        rw [hSd] at hi HI
        clear hS hSl hi hbj
        obtain ⟨nv, hnv⟩ : ∃ nv, nv = j := ⟨_, rfl⟩
        rw [← hnv] at hT hO
        clear hnv
        generalize wr = W at *
        have hXs := (opC_x O (.slice av nv cv) hO.data).size
        obtain ⟨X, hXd⟩ : ∃ X, opC O (.slice av nv cv) = X := ⟨_, rfl⟩
        rw [hXd] at hT hXs
        clear hOd hSd
        have HXd := Lib.hid hXd
        clear hXd
        (have hq1 := (blk_cell hT.rp).1 1; simp only [List.getElem?_toArray, List.getElem?_cons_zero, List.getElem?_cons_succ] at hq1; cases S with
          | none =>
            have hb : b = true := HI.out.2.2.2
            subst hb
            go_upto_region 22 with fail
            (repeat ((fail_if_success (with_reducible show wpList _ _ _ (Oper.mk _ (Op.store _ _ _) _ _ _ _ :: _) _ _)); first | go_values | go_skip | go_guarded | go_step | go_upon))
            refine wpList_store_idle rfl 33 _ _ rfl rfl (w.heap.size + 1) rfl (opC zop (.slice none 0 0)) rfl 33 hT.r2 info_op (opC_one _ _ rfl) ?_
            (repeat ((fail_if_success (with_reducible show wpList _ _ _ (Oper.mk _ (Op.store _ _ _) _ _ _ _ :: _) _ _)); first | go_values | go_skip | go_guarded | go_step | go_upon))
            refine wpList_store_seg rfl 48 _ _ rfl rfl (w.heap.size + 2) 0 rfl #[.slice none 0 0, .bool true] rfl 48 #[.slice none 0 0, .bool false] hT.r3 (by simp) info_in one_in #[.slice none 0 0, .bool true] rfl ?_
            intro w9 hr9 hg9 _
            have hr2 := (hg9.block _ (blk_cell hT.r2).2.2 (by simp)).trans hT.r2
            go_wp2_with fail
            refine bodyPost_ret (results_cells2 rfl _ _ (w.heap.size + 1) (w.heap.size + 2) 33 48 (opC zop (.slice none 0 0)) #[.slice none 0 0, .bool true] (0, 0) (0, 0) _ _ rfl rfl hr2 hr9 Try.underlying33 rfl info_op Try.underlying48 rfl info_in) rfl ?_
            rw [getOp_none hR]
            exact ⟨none, 0, 0, none, 0, 0, true, rfl, hT.B.grown hg9 hT.B.size (fun k hk => by cases hk; omega), zop_a _, rfl, rfl, rfl, rfl⟩
          | some l =>
            have hb : b = false := HI.out.1
            subst hb
            have hbx := boxed_of hT.rq hXs
            have hG : ∀ w', Below W.heap.size W w' → Calls Try.prog 19 #[.agg X] w' (Ret w' (.bool (goodB O))) := fun w' hb => HXd.out ▸ rgood_any O av nv cv w' (hO.below hb)
            have HGd := Lib.hid hG
            clear hG
            cases hgd : goodB O with
            | false =>
              rw [hgd] at HGd
              go_upto_region 22 with (go_at_call 19; (with_reducible refine (HGd.out _ (Below.refl _ _)).mono ?_); rintro e w6 ⟨rfl, hb⟩; have hT := hT.call hb)
              (repeat ((fail_if_success (with_reducible show wpList _ _ _ (Oper.mk _ (Op.store _ _ _) _ _ _ _ :: _) _ _)); first | go_values | go_skip | go_guarded | go_step | go_upon))
              refine wpList_store_idle rfl 33 _ _ rfl rfl (w.heap.size + 1) rfl (opC zop (.slice none 0 0)) rfl 33 hT.r2 info_op (opC_one _ _ rfl) ?_
              (repeat ((fail_if_success (with_reducible show wpList _ _ _ (Oper.mk _ (Op.store _ _ _) _ _ _ _ :: _) _ _)); first | go_values | go_skip | go_guarded | go_step | go_upon))
              refine wpList_store_seg rfl 48 _ _ rfl rfl (w.heap.size + 2) 0 rfl #[.slice none 0 0, .bool true] rfl 48 #[.slice none 0 0, .bool false] hT.r3 (by simp) info_in one_in #[.slice none 0 0, .bool true] rfl ?_
              intro w9 hr9 hg9 _
              have hr2 := (hg9.block _ (blk_cell hT.r2).2.2 (by simp)).trans hT.r2
              go_wp2_with fail
              refine bodyPost_ret (results_cells2 rfl _ _ (w.heap.size + 1) (w.heap.size + 2) 33 48 (opC zop (.slice none 0 0)) #[.slice none 0 0, .bool true] (0, 0) (0, 0) _ _ rfl rfl hr2 hr9 Try.underlying33 rfl info_op Try.underlying48 rfl info_in) rfl ?_
              rw [getOp_bad hR hgd]
              exact ⟨none, 0, 0, none, 0, 0, true, rfl, hT.B.grown hg9 hT.B.size (fun k hk => by cases hk; omega), zop_a _, rfl, rfl, rfl, rfl⟩
            | true =>
              rw [hgd] at HGd
              go_upto_region 23 with (go_at_call 19; (with_reducible refine (HGd.out _ (Below.refl _ _)).mono ?_); rintro e w6 ⟨rfl, hb⟩; have hT := hT.call hb; have hO := hO.below hb; have hbx := boxed_below hbx hb)
              have hx2 := boxW_of hT.r2 (n := 41) rfl
              have hbx2 := boxed_of hT.r2 (n := 41) rfl
              have hc30 := (blk_cell hT.r3).1 0
              have hc31 := (blk_cell hT.r3).1 1
              have hf30 := (blk_cell hT.r3).2.1 0
              have hf31 := (blk_cell hT.r3).2.1 1
              have hp0 := (blk_cell hT.rp).1 0
              have hp1 := (blk_cell hT.rp).1 1
              simp only [List.getElem?_toArray, List.getElem?_cons_zero, List.getElem?_cons_succ] at hc30 hc31 hp0 hp1
              have hn1 := hT.h1
              have hn2 := hT.h2
              have e1 : ¬ p = w.heap.size + 1 := (by omega)
              have e2 : ¬ p = w.heap.size + 2 := (by omega)
              have e3 : ¬ q = w.heap.size + 1 := (by omega)
              have hX1 : ones X = true := HXd.out ▸ ones_op O av nv cv
              have HT := Lib.hid hT
              have HO := Lib.hid hO
              have HRr := Lib.hid hR
              clear hT hO hR
              go_region_law (fail)
              all_goals
                go_wp2_with fail
                have hF := fin_heap (W := w6.drew) (cs := X) (x := .slice a n c) (y := .bool false) HT.out.r2 HT.out.r3 (by omega)
                refine bodyPost_ret (results_cells2 rfl _ _ (w.heap.size + 1) (w.heap.size + 2) 33 48 X #[.slice a n c, .bool false] (0, 0) (0, 0) _ _ rfl rfl hF.1 hF.2 Try.underlying33 rfl (by rw [hXs]; exact info_op) Try.underlying48 rfl info_in) rfl ?_
                rw [getOp_good HRr.out hgd]
                refine ⟨av, nv, cv, a, n, c, false, (by rw [HXd.out]), fin_below HT.out.B.drew (by omega) (by omega), ⟨?_, HO.out.data, HO.out.name⟩, HI.out⟩
                exact ((HO.out.over.drew.grownNe (grown_setRow _ _ _) (fun x hx => (by have := hov x hx; omega))).grownNe (grown_set _ _ _ _) (fun x hx => (by have := hov x hx; omega))).grownNe (grown_set _ _ _ _) (fun x hx => (by have := hov x hx; omega)))

end Go.Proofs.Ytdghnfihphlboaa
