/- A letter may be as long as is said, and no longer: the walk. -/
import Derived.Test.YtfjbmgfkfeehnaaBounds
namespace Go.Proofs.Ytfjbmgfkfeehnaa
open Go.RowKit

def want00 : LetL := ⟨3, 1, 2, 1, [], [], [], 0, 0, zero32, []⟩
def part00 : LetL := ⟨4, 1, 2, 1, [], [], [], 0, 0, zero32, []⟩
def RdYes (w : World) (l : LetL) (e : Ending) (w' : World) : Prop := ∃ s, e = .returned (.tuple #[.agg (letC l s), .int .i64 0]) ∧ Below w.heap.size w w' ∧ LetA w' l s
theorem rd_yes {l : LetL} (a : Option Addr) (n c : Nat) (w : World) (hr : rightB l = true) (ho : LetOk l) (h : Bs w a n c (wireL l)) : Calls Try.prog 15 #[.slice a n c] w (RdYes w l) :=
  (wireread_any a n c _ w h ((body_bytes ho).append (fourL_bytes (sumL_lt _)))).mono fun e w' he => by
    unfold RdPost at he
    rw [read_round hr ho] at he
    exact he
theorem tell_snoc (j : Nat) : (tellL (j + 1)).refs = (tellL j).refs ++ [⟨nmB j, id1⟩] := by simp [tellL, List.range_succ]
theorem want_snoc (j : Nat) : (wantL (j + 1)).haves = (wantL j).haves ++ [idN j] := by simp [wantL, List.range_succ]
theorem nmB_size (j : Nat) : (nmB j).size = 3 := by
  have h := toS_size [97 + (j : Int) / 16, 97 + (j : Int) % 16]
  rw [nmB, ByteArray.size_append, h]
  rfl
theorem id1_ok : id1.length = 32 ∧ IsBytes id1 := ⟨rfl, id1_bytes⟩
theorem idN_ok {i : Nat} (h : i < 255) : (idN i).length = 32 ∧ IsBytes (idN i) := ⟨by simp [idN], .cons (by omega) (by omega) (fun x hx => by rw [List.eq_of_mem_replicate hx]; omega)⟩
theorem tell_ok (n : Nat) : LetOk (tellL n) := ⟨fun r hr => by
  simp only [tellL, List.mem_map] at hr
  obtain ⟨i, _, rfl⟩ := hr
  exact ⟨id1_ok, by rw [nmB_size]; omega⟩, fun _ h => (by cases h), fun _ h => (by cases h), rfl, zero32_bytes, .nil⟩
theorem want_ok {n : Nat} (hn : n ≤ 255) : LetOk (wantL n) := ⟨fun _ h => (by cases h), fun d hd => by
  rw [show (wantL n).wants = [id1] from rfl, List.mem_singleton] at hd
  subst hd
  exact id1_ok, fun d hd => by
  simp only [wantL, List.mem_map, List.mem_range] at hd
  obtain ⟨i, hi, rfl⟩ := hd
  exact idN_ok (by omega), rfl, zero32_bytes, .nil⟩
theorem part_ok (n : Nat) : LetOk (partL n) := ⟨fun _ h => (by cases h), fun _ h => (by cases h), fun _ h => (by cases h), rfl, id1_bytes, fun x hx => by rw [List.eq_of_mem_replicate hx]; omega⟩

theorem LB.pushR {w W W' : World} {q : Nat} {o : LetL} {rs rs' : List RfL} {a a' : Option Addr} {n n' c c' : Nat} {b : Option Nat} (h : LB w W q { o with refs := rs } { LS.none with ra := a, rn := n, rc := c }) (h1 : o.wants = []) (h2 : o.haves = []) (h3 : o.data = [])
    (k : W.grownBy W' b) (hb : ∀ j, b = some j → q < j) (own : W'.ownsRow (q + 1) 52 33 (.slice a' n' c') n' (rowC 33 rfF rs')) (hok : LetOk { o with refs := rs' }) :
    LB w (W'.setCell ⟨q, 4, none⟩ (.slice a' n' c')) q { o with refs := rs' } { LS.none with ra := a', rn := n', rc := c' } := by
  have hql := h.qlt
  have hwq := h.wq
  have hq' := (k.block q hql (fun e => by have := hb q e.symm; omega)).trans h.hq
  have hB' : Below w.heap.size w W' := h.B.grown k h.B.size (fun j hj => by have := hb j hj; omega)
  have hg : ∀ j, (some q : Option Nat) = some j → j < q + 1 := fun j hj => by cases hj; omega
  refine ⟨hB'.grown (grown_set W' q 4 _) hB'.size (fun j hj => by cases hj; omega), (heap_setCell_same W' q 4 _ _ (.slice a' n' c') hq').trans rfl, hwq, own_grown own (grown_set W' q 4 _) hg, ?_, ?_, ?_, hok⟩
  · show World.ownsRow _ _ _ _ _ _ (rowC 32 idF o.wants)
    rw [h1]
    exact World.ownsRow_nil _ _ _ _
  · show World.ownsRow _ _ _ _ _ _ (rowC 32 idF o.haves)
    rw [h2]
    exact World.ownsRow_nil _ _ _ _
  · show DataAt _ _ _ _ _ o.data
    rw [h3]
    exact DataAt.nil _ _

def wantS (p : Nat) (a : Option Addr) (j c : Nat) : LS := { LS.none with wa := some ⟨p, 0, none⟩, wn := 1, wc := 1, ha := a, hn := j, hc := c }
structure WB (w W : World) (q p : Nat) (j : Nat) (a : Option Addr) (c : Nat) : Prop where
  B : Below w.heap.size w W
  hq : W.heap[q]? = some (.cells (letC (wantL j) (wantS p a j c)) 28 (0, 0))
  hp : W.heap[p]? = some (.cells (idC id1) 25 (0, 0))
  wq : w.heap.size ≤ q
  qp : q < p
  own : W.ownsRow (p + 1) 25 32 (.slice a j c) j (rowC 32 idF (wantL j).haves)
theorem WB.let {w W : World} {q p j : Nat} {a : Option Addr} {c : Nat} (h : WB w W q p j a c) (hj : j ≤ 255) : LetA W (wantL j) (wantS p a j c) :=
  ⟨Rfs.empty W, ⟨by have := Sl.row h.hp 32 1 rfl (by simp [maxLen]); exact this, (want_ok hj).wants⟩, ⟨own_sl h.own, (want_ok hj).haves⟩, Sl.empty W 1, rfl, .nil, zero32_bytes⟩
theorem WB.push {w W W' : World} {q p j : Nat} {a a' : Option Addr} {c c' : Nat} {b : Option Nat} (h : WB w W q p j a c) (k : W.grownBy W' b) (hb : ∀ x, b = some x → p < x)
    (own : W'.ownsRow (p + 1) 25 32 (.slice a' (j + 1) c') (j + 1) (rowC 32 idF (wantL (j + 1)).haves)) : WB w (W'.setCell ⟨q, 6, none⟩ (.slice a' (j + 1) c')) q p (j + 1) a' c' := by
  have hqp := h.qp
  have hwq := h.wq
  have hq' := (k.block q (blk_cell h.hq).2.2 (fun e => by have := hb q e.symm; omega)).trans h.hq
  have hp' := (k.block p (blk_cell h.hp).2.2 (fun e => by have := hb p e.symm; omega)).trans h.hp
  have hB' : Below w.heap.size w W' := h.B.grown k h.B.size (fun j hj => by have := hb j hj; omega)
  exact ⟨hB'.grown (grown_set W' q 6 _) hB'.size (fun j hj => by cases hj; omega), (heap_setCell_same W' q 6 _ _ (.slice a' (j + 1) c') hq').trans rfl, ((grown_set W' q 6 _).block p (blk_cell hp').2.2 (by simp; omega)).trans hp', hwq, hqp, own_grown own (grown_set W' q 6 _) (fun j hj => by cases hj; omega)⟩

set_option maxRecDepth 100000 in
set_option maxHeartbeats 8000000 in
theorem bounds_any (n kind : Int) (w : World) :
    Calls Try.prog 6 #[.int .i64 n, .int .i64 kind] w (Ret w (.bool true)) := by
  obtain ⟨r, hr, hr4⟩ : ∃ r : Nat, bits .and .i64 n 3 = r ∧ r < 4 := ⟨(n % 4).toNat, by rw [i64_and3]; omega, by omega⟩
  obtain ⟨c, hc, hc0⟩ : ∃ c : Nat, bits .and .i64 kind 1023 = c ∧ c < 1024 := ⟨(kind % 1024).toNat, by rw [i64_and1023]; omega, by omega⟩
  have hc3 : (c : Int) % 3 = 0 ∨ (c : Int) % 3 = 1 ∨ (c : Int) % 3 = 2 := by omega
  have HR := Lib.hid hr4
  clear hr4
  rcases hc3 with hc3 | hc3 | hc3
  · obtain ⟨nn, hnn, hnr⟩ : ∃ nn : Nat, 98 + (r : Int) = nn ∧ nn = 98 + r := ⟨98 + r, by omega, rfl⟩
    have hn0 : 98 ≤ nn := by omega
    have hn1 : nn ≤ 101 := by have := HR.out; omega
    clear hnr
    go_enter Try.func6, Try.ntmps6
    go_upto_region 3 with (go_at_call 8; refine (alive_any _).mono ?_; rintro e w1 ⟨rfl, hB⟩)
    (repeat ((fail_if_success (with_reducible show wpList _ _ _ (Oper.mk _ (Op.store _ _ _) _ _ _ _ :: _) _ _)); first | go_values | go_skip | go_guarded | go_step | go_upon))
    have hz := blk0 w1 (letC zeroL LS.none) 28
    refine wpList_store_seg (w := w1.alloc (.cells (letC zeroL LS.none) 28)) rfl 28 _ _ rfl rfl w1.heap.size 0 rfl (letC tell0 LS.none) rfl 28 (letC zeroL LS.none) hz (by rw [letC_size _ _ rfl, letC_size _ _ rfl]; decide) (info_let' _ _ rfl) (letC_one _ _) (letC tell0 LS.none) (put_whole _ _ (by rw [letC_size _ _ rfl, letC_size _ _ rfl])) ?_
    intro w2 hq2 hg2 hs2
    clear hs2
    have hb2 : Below w1.heap.size w1 w2 := (grow1' w1 (letC zeroL LS.none) 28).grown hg2 (by simp) (fun k hk => by cases hk; omega)
    have hL0 : LB w w2 w1.heap.size tell0 LS.none := ⟨Below.next hB hb2, hq2, hB.size, World.ownsRow_nil _ _ _ _, World.ownsRow_nil _ _ _ _, World.ownsRow_nil _ _ _ _, DataAt.nil _ _, ⟨fun _ h => (by cases h), fun _ h => (by cases h), fun _ h => (by cases h), rfl, zero32_bytes, .nil⟩⟩
    have c0 := (blk_cell hq2).1 0
    rw [show (letC tell0 LS.none)[0]? = some (.int .i64 2) from rfl] at c0
    clear hz hg2 hq2 hb2 hB hc3
    generalize w1.heap.size = q at *
    go_upto_region 15 with fail
    go_loopw [7] (fun i wr => ∃ (j : Nat) (a : Option Addr) (c' : Nat), j ≤ nn ∧ i = .int .i64 j ∧ LB w wr q (tellL j) { LS.none with ra := a, rn := j, rc := c' }) (fun i _ => nn - (intOf i).toNat)
    case atStart => exact ⟨0, none, 0, Nat.zero_le _, rfl, hL0⟩
    case round =>
      obtain ⟨j, a, c', hj, rfl, hLB⟩ := hrel
      clear hL0 c0
      by_cases hjn : j < nn
      · have hc4 := (blk_cell hLB.hq).1 4
        rw [show (letC (tellL j) { LS.none with ra := a, rn := j, rc := c' })[4]? = some (.slice a j c') from rfl] at hc4
        have hu1 : IntKind.u8.wrap (97 + (j : Int) / 16) = 97 + (j : Int) / 16 := by rw [IntKind.wrap_u8]; omega
        have hu2 : IntKind.u8.wrap (97 + (j : Int) % 16) = 97 + (j : Int) % 16 := by rw [IntKind.wrap_u8]; omega
        have hconv := conv_bs (w := wr.alloc (.cells #[.int .u8 (97 + (j : Int) / 16), .int .u8 (97 + (j : Int) % 16)] 5)) (a := some ⟨wr.heap.size, 0, none⟩) (n := 2) (c := 2) (l := [97 + (j : Int) / 16, 97 + (j : Int) % 16]) (Sl.row (blk0 wr _ _) 1 2 rfl (by simp [maxLen]))
        have HL := Lib.hid hLB
        clear hLB
        go_upto_region 17 with fail
        (repeat ((fail_if_success at_builtin); first | go_values | go_skip | go_guarded | go_step | go_upon))
        have hz := blk0 (wr.alloc (.cells #[.int .u8 (97 + (j : Int) / 16), .int .u8 (97 + (j : Int) % 16)] 5)) (rfC ⟨nmB j, id1⟩) 52
        rw [show (wr.alloc (.cells #[.int .u8 (97 + (j : Int) / 16), .int .u8 (97 + (j : Int) % 16)] 5)).heap.size = wr.heap.size + 1 by simp] at hz
        have hbz : Below wr.heap.size wr ((wr.alloc (.cells #[.int .u8 (97 + (j : Int) / 16), .int .u8 (97 + (j : Int) % 16)] 5)).alloc (.cells (rfC ⟨nmB j, id1⟩) 52)) := ((Below.refl _ _).alloc (Nat.le_refl _) _).alloc (by simp) _
        have hcl : True := trivial
        clear hconv hu1 hu2 hc4
        refine app_rf (w := ((wr.alloc (.cells #[.int .u8 (97 + (j : Int) / 16), .int .u8 (97 + (j : Int) % 16)] 5)).alloc (.cells (rfC ⟨nmB j, id1⟩) 52))) rfl _ _ rfl (q + 1) (.slice a j c') j _ rfl (own_below HL.out.refs hbz) (wr.heap.size + 1) 1 ⟨nmB j, id1⟩ rfl hz rfl (by omega) (by have := HL.out.qlt; simp; omega) ?_
        intro v3 w3 ho3 hg3
        have hlt : ∀ x, (Value.slice a j c').ownBlock = some x → q < x := fun x hx => by have := ((World.ownsRow.lt HL.out.refs) x hx).1; omega
        have hk3 := grown_trans (grown_below hbz) hg3
        obtain ⟨a3, c3, rfl, _⟩ := own_form ho3
        have hq3 := (hk3.block q HL.out.qlt (fun e => by have := hlt q e.symm; omega)).trans HL.out.hq
        have hc4 := (blk_cell hq3).1 4
        rw [show (letC (tellL j) { LS.none with ra := a, rn := j, rc := c' })[4]? = some (.slice a j c') from rfl] at hc4
        have hf4 := (blk_cell hq3).2.1 4
        have HLB := Lib.hid (LB.pushR (o := tell0) HL.out rfl rfl rfl hk3 hlt ((tell_snoc j ▸ rowC_snoc (k := 33) (f := rfF) (tellL j).refs ⟨nmB j, id1⟩ : rowC 33 rfF (tellL (j + 1)).refs = _) ▸ ho3) (tell_ok (j + 1)))
        clear hk3 hg3 ho3 hz hbz hq3 hlt
        go_wp2_with fail
        go_roundw
        case rel => exact ⟨j + 1, a3, c3, by omega, by go_num, HLB.out⟩
        case measure => simp [intOf]; omega
      · obtain rfl : j = nn := by omega
        have hlet := hLB.let
        have hsx := seg_let hLB.hq hLB.ok.pack
        have hB := hLB.B
        clear hLB
        have HW := Lib.hid (wirewrite_any (tellL j) _ wr hlet)
        have HA := Lib.hid hlet
        have HO := Lib.hid hlet.ok
        clear hlet
        by_cases hm : j ≤ 100
        · have hd : decide ((100 : Int) < (j : Int)) = false := decide_eq_false (by omega)
          have Hr := Lib.hid ((tell_right hn0 hn1).trans (decide_eq_true hm))
          have HS := Lib.hid (fun (W : World) (s1 : LS) (hb : Below wr.heap.size wr W) (hA1 : LetA W (tellL j) s1) => (show decide (tellL j = tellL j) = true from by simp) ▸ same_any (tellL j) (tellL j) s1 _ W hA1 (HA.out.below hb))
          clear hm hj hr hc hn0 hn1
          generalize letC (tellL j) { LS.none with ra := a, rn := j, rc := c' } = X at *
          go_upto_region 29 with (go_at_call 9; (with_reducible refine (wr_yes Hr.out HW.out).mono ?_); rintro e w4 ⟨a4, n4, c4, rfl, hb4, hs4⟩; have hsx := seg_below hsx hb4)
          go_wp2_with fail
          refine (rd_yes _ _ _ _ Hr.out HO.out hs4).mono ?_
          rintro e w5 ⟨s5, rfl, hb5, hA5⟩
          dsimp only
          have hsx := seg_below hsx hb5
          have hb45 := Below.next hb4 hb5
          (repeat ((fail_if_success (with_reducible show wpList _ _ _ (Oper.mk _ (Op.store _ _ _) _ _ _ _ :: _) _ _)); first | go_values | go_skip | go_guarded | go_step | go_upon))
          have hz := blk0 w5 (letC zeroL LS.none) 28
          refine wpList_store_seg (w := w5.alloc (.cells (letC zeroL LS.none) 28)) rfl 28 _ _ rfl rfl w5.heap.size 0 rfl (letC (tellL j) s5) rfl 28 (letC zeroL LS.none) hz (by rw [letC_size _ _ HO.out.pack, letC_size _ _ rfl]; decide) (info_let' _ _ HO.out.pack) (letC_one _ _) (letC (tellL j) s5) (put_whole _ _ (by rw [letC_size _ _ HO.out.pack, letC_size _ _ rfl])) ?_
          intro w6 hq6 hg6 hs6
          clear hs6
          have hb6 : Below w5.heap.size w5 w6 := (grow1' w5 (letC zeroL LS.none) 28).grown hg6 (by simp) (fun k hk => by cases hk; omega)
          have hsx := seg_below hsx hb6
          have hsy := seg_let hq6 HO.out.pack
          have hb46 := Below.next hb45 hb6
          have HS6 := Lib.hid (HS.out w6 s5 hb46 (hA5.below hb6))
          have hB := Below.next hB hb46
          clear hz hg6 hq6 hb6 hb46 hb45 hb5 hb4 hs4 hA5
          generalize w5.heap.size = q6 at *
          generalize letC (tellL j) s5 = Y at *
          go_wp2_with (go_at_call 13; (with_reducible refine HS6.out.mono ?_); rintro e w7 ⟨rfl, hb7⟩)
          go_ret
          exact Ret.mk rfl (Below.next hB hb7)
        · have hd : decide ((100 : Int) < (j : Int)) = true := decide_eq_true (by omega)
          have Hr := Lib.hid ((tell_right hn0 hn1).trans (decide_eq_false hm))
          have HRi := Lib.hid (fun (W : World) (hb : Below wr.heap.size wr W) => Hr.out ▸ right_any (tellL j) _ W (HA.out.below hb))
          clear hm hj hr hc hn0 hn1
          generalize letC (tellL j) { LS.none with ra := a, rn := j, rc := c' } = X at *
          go_wp2_with (first
            | (go_at_call 9; (with_reducible refine (wr_no Hr.out HW.out).mono ?_); rintro e w4 ⟨rfl, hb4⟩; have hsx := seg_below hsx hb4)
            | (go_at_call 12; (with_reducible refine (HRi.out _ hb4).mono ?_); rintro e w5 ⟨rfl, hb5⟩))
          go_ret
          exact Ret.mk rfl (Below.next (Below.next hB hb4) hb5)
  · obtain ⟨nn, hnn, hnr⟩ : ∃ nn : Nat, 198 + (r : Int) = nn ∧ nn = 198 + r := ⟨198 + r, by omega, rfl⟩
    have hn0 : 198 ≤ nn := by omega
    have hn1 : nn ≤ 201 := by have := HR.out; omega
    clear hnr
    go_enter Try.func6, Try.ntmps6
    go_upto_region 3 with (go_at_call 8; refine (alive_any _).mono ?_; rintro e w1 ⟨rfl, hB⟩)
    (repeat ((fail_if_success (with_reducible show wpList _ _ _ (Oper.mk _ (Op.store _ _ _) _ _ _ _ :: _) _ _)); first | go_values | go_skip | go_guarded | go_step | go_upon))
    have hz := blk0 w1 (letC zeroL LS.none) 28
    refine wpList_store_seg (w := w1.alloc (.cells (letC zeroL LS.none) 28)) rfl 28 _ _ rfl rfl w1.heap.size 0 rfl (letC want00 LS.none) rfl 28 (letC zeroL LS.none) hz (by rw [letC_size _ _ rfl, letC_size _ _ rfl]; decide) (info_let' _ _ rfl) (letC_one _ _) (letC want00 LS.none) (put_whole _ _ (by rw [letC_size _ _ rfl, letC_size _ _ rfl])) ?_
    intro w2 hq2 hg2 hs2
    clear hs2
    have hb2 : Below w1.heap.size w1 w2 := (grow1' w1 (letC zeroL LS.none) 28).grown hg2 (by simp) (fun k hk => by cases hk; omega)
    have hL0 : LB w w2 w1.heap.size want00 LS.none := ⟨Below.next hB hb2, hq2, hB.size, World.ownsRow_nil _ _ _ _, World.ownsRow_nil _ _ _ _, World.ownsRow_nil _ _ _ _, DataAt.nil _ _, ⟨fun _ h => (by cases h), fun _ h => (by cases h), fun _ h => (by cases h), rfl, zero32_bytes, .nil⟩⟩
    have c0 := (blk_cell hq2).1 0
    rw [show (letC want00 LS.none)[0]? = some (.int .i64 3) from rfl] at c0
    clear hz hg2 hq2 hb2 hB hc3
    generalize w1.heap.size = q at *
    go_upto_region 21 with fail
    have hid : #[.int .u8 1, .int .u8 0, .int .u8 0, .int .u8 0, .int .u8 0, .int .u8 0, .int .u8 0, .int .u8 0, .int .u8 0, .int .u8 0, .int .u8 0, .int .u8 0, .int .u8 0, .int .u8 0, .int .u8 0, .int .u8 0, .int .u8 0, .int .u8 0, .int .u8 0, .int .u8 0, .int .u8 0, .int .u8 0, .int .u8 0, .int .u8 0, .int .u8 0, .int .u8 0, .int .u8 0, .int .u8 0, .int .u8 0, .int .u8 0, .int .u8 0, .int .u8 0] = idC id1 := rfl
    obtain ⟨w3, hw3⟩ : ∃ w3, w2.alloc (.cells #[.int .u8 1, .int .u8 0, .int .u8 0, .int .u8 0, .int .u8 0, .int .u8 0, .int .u8 0, .int .u8 0, .int .u8 0, .int .u8 0, .int .u8 0, .int .u8 0, .int .u8 0, .int .u8 0, .int .u8 0, .int .u8 0, .int .u8 0, .int .u8 0, .int .u8 0, .int .u8 0, .int .u8 0, .int .u8 0, .int .u8 0, .int .u8 0, .int .u8 0, .int .u8 0, .int .u8 0, .int .u8 0, .int .u8 0, .int .u8 0, .int .u8 0, .int .u8 0] 25) = w3 := ⟨_, rfl⟩
    have hq3 : w3.heap[q]? = some (.cells (letC want00 LS.none) 28 (0, 0)) := by rw [← hw3]; exact (Below.heap_alloc _ _ _ hL0.qlt).trans hL0.hq
    have hp3 : w3.heap[w2.heap.size]? = some (.cells (idC id1) 25 (0, 0)) := by rw [← hw3]; exact blk0 w2 _ _
    have hB3 : Below w.heap.size w w3 := by rw [← hw3]; exact hL0.B.alloc hL0.B.size _
    have hqp := hL0.qlt
    have hwq := hL0.wq
    have hc5 := (blk_cell hq3).1 5
    rw [show (letC want00 LS.none)[5]? = some (.slice none 0 0) from rfl] at hc5
    have hf5 := (blk_cell hq3).2.1 5
    have hWB : WB w (w3.setCell ⟨q, 5, none⟩ (.slice (some ⟨w2.heap.size, 0, none⟩) 1 1)) q w2.heap.size 0 none 0 :=
      ⟨hB3.grown (grown_set w3 q 5 _) hB3.size (fun j hj => by cases hj; omega), (heap_setCell_same w3 q 5 _ _ _ hq3).trans rfl, ((grown_set w3 q 5 _).block _ (blk_cell hp3).2.2 (by simp; omega)).trans hp3, hwq, hqp, World.ownsRow_nil _ _ _ _⟩
    have HWB := Lib.hid hWB
    have HW3 := Lib.hid hw3
    clear hw3 hid hq3 hp3 hB3 hwq hL0 c0 hWB
    (repeat ((fail_if_success (with_reducible show wpList _ _ _ (Oper.mk _ (Op.store _ _ _) _ _ _ _ :: _) _ _)); first | go_values | go_skip | go_guarded | go_step | go_upon))
    rw [HW3.out]
    go_upto_region 23 with fail
    generalize w2.heap.size = p at *
    clear hc5 hf5 HW3
    generalize w3.setCell ⟨q, 5, none⟩ (.slice (some ⟨p, 0, none⟩) 1 1) = W at *
    go_loopw [8] (fun i wr => ∃ (j : Nat) (a : Option Addr) (c' : Nat), j ≤ nn ∧ i = .int .i64 j ∧ WB w wr q p j a c') (fun i _ => nn - (intOf i).toNat)
    case atStart => exact ⟨0, none, 0, Nat.zero_le _, rfl, HWB.out⟩
    case round =>
      obtain ⟨j, a, c', hj, rfl, hLB⟩ := hrel
      clear HWB
      by_cases hjn : j < nn
      · have hc6 := (blk_cell hLB.hq).1 6
        rw [show (letC (wantL j) (wantS p a j c'))[6]? = some (.slice a j c') from rfl] at hc6
        have hu1 : IntKind.u8.wrap ((j : Int) + 1) = (j : Int) + 1 := by rw [IntKind.wrap_u8]; omega
        have HL := Lib.hid hLB
        clear hLB
        go_upto_region 25 with fail
        (repeat ((fail_if_success at_builtin); first | go_values | go_skip | go_guarded | go_step | go_upon))
        have hz := blk0 wr (idC (idN j)) 25
        clear hu1 hc6
        refine app_id (w := wr.alloc (.cells (idC (idN j)) 25)) rfl _ _ rfl (p + 1) (.slice a j c') j _ rfl (own_below HL.out.own (grow1' wr (idC (idN j)) 25)) wr.heap.size 1 (idN j) rfl hz (by simp [idN]) (by omega) (by have := (blk_cell HL.out.hp).2.2; simp; omega) ?_
        intro v3 w4 ho3 hg3
        have hlt : ∀ x, (Value.slice a j c').ownBlock = some x → p < x := fun x hx => by have := ((World.ownsRow.lt HL.out.own) x hx).1; omega
        have hk3 := grown_trans (grown_below (grow1' wr (idC (idN j)) 25)) hg3
        obtain ⟨a3, c3, rfl, _⟩ := own_form ho3
        have hq3 := (hk3.block q (blk_cell HL.out.hq).2.2 (fun e => by have := hlt q e.symm; omega)).trans HL.out.hq
        have hc6 := (blk_cell hq3).1 6
        rw [show (letC (wantL j) (wantS p a j c'))[6]? = some (.slice a j c') from rfl] at hc6
        have hf6 := (blk_cell hq3).2.1 6
        have HLB := Lib.hid (WB.push HL.out hk3 hlt ((want_snoc j ▸ rowC_snoc (k := 32) (f := idF) (wantL j).haves (idN j) : rowC 32 idF (wantL (j + 1)).haves = _) ▸ ho3))
        clear hk3 hg3 ho3 hz hq3 hlt
        go_wp2_with fail
        go_roundw
        case rel => exact ⟨j + 1, a3, c3, by omega, by go_num, HLB.out⟩
        case measure => simp [intOf]; omega
      · obtain rfl : j = nn := by omega
        have hlet := hLB.let (by omega)
        have hsx := seg_let hLB.hq rfl
        have hB := hLB.B
        clear hLB
        have HW := Lib.hid (wirewrite_any (wantL j) _ wr hlet)
        have HA := Lib.hid hlet
        have HO := Lib.hid hlet.ok
        clear hlet
        by_cases hm : j ≤ 200
        · have hd : decide ((200 : Int) < (j : Int)) = false := decide_eq_false (by omega)
          have Hr := Lib.hid ((want_right hn0 hn1).trans (decide_eq_true hm))
          have HS := Lib.hid (fun (W : World) (s1 : LS) (hb : Below wr.heap.size wr W) (hA1 : LetA W (wantL j) s1) => (show decide (wantL j = wantL j) = true from by simp) ▸ same_any (wantL j) (wantL j) s1 _ W hA1 (HA.out.below hb))
          clear hm hj hr hc hn0 hn1
          generalize letC (wantL j) (wantS p a j c') = X at *
          go_upto_region 29 with (go_at_call 9; (with_reducible refine (wr_yes Hr.out HW.out).mono ?_); rintro e w4 ⟨a4, n4, c4, rfl, hb4, hs4⟩; have hsx := seg_below hsx hb4)
          go_wp2_with fail
          refine (rd_yes _ _ _ _ Hr.out HO.out hs4).mono ?_
          rintro e w5 ⟨s5, rfl, hb5, hA5⟩
          dsimp only
          have hsx := seg_below hsx hb5
          have hb45 := Below.next hb4 hb5
          (repeat ((fail_if_success (with_reducible show wpList _ _ _ (Oper.mk _ (Op.store _ _ _) _ _ _ _ :: _) _ _)); first | go_values | go_skip | go_guarded | go_step | go_upon))
          have hz := blk0 w5 (letC zeroL LS.none) 28
          refine wpList_store_seg (w := w5.alloc (.cells (letC zeroL LS.none) 28)) rfl 28 _ _ rfl rfl w5.heap.size 0 rfl (letC (wantL j) s5) rfl 28 (letC zeroL LS.none) hz (by rw [letC_size _ _ HO.out.pack, letC_size _ _ rfl]; decide) (info_let' _ _ HO.out.pack) (letC_one _ _) (letC (wantL j) s5) (put_whole _ _ (by rw [letC_size _ _ HO.out.pack, letC_size _ _ rfl])) ?_
          intro w6 hq6 hg6 hs6
          clear hs6
          have hb6 : Below w5.heap.size w5 w6 := (grow1' w5 (letC zeroL LS.none) 28).grown hg6 (by simp) (fun k hk => by cases hk; omega)
          have hsx := seg_below hsx hb6
          have hsy := seg_let hq6 HO.out.pack
          have hb46 := Below.next hb45 hb6
          have HS6 := Lib.hid (HS.out w6 s5 hb46 (hA5.below hb6))
          have hB := Below.next hB hb46
          clear hz hg6 hq6 hb6 hb46 hb45 hb5 hb4 hs4 hA5
          generalize w5.heap.size = q6 at *
          generalize letC (wantL j) s5 = Y at *
          go_wp2_with (go_at_call 13; (with_reducible refine HS6.out.mono ?_); rintro e w7 ⟨rfl, hb7⟩)
          go_ret
          exact Ret.mk rfl (Below.next hB hb7)
        · have hd : decide ((200 : Int) < (j : Int)) = true := decide_eq_true (by omega)
          have Hr := Lib.hid ((want_right hn0 hn1).trans (decide_eq_false hm))
          have HRi := Lib.hid (fun (W : World) (hb : Below wr.heap.size wr W) => Hr.out ▸ right_any (wantL j) _ W (HA.out.below hb))
          clear hm hj hr hc hn0 hn1
          generalize letC (wantL j) (wantS p a j c') = X at *
          go_wp2_with (first
            | (go_at_call 9; (with_reducible refine (wr_no Hr.out HW.out).mono ?_); rintro e w4 ⟨rfl, hb4⟩; have hsx := seg_below hsx hb4)
            | (go_at_call 12; (with_reducible refine (HRi.out _ hb4).mono ?_); rintro e w5 ⟨rfl, hb5⟩))
          go_ret
          exact Ret.mk rfl (Below.next (Below.next hB hb4) hb5)
  · obtain ⟨nn, hnn, hnr⟩ : ∃ nn : Nat, 498 + (r : Int) = nn ∧ nn = 498 + r := ⟨498 + r, by omega, rfl⟩
    have hn0 : 498 ≤ nn := by omega
    have hn1 : nn ≤ 501 := by have := HR.out; omega
    clear hnr
    go_enter Try.func6, Try.ntmps6
    go_upto_region 3 with (go_at_call 8; refine (alive_any _).mono ?_; rintro e w1 ⟨rfl, hB⟩)
    (repeat ((fail_if_success (with_reducible show wpList _ _ _ (Oper.mk _ (Op.store _ _ _) _ _ _ _ :: _) _ _)); first | go_values | go_skip | go_guarded | go_step | go_upon))
    have hz := blk0 w1 (letC zeroL LS.none) 28
    refine wpList_store_seg (w := w1.alloc (.cells (letC zeroL LS.none) 28)) rfl 28 _ _ rfl rfl w1.heap.size 0 rfl (letC part00 LS.none) rfl 28 (letC zeroL LS.none) hz (by rw [letC_size _ _ rfl, letC_size _ _ rfl]; decide) (info_let' _ _ rfl) (letC_one _ _) (letC part00 LS.none) (put_whole _ _ (by rw [letC_size _ _ rfl, letC_size _ _ rfl])) ?_
    intro w2 hq2 hg2 hs2
    clear hs2
    have hb2 : Below w1.heap.size w1 w2 := (grow1' w1 (letC zeroL LS.none) 28).grown hg2 (by simp) (fun k hk => by cases hk; omega)
    have hL0 : LB w w2 w1.heap.size part00 LS.none := ⟨Below.next hB hb2, hq2, hB.size, World.ownsRow_nil _ _ _ _, World.ownsRow_nil _ _ _ _, World.ownsRow_nil _ _ _ _, DataAt.nil _ _, ⟨fun _ h => (by cases h), fun _ h => (by cases h), fun _ h => (by cases h), rfl, zero32_bytes, .nil⟩⟩
    have c0 := (blk_cell hq2).1 0
    rw [show (letC part00 LS.none)[0]? = some (.int .i64 4) from rfl] at c0
    clear hz hg2 hq2 hb2 hB hc3
    generalize w1.heap.size = q at *
    have hw9 := segW_of hL0.hq 9 32 (by rw [letC_size _ _ rfl]; decide)
    have hone := ones_id id1
    rw [show idC id1 = #[.int .u8 1, .int .u8 0, .int .u8 0, .int .u8 0, .int .u8 0, .int .u8 0, .int .u8 0, .int .u8 0, .int .u8 0, .int .u8 0, .int .u8 0, .int .u8 0, .int .u8 0, .int .u8 0, .int .u8 0, .int .u8 0, .int .u8 0, .int .u8 0, .int .u8 0, .int .u8 0, .int .u8 0, .int .u8 0, .int .u8 0, .int .u8 0, .int .u8 0, .int .u8 0, .int .u8 0, .int .u8 0, .int .u8 0, .int .u8 0, .int .u8 0, .int .u8 0] from rfl] at hone
    go_upto_region 9 with fail
    have hL1 : LB w (setSeg w2 q 9 (idC id1)) q { part00 with pack := id1 } LS.none := hL0.set (grown_setSeg _ _ _ _) ((heap_setSeg hL0.hq 9 (idC id1)).trans (by rw [put_pk _ _ _ rfl rfl])) hL0.refs hL0.wants hL0.haves hL0.data ⟨hL0.ok.refs, hL0.ok.wants, hL0.ok.haves, rfl, id1_bytes, .nil⟩
    rw [show idC id1 = #[.int .u8 1, .int .u8 0, .int .u8 0, .int .u8 0, .int .u8 0, .int .u8 0, .int .u8 0, .int .u8 0, .int .u8 0, .int .u8 0, .int .u8 0, .int .u8 0, .int .u8 0, .int .u8 0, .int .u8 0, .int .u8 0, .int .u8 0, .int .u8 0, .int .u8 0, .int .u8 0, .int .u8 0, .int .u8 0, .int .u8 0, .int .u8 0, .int .u8 0, .int .u8 0, .int .u8 0, .int .u8 0, .int .u8 0, .int .u8 0, .int .u8 0, .int .u8 0] from rfl] at hL1
    clear hw9 hone c0 hL0
    generalize setSeg w2 q 9 #[.int .u8 1, .int .u8 0, .int .u8 0, .int .u8 0, .int .u8 0, .int .u8 0, .int .u8 0, .int .u8 0, .int .u8 0, .int .u8 0, .int .u8 0, .int .u8 0, .int .u8 0, .int .u8 0, .int .u8 0, .int .u8 0, .int .u8 0, .int .u8 0, .int .u8 0, .int .u8 0, .int .u8 0, .int .u8 0, .int .u8 0, .int .u8 0, .int .u8 0, .int .u8 0, .int .u8 0, .int .u8 0, .int .u8 0, .int .u8 0, .int .u8 0, .int .u8 0] = W9 at *
    obtain ⟨i0, hi, hz0, hz1, hz2⟩ := info_parts info_u8
    obtain ⟨w10, hmk, ho, hg⟩ := run_make_full (P := Try.prog) W9 W9.heap.size 26 5 i0 (.int .u8 0) 1 Try.underlying26 hi hz0 hz1 .i64 .i64 nn (by rw [hz2]; omega) (by unfold maxLen; omega) (Nat.le_refl _)
    have hb10 : Below W9.heap.size W9 w10 := (Below.refl _ _).grown hg (Nat.le_refl _) (fun k hk => by cases hk)
    have hL2 := hL1.quiet hb10
    have hbs : Bs w10 (some ⟨W9.heap.size, 0, none⟩) nn nn (List.replicate nn 0) := by
      have h2 := own_sl ho
      rw [Nat.mul_one, show (Value.int .u8 0).cells = #[Value.int .u8 0] from rfl, toList_madeCells_one] at h2
      unfold Bs
      rw [List.map_replicate]
      exact h2
    have hda : DataAt w10 q (some ⟨W9.heap.size, 0, none⟩) nn nn (List.replicate nn 0) := ⟨hbs, fun x hx => by cases hx; exact hL1.qlt⟩
    have hL3 : LB w (w10.setCell ⟨q, 41, none⟩ (.slice (some ⟨W9.heap.size, 0, none⟩) nn nn)) q { part00 with pack := id1, data := List.replicate nn 0 } { LS.none with da := some ⟨W9.heap.size, 0, none⟩, dn := nn, dc := nn } :=
      hL2.set (grown_set _ _ _ _) ((heap_setCell_same w10 q 41 _ _ _ hL2.hq).trans (by rw [set_last _ _ _ _ _ (List.replicate nn 0) rfl])) hL2.refs hL2.wants hL2.haves hda ⟨hL2.ok.refs, hL2.ok.wants, hL2.ok.haves, rfl, id1_bytes, fun x hx => by rw [List.eq_of_mem_replicate hx]; omega⟩
    have hc41 : w10.cell? ⟨q, 41, none⟩ = some (.slice none 0 0) := (blk_cell hL2.hq).1 41
    have hf41 := (blk_cell hL2.hq).2.1 41
    have hc8 : (w10.setCell ⟨q, 41, none⟩ (.slice (some ⟨W9.heap.size, 0, none⟩) nn nn)).cell? ⟨q, 8, none⟩ = some (.int .i64 0) := (blk_cell hL3.hq).1 8
    have hf8 := (blk_cell hL3.hq).2.1 8
    have hLB : LB w ((w10.setCell ⟨q, 41, none⟩ (.slice (some ⟨W9.heap.size, 0, none⟩) nn nn)).setCell ⟨q, 8, none⟩ (.int .i64 (nn : Int))) q (partL nn) { LS.none with da := some ⟨W9.heap.size, 0, none⟩, dn := nn, dc := nn } :=
      hL3.set (grown_set _ _ _ _) ((heap_setCell_same _ q 8 _ _ _ hL3.hq).trans rfl) hL3.refs hL3.wants hL3.haves hL3.data (part_ok nn)
    have HLB := Lib.hid hLB
    clear hLB hL3 hL2 hL1 hbs hda ho hg hb10 hz0 hz1 hz2 hi
    go_upto_region 26 with fail
    have hLB := HLB.out
    clear HLB hc41 hf41 hc8 hf8 hmk
    generalize (w10.setCell ⟨q, 41, none⟩ (.slice (some ⟨W9.heap.size, 0, none⟩) nn nn)).setCell ⟨q, 8, none⟩ (.int .i64 (nn : Int)) = wr at *
    have hlet := hLB.let
    have hsx := seg_let hLB.hq hLB.ok.pack
    have hB := hLB.B
    clear hLB
    have HW := Lib.hid (wirewrite_any (partL nn) _ wr hlet)
    have HA := Lib.hid hlet
    have HO := Lib.hid hlet.ok
    clear hlet
    by_cases hm : nn ≤ 500
    · have hd : decide ((500 : Int) < (nn : Int)) = false := decide_eq_false (by omega)
      have Hr := Lib.hid ((part_right hn0 hn1).trans (decide_eq_true hm))
      have HS := Lib.hid (fun (W : World) (s1 : LS) (hb : Below wr.heap.size wr W) (hA1 : LetA W (partL nn) s1) => (show decide (partL nn = partL nn) = true from by simp) ▸ same_any (partL nn) (partL nn) s1 _ W hA1 (HA.out.below hb))
      clear hm hnn hr hc hn0 hn1
      generalize letC (partL nn) { LS.none with da := some ⟨W9.heap.size, 0, none⟩, dn := nn, dc := nn } = X at *
      go_upto_region 29 with (go_at_call 9; (with_reducible refine (wr_yes Hr.out HW.out).mono ?_); rintro e w4 ⟨a4, n4, c4, rfl, hb4, hs4⟩; have hsx := seg_below hsx hb4)
      go_wp2_with fail
      refine (rd_yes _ _ _ _ Hr.out HO.out hs4).mono ?_
      rintro e w5 ⟨s5, rfl, hb5, hA5⟩
      dsimp only
      have hsx := seg_below hsx hb5
      have hb45 := Below.next hb4 hb5
      (repeat ((fail_if_success (with_reducible show wpList _ _ _ (Oper.mk _ (Op.store _ _ _) _ _ _ _ :: _) _ _)); first | go_values | go_skip | go_guarded | go_step | go_upon))
      have hz := blk0 w5 (letC zeroL LS.none) 28
      refine wpList_store_seg (w := w5.alloc (.cells (letC zeroL LS.none) 28)) rfl 28 _ _ rfl rfl w5.heap.size 0 rfl (letC (partL nn) s5) rfl 28 (letC zeroL LS.none) hz (by rw [letC_size _ _ HO.out.pack, letC_size _ _ rfl]; decide) (info_let' _ _ HO.out.pack) (letC_one _ _) (letC (partL nn) s5) (put_whole _ _ (by rw [letC_size _ _ HO.out.pack, letC_size _ _ rfl])) ?_
      intro w6 hq6 hg6 hs6
      clear hs6
      have hb6 : Below w5.heap.size w5 w6 := (grow1' w5 (letC zeroL LS.none) 28).grown hg6 (by simp) (fun k hk => by cases hk; omega)
      have hsx := seg_below hsx hb6
      have hsy := seg_let hq6 HO.out.pack
      have hb46 := Below.next hb45 hb6
      have HS6 := Lib.hid (HS.out w6 s5 hb46 (hA5.below hb6))
      have hB := Below.next hB hb46
      clear hz hg6 hq6 hb6 hb46 hb45 hb5 hb4 hs4 hA5
      generalize w5.heap.size = q6 at *
      generalize letC (partL nn) s5 = Y at *
      go_wp2_with (go_at_call 13; (with_reducible refine HS6.out.mono ?_); rintro e w7 ⟨rfl, hb7⟩)
      go_ret
      exact Ret.mk rfl (Below.next hB hb7)
    · have hd : decide ((500 : Int) < (nn : Int)) = true := decide_eq_true (by omega)
      have Hr := Lib.hid ((part_right hn0 hn1).trans (decide_eq_false hm))
      have HRi := Lib.hid (fun (W : World) (hb : Below wr.heap.size wr W) => Hr.out ▸ right_any (partL nn) _ W (HA.out.below hb))
      clear hm hnn hr hc hn0 hn1
      generalize letC (partL nn) { LS.none with da := some ⟨W9.heap.size, 0, none⟩, dn := nn, dc := nn } = X at *
      go_wp2_with (first
        | (go_at_call 9; (with_reducible refine (wr_no Hr.out HW.out).mono ?_); rintro e w4 ⟨rfl, hb4⟩; have hsx := seg_below hsx hb4)
        | (go_at_call 12; (with_reducible refine (HRi.out _ hb4).mono ?_); rintro e w5 ⟨rfl, hb5⟩))
      go_ret
      exact Ret.mk rfl (Below.next (Below.next hB hb4) hb5)

end Go.Proofs.Ytfjbmgfkfeehnaa
