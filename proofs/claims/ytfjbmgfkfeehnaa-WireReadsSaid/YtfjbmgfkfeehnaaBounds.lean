/- A letter may be as long as is said, and no longer: the walk. -/
import Derived.Test.YtfjbmgfkfeehnaaTurns
import Derived.Deep.Cut
namespace Go.Proofs.Ytfjbmgfkfeehnaa
open Go.RowKit

/-- While a letter is made: it lies at q. -/
structure LB (w W : World) (q : Nat) (l : LetL) (s : LS) : Prop where
  B : Below w.heap.size w W
  hq : W.heap[q]? = some (.cells (letC l s) 28 (0, 0))
  wq : w.heap.size ≤ q
  refs : W.ownsRow (q + 1) 52 33 (.slice s.ra s.rn s.rc) s.rn (rowC 33 rfF l.refs)
  wants : W.ownsRow (q + 1) 25 32 (.slice s.wa s.wn s.wc) s.wn (rowC 32 idF l.wants)
  haves : W.ownsRow (q + 1) 25 32 (.slice s.ha s.hn s.hc) s.hn (rowC 32 idF l.haves)
  data : DataAt W q s.da s.dn s.dc l.data
  ok : LetOk l
theorem LB.qlt {w W : World} {q : Nat} {l : LetL} {s : LS} (h : LB w W q l s) : q < W.heap.size := (blk_cell h.hq).2.2
theorem LB.let {w W : World} {q : Nat} {l : LetL} {s : LS} (h : LB w W q l s) : LetA W l s :=
  ⟨⟨own_sl h.refs, h.ok.refs⟩, ⟨own_sl h.wants, h.ok.wants⟩, ⟨own_sl h.haves, h.ok.haves⟩, h.data.1, h.ok.pack, h.ok.data, h.ok.packb⟩
theorem LB.set {w W W' : World} {q : Nat} {l l' : LetL} {s s' : LS} (h : LB w W q l s) (k : W.grownBy W' (some q)) (hq : W'.heap[q]? = some (.cells (letC l' s') 28 (0, 0)))
    (e1 : W.ownsRow (q + 1) 52 33 (.slice s'.ra s'.rn s'.rc) s'.rn (rowC 33 rfF l'.refs)) (e2 : W.ownsRow (q + 1) 25 32 (.slice s'.wa s'.wn s'.wc) s'.wn (rowC 32 idF l'.wants))
    (e3 : W.ownsRow (q + 1) 25 32 (.slice s'.ha s'.hn s'.hc) s'.hn (rowC 32 idF l'.haves)) (e4 : DataAt W q s'.da s'.dn s'.dc l'.data) (ho : LetOk l') : LB w W' q l' s' := by
  have h2 := h.wq
  have hg : ∀ j, (some q : Option Nat) = some j → j < q + 1 := fun j hj => by cases hj; omega
  exact ⟨h.B.grown k h.B.size (fun j hj => by cases hj; omega), hq, h.wq, own_grown e1 k hg, own_grown e2 k hg, own_grown e3 k hg, e4.grown k (Nat.le_refl _), ho⟩
theorem LB.quiet {w W W' : World} {q : Nat} {l : LetL} {s : LS} (h : LB w W q l s) (hb : Below W.heap.size W W') : LB w W' q l s :=
  ⟨Below.next h.B hb, (hb.block q h.qlt).trans h.hq, h.wq, own_below h.refs hb, own_below h.wants hb, own_below h.haves hb, h.data.below hb, h.ok⟩
/-- Other blocks grow. -/
theorem LB.grow {w W W' : World} {q : Nat} {l : LetL} {s : LS} {b : Option Nat} (h : LB w W q l s) (k : W.grownBy W' b) (hb : ∀ j, b = some j → q < j) (hW : W'.heap[q]? = W.heap[q]?) : Below w.heap.size w W' ∧ W'.heap[q]? = some (.cells (letC l s) 28 (0, 0)) :=
  ⟨h.B.grown k h.B.size (fun j hj => by have := hb j hj; have := h.wq; omega), hW.trans h.hq⟩

def tell0 : LetL := ⟨2, 1, 2, 1, [], [], [], 0, 0, zero32, []⟩
def nmB (i : Nat) : ByteArray := ⟨#[98]⟩ ++ toS [97 + (i : Int) / 16, 97 + (i : Int) % 16]
def tellL (n : Nat) : LetL := { tell0 with refs := (List.range n).map fun i => ⟨nmB i, id1⟩ }
def want0 : LetL := ⟨3, 1, 2, 1, [], [id1], [], 0, 0, zero32, []⟩
def idN (i : Nat) : List Int := ((i : Int) + 1) :: List.replicate 31 0
def wantL (n : Nat) : LetL := { want0 with haves := (List.range n).map idN }
def partL (n : Nat) : LetL := ⟨4, 1, 2, 1, [], [], [], 0, n, id1, List.replicate n 0⟩
set_option maxRecDepth 100000 in
theorem tell_right {n : Nat} (h0 : 98 ≤ n) (h1 : n ≤ 101) : rightB (tellL n) = decide (n ≤ 100) := by
  have : n = 98 ∨ n = 99 ∨ n = 100 ∨ n = 101 := by omega
  rcases this with rfl | rfl | rfl | rfl <;> decide +kernel
set_option maxRecDepth 100000 in
theorem want_right {n : Nat} (h0 : 198 ≤ n) (h1 : n ≤ 201) : rightB (wantL n) = decide (n ≤ 200) := by
  have : n = 198 ∨ n = 199 ∨ n = 200 ∨ n = 201 := by omega
  rcases this with rfl | rfl | rfl | rfl <;> decide +kernel
set_option maxRecDepth 100000 in
theorem part_right {n : Nat} (h0 : 498 ≤ n) (h1 : n ≤ 501) : rightB (partL n) = decide (n ≤ 500) := by
  have : n = 498 ∨ n = 499 ∨ n = 500 ∨ n = 501 := by omega
  rcases this with rfl | rfl | rfl | rfl <;> decide +kernel
theorem i64_and3 (n : Int) : bits .and .i64 n 3 = n % 4 := by
  have h127 : (BitVec.ofInt 64 3).toNat = 2 ^ 2 - 1 := by decide
  have key : (BitVec.ofInt 64 n &&& BitVec.ofInt 64 3).toNat = (n % ((2 ^ 64 : Nat) : Int)).toNat % 2 ^ 2 := by
    rw [BitVec.toNat_and, BitVec.toNat_ofInt, h127, Nat.and_two_pow_sub_one_eq_mod]
  show IntKind.i64.wrap ((BitVec.ofInt 64 n &&& BitVec.ofInt 64 3).toNat : Nat) = n % 4
  rw [key, IntKind.wrap_i64]
  omega
theorem i64_and1023 (n : Int) : bits .and .i64 n 1023 = n % 1024 := by
  have h127 : (BitVec.ofInt 64 1023).toNat = 2 ^ 10 - 1 := by decide
  have key : (BitVec.ofInt 64 n &&& BitVec.ofInt 64 1023).toNat = (n % ((2 ^ 64 : Nat) : Int)).toNat % 2 ^ 10 := by
    rw [BitVec.toNat_and, BitVec.toNat_ofInt, h127, Nat.and_two_pow_sub_one_eq_mod]
  show IntKind.i64.wrap ((BitVec.ofInt 64 n &&& BitVec.ofInt 64 1023).toNat : Nat) = n % 1024
  rw [key, IntKind.wrap_i64]
  omega

end Go.Proofs.Ytfjbmgfkfeehnaa
