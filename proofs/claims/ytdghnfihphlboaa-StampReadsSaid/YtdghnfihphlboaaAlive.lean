/- The document's examples: what stands ahead of the last statement. -/
import Derived.Test.YtdghnfihphlboaaFirst
namespace Go.Proofs.Ytdghnfihphlboaa
open Go.RowKit

def bytes1 : List Int := [1, 5, 1, 5, 1, 0, 0, 1, 97]
theorem hasBad_a : nameB ⟨#[97]⟩ = true := by
  simp only [nameB, ByteArray.toList_eq]
  decide +kernel
theorem good_op1 : goodB op1 = true := by
  have h1 : stCmp ⟨5, 1⟩ ⟨5, 1⟩ = 0 := stCmp_self _
  have h2 : stRight ⟨5, 1⟩ = true := by decide
  have h3 : stFixed ⟨0, 0⟩ = true := by decide
  simp [goodB, moveB, op1, h1, h2, h3, hasBad_a]
theorem put_op1 : putL op1 = bytes1 := by
  have e1 : numL 1 = [1] := by rw [numL, clampN_of (by omega) (by omega), numB_lt (by decide)]; rfl
  have e5 : numL 5 = [5] := by rw [numL, clampN_of (by omega) (by omega), numB_lt (by decide)]; rfl
  have e0 : numL 0 = [0] := by rw [numL, clampN_of (by omega) (by omega), numB_lt (by decide)]; rfl
  have et : textL ⟨#[97]⟩ = [1, 97] := by
    unfold textL
    rw [show ((⟨#[97]⟩ : ByteArray).size : Int) = 1 from rfl, e1]
    rfl
  rw [putL, good_op1, if_pos rfl]
  simp [tailL, op1, stL, e1, e5, e0, et, bytes1]
theorem same_op1 : sameB op1 op1 = true := by simp [sameB]
theorem getNum_small (most b : Int) (l : List Int) (h0 : 0 ≤ b) (h1 : b < 128) (h2 : b ≤ most) : getNum most (some (b :: l)) = (b, some l) := by
  unfold getNum
  simp only []
  rw [rnum.eq_def]
  simp only []
  rw [if_pos h1]
  have hb : (b % 128).toNat = b.toNat := by omega
  rw [hb]
  simp only [Nat.zero_add, Nat.pow_zero, Nat.mul_one]
  rw [if_neg (by omega)]
  simp only []
  rw [Int.toNat_of_nonneg h0]
theorem get_op1 : getOp (some bytes1) = (op1, some []) := by
  have hraw : getRaw (some bytes1) = (op1, some []) := by
    have q1 : ∀ l, getNum 2 (some (1 :: l)) = (1, some l) := fun l => getNum_small _ _ l (by omega) (by omega) (by omega)
    have q2 : ∀ l, getNum 1099511627776 (some (5 :: l)) = (5, some l) := fun l => getNum_small _ _ l (by omega) (by omega) (by omega)
    have q3 : ∀ l, getNum 65536 (some (1 :: l)) = (1, some l) := fun l => getNum_small _ _ l (by omega) (by omega) (by omega)
    have q4 : ∀ l, getNum 1099511627776 (some (0 :: l)) = (0, some l) := fun l => getNum_small _ _ l (by omega) (by omega) (by omega)
    have q5 : ∀ l, getNum 65536 (some (0 :: l)) = (0, some l) := fun l => getNum_small _ _ l (by omega) (by omega) (by omega)
    have q6 : ∀ l, getNum 60 (some (1 :: l)) = (1, some l) := fun l => getNum_small _ _ l (by omega) (by omega) (by omega)
    have q7 : textOf (1, some [97]) = ([97], some []) := by decide
    have hk : (getNum 2 (some bytes1)).1 = 1 := by unfold bytes1; rw [q1]
    unfold getRaw
    simp only [hk, if_true]
    simp only [getSt, getText, bytes1, q1, q2, q3, q4, q5, q6, q7]
    rfl
  exact getOp_good hraw good_op1

end Go.Proofs.Ytdghnfihphlboaa
