/- Plain laws of numbers, bytes and readers, without any program. -/
import Derived.WalkKit
namespace Go.Proofs.Ytfjbmgfkfeehnaa

/-- A number's bytes, seven bits each, the lowest first. -/
def numB (n : Nat) : List Int := if h : n < 128 then [(n : Int)] else ((n % 128 + 128 : Nat) : Int) :: numB (n / 128)
termination_by n
decreasing_by omega

theorem numB_lt {n : Nat} (h : n < 128) : numB n = [(n : Int)] := by rw [numB, dif_pos h]
theorem numB_ge {n : Nat} (h : ¬ n < 128) : numB n = ((n % 128 + 128 : Nat) : Int) :: numB (n / 128) := by rw [numB, dif_neg h]

/-- A number within the bounds of the encoding. -/
def clampN (n : Int) : Nat := if n < 0 then 0 else if 4611686018427387904 < n then 4611686018427387904 else n.toNat
theorem clampN_le (n : Int) : clampN n ≤ 4611686018427387904 := by unfold clampN; split; omega; split <;> omega
theorem clampN_of {n : Int} (h0 : 0 ≤ n) (h1 : n ≤ 4611686018427387904) : clampN n = n.toNat := by unfold clampN; rw [if_neg (by omega), if_neg (by omega)]
def numL (n : Int) : List Int := numB (clampN n)

def IsBytes (l : List Int) : Prop := ∀ x ∈ l, 0 ≤ x ∧ x < 256
theorem IsBytes.nil : IsBytes [] := fun _ h => by cases h
theorem IsBytes.cons {x : Int} {l : List Int} (h0 : 0 ≤ x) (h1 : x < 256) (h : IsBytes l) : IsBytes (x :: l) := fun y hy => by
  rcases List.mem_cons.1 hy with rfl | hy
  · exact ⟨h0, h1⟩
  · exact h y hy
theorem IsBytes.append {l m : List Int} (h : IsBytes l) (h' : IsBytes m) : IsBytes (l ++ m) := fun y hy => by
  rcases List.mem_append.1 hy with hy | hy
  · exact h y hy
  · exact h' y hy
theorem IsBytes.left {l m : List Int} (h : IsBytes (l ++ m)) : IsBytes l := fun y hy => h y (List.mem_append_left _ hy)
theorem IsBytes.right {l m : List Int} (h : IsBytes (l ++ m)) : IsBytes m := fun y hy => h y (List.mem_append_right _ hy)
theorem IsBytes.drop {l : List Int} (h : IsBytes l) (k : Nat) : IsBytes (l.drop k) := fun y hy => h y (List.mem_of_mem_drop hy)
theorem IsBytes.take {l : List Int} (h : IsBytes l) (k : Nat) : IsBytes (l.take k) := fun y hy => h y (List.mem_of_mem_take hy)
theorem IsBytes.at {l : List Int} (h : IsBytes l) {k : Nat} (hk : k < l.length) : 0 ≤ l[k] ∧ l[k] < 256 := h _ (List.getElem_mem hk)

theorem numB_bytes (n : Nat) : IsBytes (numB n) := by
  induction n using Nat.strongRecOn with
  | ind n ih =>
    by_cases h : n < 128
    · rw [numB_lt h]; exact .cons (by omega) (by omega) .nil
    · rw [numB_ge h]; exact .cons (by omega) (by omega) (ih (n / 128) (by omega))

/-- 'numB' takes at most k bytes below 128 ^ k. -/
theorem numB_len (k : Nat) : ∀ n, n < 128 ^ (k + 1) → (numB n).length ≤ k + 1 := by
  induction k with
  | zero => intro n h; rw [numB_lt (by simpa using h)]; simp
  | succ k ih =>
    intro n h
    by_cases h' : n < 128
    · rw [numB_lt h']; simp
    · rw [numB_ge h']
      have := ih (n / 128) (by rw [Nat.div_lt_iff_lt_mul (by omega)]; rw [Nat.pow_succ] at h; exact h)
      simp only [List.length_cons]; omega
theorem numL_len (n : Int) : (numL n).length ≤ 9 := numB_len 8 _ (by have := clampN_le n; have e : (128 : Nat) ^ (8 + 1) = 9223372036854775808 := by decide
                                                                     rw [e]; omega)
theorem numB_pos (n : Nat) : 0 < (numB n).length := by
  by_cases h : n < 128
  · rw [numB_lt h]; simp
  · rw [numB_ge h]; simp

/-- A number is read: from round i on, with what has been gathered. -/
def rnum (most : Int) : Nat → Nat → List Int → Option (Int × List Int)
  | _, _, [] => none
  | i, acc, b :: r =>
    if b < 128 then
      if b = 0 ∧ 0 < i ∨ 4611686018427387904 < acc + (b % 128).toNat * 128 ^ i ∨ most < (acc + (b % 128).toNat * 128 ^ i : Nat) then none
      else some (((acc + (b % 128).toNat * 128 ^ i : Nat) : Int), r)
    else if i < 8 then rnum most (i + 1) (acc + (b % 128).toNat * 128 ^ i) r
    else none

/-- A string's bytes. -/
def strB (s : ByteArray) : List Int := s.data.toList.map fun b => (b.toNat : Int)
theorem strB_len (s : ByteArray) : (strB s).length = s.size := by simp [strB]
theorem strB_bytes (s : ByteArray) : IsBytes (strB s) := fun x hx => by
  simp only [strB, List.mem_map] at hx
  obtain ⟨b, _, rfl⟩ := hx
  have := b.toNat_lt
  omega
def textL (s : ByteArray) : List Int := numL s.size ++ strB s

/-- A reader: its bytes; 'none': it has failed. -/
abbrev Rd := Option (List Int)

def getNum (most : Int) : Rd → Int × Rd
  | none => (0, none)
  | some l => match rnum most 0 0 l with
    | none => (0, none)
    | some (n, r) => (n, some r)

/-- A text is read: what becomes of its length. -/
def textOf (x : Int × Rd) : List Int × Rd := match x.2 with
  | none => ([], none)
  | some l => if x.1.toNat ≤ l.length then (l.take x.1.toNat, some (l.drop x.1.toNat)) else ([], none)
def getText (most : Int) (s : Rd) : List Int × Rd := textOf (getNum most s)

def zero32 : List Int := List.replicate 32 0
/-- An ID is read. -/
def getId (s : Rd) : List Int × Rd := match s with
  | none => (zero32, none)
  | some l => if 32 ≤ l.length then (l.take 32, some (l.drop 32)) else (zero32, none)

/-- A stamp: a time, a replica. -/
structure St where
  t : Int
  r : Int
deriving DecidableEq

/-- A stamp is read. -/
def getSt (s : Rd) : St × Rd := (⟨(getNum 1099511627776 s).1, (getNum 65536 (getNum 1099511627776 s).2).1⟩, (getNum 65536 (getNum 1099511627776 s).2).2)

end Go.Proofs.Ytfjbmgfkfeehnaa
