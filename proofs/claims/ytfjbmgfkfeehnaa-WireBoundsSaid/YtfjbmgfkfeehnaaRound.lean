/- What is written of a letter is read again: plain laws. -/
import Derived.Test.YtfjbmgfkfeehnaaWireR
namespace Go.Proofs.Ytfjbmgfkfeehnaa

theorem rnum_round (most : Int) (r : List Int) (n : Nat) : ∀ (i acc : Nat), acc < 128 ^ i → (n ≠ 0 ∨ i = 0) → ((acc + n * 128 ^ i : Nat) : Int) ≤ most → acc + n * 128 ^ i ≤ 4611686018427387904 →
    rnum most i acc (numB n ++ r) = some (((acc + n * 128 ^ i : Nat) : Int), r) := by
  induction n using Nat.strongRecOn with
  | ind n ih =>
    intro i acc hacc hn hm hb
    by_cases h : n < 128
    · rw [numB_lt h, List.singleton_append, rnum.eq_def]
      simp only []
      have e : ((n : Int) % 128).toNat = n := by omega
      rw [if_pos (by omega), e, if_neg (by omega)]
    · rw [numB_ge h, List.cons_append, rnum.eq_def]
      simp only []
      have hpos : 0 < 128 ^ i := Nat.pow_pos (by omega)
      have hi : i < 8 := by
        rcases Nat.lt_or_ge i 8 with h8 | h8
        · exact h8
        · have h9 : (128 : Nat) ^ 8 ≤ 128 ^ i := Nat.pow_le_pow_right (by omega) h8
          have h10 : 128 * 128 ^ i ≤ n * 128 ^ i := Nat.mul_le_mul_right _ (by omega)
          have h11 : (128 : Nat) ^ 8 = 72057594037927936 := by decide
          omega
      have e : (((n % 128 + 128 : Nat) : Int) % 128).toNat = n % 128 := by omega
      have hsplit : acc + n % 128 * 128 ^ i + n / 128 * 128 ^ (i + 1) = acc + n * 128 ^ i := by
        rw [Nat.pow_succ, Nat.mul_comm (128 ^ i) 128, ← Nat.mul_assoc, Nat.add_assoc, ← Nat.add_mul]
        congr 2
        omega
      rw [if_neg (by omega), if_pos hi, e, ih (n / 128) (by omega) (i + 1) (acc + n % 128 * 128 ^ i) ?_ (.inl (by omega)) (by rw [hsplit]; exact hm) (by rw [hsplit]; exact hb), hsplit]
      have : n % 128 * 128 ^ i ≤ 127 * 128 ^ i := Nat.mul_le_mul_right _ (by omega)
      rw [Nat.pow_succ]
      omega

theorem getNum_round (most n : Int) (r : List Int) (h0 : 0 ≤ n) (hm : n ≤ most) (hb : n ≤ 4611686018427387904) : getNum most (some (numL n ++ r)) = (n, some r) := by
  unfold getNum numL
  simp only []
  rw [clampN_of h0 hb, rnum_round most r n.toNat 0 0 (by simp) (.inr rfl) (by simp; omega) (by simp; omega)]
  simp
  omega
theorem toS_strB (s : ByteArray) : toS (strB s) = s := by
  unfold toS strB strOfNums
  have : (s.data.toList.map fun b => (b.toNat : Int)).map (fun n => UInt8.ofNat n.toNat) = s.data.toList := by
    rw [List.map_map]
    conv => rhs; rw [← List.map_id s.data.toList]
    apply List.map_congr_left
    intro b _
    simp
  rw [this]
theorem getText_roundM (most : Int) (s : ByteArray) (r : List Int) (h : (s.size : Int) ≤ most) (hm : (s.size : Int) ≤ 4611686018427387904) : getText most (some (textL s ++ r)) = (strB s, some r) := by
  unfold getText textL
  rw [List.append_assoc, getNum_round _ _ _ (by omega) h hm]
  have hl := strB_len s
  unfold textOf
  simp only []
  rw [if_pos (by simp [hl])]
  simp [← hl]
theorem getId_round (d r : List Int) (h : d.length = 32) : getId (some (d ++ r)) = (d, some r) := by
  unfold getId
  simp only []
  rw [if_pos (by simp; omega), ← h]
  simp
theorem snoc_cases {α : Type} {P : List α → Prop} (h0 : P []) (h1 : ∀ l x, P l → P (l ++ [x])) (l : List α) : P l := by
  have : ∀ n (l : List α), l.length = n → P l := by
    intro n
    induction n with
    | zero => intro l hl; obtain rfl := List.eq_nil_of_length_eq_zero hl; exact h0
    | succ n ih =>
      intro l hl
      have hne : l ≠ [] := fun e => by rw [e] at hl; simp at hl
      rw [← List.dropLast_concat_getLast hne]
      exact h1 _ _ (ih _ (by simp; omega))
  exact this _ l rfl
theorem getIdsN_round (l : List (List Int)) : ∀ (r : List Int), (∀ d ∈ l, d.length = 32) → getIdsN l.length (some (l.flatten ++ r)) = (l, some r) := by
  induction l using snoc_cases with
  | h0 => intro r _; rfl
  | h1 l d ih =>
    intro r h
    have e := ih (d ++ r) (fun x hx => h x (List.mem_append_left _ hx))
    simp only [List.length_append, List.length_cons, List.length_nil, Nat.zero_add, getIdsN, List.flatten_append, List.flatten_cons, List.flatten_nil, List.append_nil, List.append_assoc]
    rw [e]
    simp only [getId_round d r (h d (by simp))]
theorem getIds_round (most : Int) (l : List (List Int)) (r : List Int) (h : ∀ d ∈ l, d.length = 32) (hl : (l.length : Int) ≤ most) (hm : (l.length : Int) ≤ 4611686018427387904) : getIds most (some (idsL l ++ r)) = (l, some r) := by
  unfold getIds idsL
  rw [List.append_assoc, getNum_round _ _ _ (by omega) hl hm]
  simp only [Int.toNat_natCast]
  exact getIdsN_round l r h
theorem getRefsN_round (l : List RfL) : ∀ (r : List Int), (∀ x ∈ l, x.id.length = 32) → (∀ x ∈ l, x.name.size ≤ 60) → getRefsN l.length (some (l.flatMap refB ++ r)) = (l, some r) := by
  induction l using snoc_cases with
  | h0 => intro r _ _; rfl
  | h1 l d ih =>
    intro r h h'
    have e := ih (refB d ++ r) (fun x hx => h x (List.mem_append_left _ hx)) (fun x hx => h' x (List.mem_append_left _ hx))
    have hs := h' d (by simp)
    simp only [List.length_append, List.length_cons, List.length_nil, Nat.zero_add, getRefsN, List.flatMap_append, List.flatMap_cons, List.flatMap_nil, List.append_nil, List.append_assoc]
    rw [e]
    have e2 : getRef (some (refB d ++ r)) = (d, some r) := by
      unfold getRef refB
      rw [List.append_assoc, getText_roundM 60 d.name _ (by omega) (by omega)]
      simp only [getId_round d.id r (h d (by simp)), toS_strB]
    simp only [e2]
theorem getRefs_round (l : List RfL) (r : List Int) (h : ∀ x ∈ l, x.id.length = 32) (h' : ∀ x ∈ l, x.name.size ≤ 60) (hl : l.length ≤ 100) : getRefs (some (rfsL l ++ r)) = (l, some r) := by
  unfold getRefs rfsL
  rw [List.append_assoc, getNum_round _ _ _ (by omega) (by omega) (by omega)]
  simp only [Int.toNat_natCast]
  exact getRefsN_round l r h h'

end Go.Proofs.Ytfjbmgfkfeehnaa
