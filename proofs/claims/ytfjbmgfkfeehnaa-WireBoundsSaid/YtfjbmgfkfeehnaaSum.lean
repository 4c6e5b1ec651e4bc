/- The sum of bytes: the program's function. -/
import Derived.Test.YtfjbmgfkfeehnaaBytes
namespace Go.Proofs.Ytfjbmgfkfeehnaa
open Go.RowKit

/-- One bit of the sum. -/
def crc1 (s : Nat) : Nat := (s / 2) ^^^ (if s % 2 = 1 then 3988292384 else 0)
def crcN : Nat → Nat → Nat
  | 0, s => s
  | k + 1, s => crc1 (crcN k s)
def crcB (s : Nat) (c : Int) : Nat := crcN 8 (s ^^^ c.toNat)
def crcL (s : Nat) : List Int → Nat
  | [] => s
  | c :: l => crcL (crcB s c) l
def sumL (l : List Int) : Nat := 4294967295 - crcL 4294967295 l

theorem crc1_lt {m : Nat} (h : m < 4294967296) : crc1 m < 4294967296 := by
  have h2 : m / 2 < 2 ^ 32 := by omega
  unfold crc1
  split
  · exact Nat.xor_lt_two_pow h2 (by decide)
  · exact Nat.xor_lt_two_pow h2 (by decide)
theorem crcN_lt {m : Nat} (h : m < 4294967296) : ∀ k, crcN k m < 4294967296
  | 0 => h
  | k + 1 => crc1_lt (crcN_lt h k)
theorem xor_lt {m : Nat} {x : Int} (h : m < 4294967296) (hx : 0 ≤ x ∧ x < 256) : m ^^^ x.toNat < 4294967296 := Nat.xor_lt_two_pow (n := 32) h (by omega)
theorem crcL_lt : ∀ (l : List Int) (_m : Nat), _m < 4294967296 → IsBytes l → crcL _m l < 4294967296
  | [], _, h, _ => h
  | x :: l, _, h, hb => crcL_lt l _ (crcN_lt (xor_lt h (hb x (List.mem_cons_self ..))) 8) (fun y hy => hb y (List.mem_cons_of_mem _ hy))
theorem sumL_lt (l : List Int) : sumL l < 4294967296 := by unfold sumL; omega
theorem crc1_bits {m : Nat} (h : m < 4294967296) : bits .xor .u32 ((m : Int) / 2) (bits .and .u32 3988292384 (-bits .and .u32 (m : Int) 1 % 4294967296)) = (crc1 m : Int) := by
  have e1 : bits .and .u32 (m : Int) 1 = ((m % 2 : Nat) : Int) := by
    rw [show (1 : Int) = ((1 : Nat) : Int) from rfl, u32_and_nat m 1 h (by omega)]
    congr 1
    exact Nat.and_one_is_mod m
  have e2 : ((m : Int) / 2) = ((m / 2 : Nat) : Int) := by omega
  rw [e1, e2]
  unfold crc1
  rcases Nat.mod_two_eq_zero_or_one m with h0 | h0
  · rw [h0]
    have e3 : bits .and .u32 3988292384 (-((0 : Nat) : Int) % 4294967296) = ((0 : Nat) : Int) := by decide
    rw [e3, u32_xor_nat _ _ (by omega) (by omega)]
    rfl
  · rw [h0]
    have e3 : bits .and .u32 3988292384 (-((1 : Nat) : Int) % 4294967296) = ((3988292384 : Nat) : Int) := by decide
    rw [e3, u32_xor_nat _ _ (by omega) (by omega)]
    rfl
theorem not_bits {m : Nat} (h : m < 4294967296) : bits .xor .u32 IntKind.u32.max (m : Int) = ((4294967295 - m : Nat) : Int) := by
  rw [show (IntKind.u32.max : Int) = ((4294967295 : Nat) : Int) from rfl, u32_xor_nat _ _ (by omega) h]
  congr 1
  have := Nat.xor_comm 4294967295 m
  have e : (4294967295 : Nat) = 2 ^ 32 - 1 := rfl
  apply Nat.eq_of_testBit_eq
  intro i
  rw [Nat.testBit_xor, e, Nat.testBit_two_pow_sub_one, show 2 ^ 32 - 1 - m = 2 ^ 32 - (m + 1) by omega, Nat.testBit_two_pow_sub_succ (show m < 2 ^ 32 from h)]
  by_cases hi : i < 32
  · simp [hi]
  · have : m.testBit i = false := Nat.testBit_lt_two_pow (Nat.lt_of_lt_of_le (show m < 2 ^ 32 from h) (Nat.pow_le_pow_right (by omega) (by omega)))
    simp [hi, this]

set_option maxRecDepth 100000 in
theorem sum_any (a : Option Addr) (n c : Nat) (l : List Int) (w : World) (h : Bs w a n c l) (hb : IsBytes l) :
    Calls Try.prog 24 #[.slice a n c] w (Ret w (.int .u32 (sumL l))) := by
  have hn := h.length
  have hcap := h.cap
  have hle := h.le
  unfold maxLen at hcap
  have HN := Lib.hid hn; have HV := Lib.hid h
  clear hn h
  go_enter Try.func24, Try.ntmps24
  go_upto_region 3 with fail
  go_loopw [3, 8] (fun s i wr => ∃ k m : Nat, k ≤ n ∧ i = .int .i64 k ∧ s = .int .u32 m ∧ m < 4294967296 ∧ crcL 4294967295 l = crcL m (l.drop k) ∧ w = wr) (fun _ i _ => n - (intOf i).toNat)
  case atStart => exact ⟨0, 4294967295, Nat.zero_le _, rfl, rfl, by omega, rfl, rfl⟩
  case round =>
    obtain ⟨k, m, hk, rfl, rfl, hm, hall, rfl⟩ := hrel
    have HA := Lib.hid hall
    clear hall
    by_cases hkn : k < n
    · obtain ⟨b, off, rfl, hc⟩ := Bs.at HV.out (by omega)
      obtain ⟨x, hx⟩ : ∃ x, l[k]? = some x := ⟨_, List.getElem?_eq_getElem (by have := HN.out; omega)⟩
      have g1 := hc k x hx
      have hxb := hb x (List.mem_of_getElem? hx)
      have HX := Lib.hid hx
      clear hc hx
      go_upto_region 6 with fail
      have hm1 : bits .xor .u32 (m : Int) x = ((m ^^^ x.toNat : Nat) : Int) := by
        have := u32_xor (m : Int) x (by omega) (by omega) hxb.1 (by omega)
        simpa using this
      rw [hm1]
      have hm1b := xor_lt hm hxb
      have HM := Lib.hid (show crcB m x = crcN 8 (m ^^^ x.toNat) from rfl)
      clear hm1
      generalize m ^^^ x.toNat = m1 at *
      go_wp2_with fail
      go_loopw [3, 16] (fun s i wr => ∃ q m2 : Nat, q ≤ 8 ∧ i = .int .i64 q ∧ s = .int .u32 m2 ∧ m2 < 4294967296 ∧ m2 = crcN q m1 ∧ w = wr) (fun _ i _ => 8 - (intOf i).toNat)
      case atStart => exact ⟨0, m1, Nat.zero_le _, rfl, rfl, hm1b, rfl, by first | rfl | trivial⟩
      case round =>
        obtain ⟨q, m2, hq, rfl, rfl, hm2, hm2e, rfl⟩ := hrel
        have HM2 := Lib.hid hm2e
        clear hm2e
        by_cases hq8 : q < 8
        · go_upto_region 9 with fail
          rw [crc1_bits hm2]
          go_wp2_with fail
          go_roundw
          case rel => exact ⟨q + 1, crc1 m2, by omega, by go_num, rfl, crc1_lt hm2, by rw [HM2.out]; rfl, by first | rfl | trivial⟩
          case measure => simp [intOf]; omega
        · obtain rfl : q = 8 := by omega
          go_wp2_with fail
          go_roundw
          case rel =>
            refine ⟨k + 1, m2, by omega, by go_num, rfl, hm2, ?_, by first | rfl | trivial⟩
            rw [HA.out, drop_at HX.out, crcL, HM.out, HM2.out]
          case measure => simp [intOf]; omega
    · obtain rfl : k = n := by omega
      go_wp2_with fail
      rw [not_bits hm]
      go_ret
      refine Ret.mk (congrArg (fun z : Nat => Value.int .u32 z) ?_) (Below.refl _ _)
      rw [sumL, HA.out, List.drop_of_length_le (by rw [HN.out]; exact Nat.le_refl _)]
      rfl

end Go.Proofs.Ytfjbmgfkfeehnaa
