/- Bytes against each other: the document's function. The sum of bytes: the program's function. Four bytes of a number: written, read. IDs are written: the program's function. The bytes of a right letter: plain laws. -/
import Derived.Test.YtfjbmgfkfeehnaaRight
import Derived.Deep.Cut
namespace Go.Proofs.Ytfjbmgfkfeehnaa
section
open Go.RowKit

theorem Bs.at {w : World} {a : Option Addr} {n c : Nat} {l : List Int} (h : Bs w a n c l) (hn : 0 < n) :
    ∃ b off, a = some ⟨b, off, none⟩ ∧ ∀ (i : Nat) (x : Int), l[i]? = some x → w.cell? ⟨b, off + i, none⟩ = some (.int .u8 x) := by
  obtain ⟨b, off, ha, hc⟩ := Sl.cells h hn
  have hl := h.length
  refine ⟨b, off, ha, fun i x hx => ?_⟩
  obtain ⟨hi, _⟩ := List.getElem?_eq_some_iff.1 hx
  rw [hc i (by omega), List.getElem?_map, hx]
  rfl

set_option linter.unusedSimpArgs false in
set_option maxRecDepth 100000 in
theorem samebytes_any (a : Option Addr) (n c : Nat) (l : List Int) (a' : Option Addr) (n' c' : Nat) (l' : List Int) (w : World) (h : Bs w a n c l) (h' : Bs w a' n' c' l') :
    Calls Try.prog 16 #[.slice a n c, .slice a' n' c'] w (Ret w (.bool (decide (l = l')))) := by
  have hn := h.length
  have hn' := h'.length
  have hcap := h.cap
  have hle := h.le
  unfold maxLen at hcap
  by_cases hnn : n = n'
  · subst hnn
    have HN := Lib.hid hn; have HN' := Lib.hid hn'; have HV := Lib.hid h; have HV' := Lib.hid h'
    clear hn hn' h h'
    go_enter Try.func16, Try.ntmps16
    go_upto_region 4 with fail
    go_loopw [5] (fun i wr => ∃ k : Nat, k ≤ n ∧ i = .int .i64 k ∧ (∀ j, j < k → l[j]? = l'[j]?) ∧ Below w.heap.size w wr) (fun i _ => n - (intOf i).toNat)
    case atStart => exact ⟨0, Nat.zero_le _, rfl, fun j h => absurd h (by omega), Below.refl _ _⟩
    case round =>
      obtain ⟨k, hk, rfl, hall, hB⟩ := hrel
      by_cases hkn : k < n
      · obtain ⟨b, off, rfl, hc⟩ := HV.out.at (by omega)
        obtain ⟨b', off', rfl, hc'⟩ := HV'.out.at (by omega)
        obtain ⟨x, hx⟩ : ∃ x, l[k]? = some x := ⟨_, List.getElem?_eq_getElem (by have := HN.out; omega)⟩
        obtain ⟨y, hy⟩ : ∃ y, l'[k]? = some y := ⟨_, List.getElem?_eq_getElem (by have := HN'.out; omega)⟩
        have k3 := cell_regrown (Below.old hB (Nat.le_refl _) (hc k x hx))
        have k4 := cell_regrown (Below.old hB (Nat.le_refl _) (hc' k y hy))
        have HA := Lib.hid hall; have H1 := Lib.hid hx; have H2 := Lib.hid hy
        clear hc hc' hall hx hy
        by_cases hq : x = y
        · have hq' : (x != y) = false := by simp [hq]
          have HQ := Lib.hid hq
          clear hq
          go_wp2_with fail
          (refine wp_region_quiet_below (by kernel_rfl) (by kernel_rfl) ?_; (repeat (go_big_quiet_step (fail))); refine wpQuiet_nil ?_; intro _ hw'; obtain ⟨⟨dq, osq⟩, hw''⟩ := hw'; subst hw'')
          go_wp2_with fail
          go_roundw
          case rel =>
            refine ⟨k + 1, by omega, by go_num, fun j hj => ?_, Below.next hB (below_regrown _ _ _)⟩
            rcases Nat.lt_succ_iff_lt_or_eq.1 hj with hj | rfl
            · exact HA.out j hj
            · rw [H1.out, H2.out, HQ.out]
          case measure => simp [intOf]; omega
        · have hq' : (x != y) = true := by simp [hq]
          go_wp2_with fail
          (refine wp_region_quiet_below (by kernel_rfl) (by kernel_rfl) ?_; (repeat (go_big_quiet_step (fail))); refine wpQuiet_nil ?_; intro _ hw'; obtain ⟨⟨dq, osq⟩, hw''⟩ := hw'; subst hw'')
          go_wp2_with fail
          go_ret
          refine Ret.mk (congrArg Value.bool ?_) (Below.next hB (below_regrown _ _ _))
          show false = decide (l = l')
          rw [decide_eq_false]
          intro e
          have e2 := H1.out.symm.trans ((congrArg (·[k]?) e).trans H2.out)
          injection e2 with e2
          exact hq e2
      · obtain rfl : k = n := by omega
        go_wp2_with fail
        go_ret
        refine Ret.mk (congrArg Value.bool (decide_eq_true ?_).symm) hB
        have h1 := HN.out
        have h2 := HN'.out
        apply List.ext_getElem?
        intro j
        rcases Nat.lt_or_ge j k with h | h
        · exact hall j h
        · rw [List.getElem?_eq_none (by omega), List.getElem?_eq_none (by omega)]
  · go_enter Try.func16, Try.ntmps16
    go_wp2
    go_ret
    exact Ret.mk (congrArg Value.bool (decide_eq_false (fun e => hnn (by have := congrArg List.length e; omega))).symm) (Below.refl _ _)

end

section
open Go.RowKit

/-- One bit of the sum. -/
def crc1 (s : Nat) : Nat := (s / 2) ^^^ (if s % 2 = 1 then 3988292384 else 0)
def crcN : Nat → Nat → Nat
  | 0, s => s
  | k + 1, s => crc1 (crcN k s)
def crcB (s : Nat) (c : Int) : Nat := crcN 8 (s ^^^ c.toNat)
def crcL (s : Nat) : List Int → Nat
  | [] => s
  | c :: l => crcL (crcB s c) l
def sumL (l : List Int) : Nat := 4294967295 - crcL 4294967295 l

theorem crc1_lt {m : Nat} (h : m < 4294967296) : crc1 m < 4294967296 := by
  have h2 : m / 2 < 2 ^ 32 := by omega
  unfold crc1
  split
  · exact Nat.xor_lt_two_pow h2 (by decide)
  · exact Nat.xor_lt_two_pow h2 (by decide)
theorem crcN_lt {m : Nat} (h : m < 4294967296) : ∀ k, crcN k m < 4294967296
  | 0 => h
  | k + 1 => crc1_lt (crcN_lt h k)
theorem xor_lt {m : Nat} {x : Int} (h : m < 4294967296) (hx : 0 ≤ x ∧ x < 256) : m ^^^ x.toNat < 4294967296 := Nat.xor_lt_two_pow (n := 32) h (by omega)
theorem crcL_lt : ∀ (l : List Int) (_m : Nat), _m < 4294967296 → IsBytes l → crcL _m l < 4294967296
  | [], _, h, _ => h
  | x :: l, _, h, hb => crcL_lt l _ (crcN_lt (xor_lt h (hb x (List.mem_cons_self ..))) 8) (fun y hy => hb y (List.mem_cons_of_mem _ hy))
theorem sumL_lt (l : List Int) : sumL l < 4294967296 := by unfold sumL; omega
theorem crc1_bits {m : Nat} (h : m < 4294967296) : bits .xor .u32 ((m : Int) / 2) (bits .and .u32 3988292384 (-bits .and .u32 (m : Int) 1 % 4294967296)) = (crc1 m : Int) := by
  have e1 : bits .and .u32 (m : Int) 1 = ((m % 2 : Nat) : Int) := by
    rw [show (1 : Int) = ((1 : Nat) : Int) from rfl, u32_and_nat m 1 h (by omega)]
    congr 1
    exact Nat.and_one_is_mod m
  have e2 : ((m : Int) / 2) = ((m / 2 : Nat) : Int) := by omega
  rw [e1, e2]
  unfold crc1
  rcases Nat.mod_two_eq_zero_or_one m with h0 | h0
  · rw [h0]
    have e3 : bits .and .u32 3988292384 (-((0 : Nat) : Int) % 4294967296) = ((0 : Nat) : Int) := by decide
    rw [e3, u32_xor_nat _ _ (by omega) (by omega)]
    rfl
  · rw [h0]
    have e3 : bits .and .u32 3988292384 (-((1 : Nat) : Int) % 4294967296) = ((3988292384 : Nat) : Int) := by decide
    rw [e3, u32_xor_nat _ _ (by omega) (by omega)]
    rfl
theorem not_bits {m : Nat} (h : m < 4294967296) : bits .xor .u32 IntKind.u32.max (m : Int) = ((4294967295 - m : Nat) : Int) := by
  rw [show (IntKind.u32.max : Int) = ((4294967295 : Nat) : Int) from rfl, u32_xor_nat _ _ (by omega) h]
  congr 1
  have := Nat.xor_comm 4294967295 m
  have e : (4294967295 : Nat) = 2 ^ 32 - 1 := rfl
  apply Nat.eq_of_testBit_eq
  intro i
  rw [Nat.testBit_xor, e, Nat.testBit_two_pow_sub_one, show 2 ^ 32 - 1 - m = 2 ^ 32 - (m + 1) by omega, Nat.testBit_two_pow_sub_succ (show m < 2 ^ 32 from h)]
  by_cases hi : i < 32
  · simp [hi]
  · have : m.testBit i = false := Nat.testBit_lt_two_pow (Nat.lt_of_lt_of_le (show m < 2 ^ 32 from h) (Nat.pow_le_pow_right (by omega) (by omega)))
    simp [hi, this]

set_option maxRecDepth 100000 in
theorem sum_any (a : Option Addr) (n c : Nat) (l : List Int) (w : World) (h : Bs w a n c l) (hb : IsBytes l) :
    Calls Try.prog 24 #[.slice a n c] w (Ret w (.int .u32 (sumL l))) := by
  have hn := h.length
  have hcap := h.cap
  have hle := h.le
  unfold maxLen at hcap
  have HN := Lib.hid hn; have HV := Lib.hid h
  clear hn h
  go_enter Try.func24, Try.ntmps24
  go_upto_region 3 with fail
  go_loopw [3, 8] (fun s i wr => ∃ k m : Nat, k ≤ n ∧ i = .int .i64 k ∧ s = .int .u32 m ∧ m < 4294967296 ∧ crcL 4294967295 l = crcL m (l.drop k) ∧ w = wr) (fun _ i _ => n - (intOf i).toNat)
  case atStart => exact ⟨0, 4294967295, Nat.zero_le _, rfl, rfl, by omega, rfl, rfl⟩
  case round =>
    obtain ⟨k, m, hk, rfl, rfl, hm, hall, rfl⟩ := hrel
    have HA := Lib.hid hall
    clear hall
    by_cases hkn : k < n
    · obtain ⟨b, off, rfl, hc⟩ := Bs.at HV.out (by omega)
      obtain ⟨x, hx⟩ : ∃ x, l[k]? = some x := ⟨_, List.getElem?_eq_getElem (by have := HN.out; omega)⟩
      have g1 := hc k x hx
      have hxb := hb x (List.mem_of_getElem? hx)
      have HX := Lib.hid hx
      clear hc hx
      go_upto_region 6 with fail
      have hm1 : bits .xor .u32 (m : Int) x = ((m ^^^ x.toNat : Nat) : Int) := by
        have := u32_xor (m : Int) x (by omega) (by omega) hxb.1 (by omega)
        simpa using this
      rw [hm1]
      have hm1b := xor_lt hm hxb
      have HM := Lib.hid (show crcB m x = crcN 8 (m ^^^ x.toNat) from rfl)
      clear hm1
      generalize m ^^^ x.toNat = m1 at *
      go_wp2_with fail
      go_loopw [3, 16] (fun s i wr => ∃ q m2 : Nat, q ≤ 8 ∧ i = .int .i64 q ∧ s = .int .u32 m2 ∧ m2 < 4294967296 ∧ m2 = crcN q m1 ∧ w = wr) (fun _ i _ => 8 - (intOf i).toNat)
      case atStart => exact ⟨0, m1, Nat.zero_le _, rfl, rfl, hm1b, rfl, by first | rfl | trivial⟩
      case round =>
        obtain ⟨q, m2, hq, rfl, rfl, hm2, hm2e, rfl⟩ := hrel
        have HM2 := Lib.hid hm2e
        clear hm2e
        by_cases hq8 : q < 8
        · go_upto_region 9 with fail
          rw [crc1_bits hm2]
          go_wp2_with fail
          go_roundw
          case rel => exact ⟨q + 1, crc1 m2, by omega, by go_num, rfl, crc1_lt hm2, by rw [HM2.out]; rfl, by first | rfl | trivial⟩
          case measure => simp [intOf]; omega
        · obtain rfl : q = 8 := by omega
          go_wp2_with fail
          go_roundw
          case rel =>
            refine ⟨k + 1, m2, by omega, by go_num, rfl, hm2, ?_, by first | rfl | trivial⟩
            rw [HA.out, drop_at HX.out, crcL, HM.out, HM2.out]
          case measure => simp [intOf]; omega
    · obtain rfl : k = n := by omega
      go_wp2_with fail
      rw [not_bits hm]
      go_ret
      refine Ret.mk (congrArg (fun z : Nat => Value.int .u32 z) ?_) (Below.refl _ _)
      rw [sumL, HA.out, List.drop_of_length_le (by rw [HN.out]; exact Nat.le_refl _)]
      rfl

end

section
open Go.RowKit

def fourL (m : Nat) : List Int := [(m : Int) % 256, (m : Int) / 256 % 256, (m : Int) / 65536 % 256, (m : Int) / 16777216]
theorem fourL_bytes {m : Nat} (h : m < 4294967296) : IsBytes (fourL m) := fun x hx => by
  simp only [fourL, List.mem_cons, List.not_mem_nil, or_false] at hx
  omega
theorem fourL_len (m : Nat) : (fourL m).length = 4 := rfl
/-- A number of four bytes. -/
def unfour : List Int → Nat
  | [a, b, c, d] => a.toNat + 256 * b.toNat + 65536 * c.toNat + 16777216 * d.toNat
  | _ => 0
theorem unfour_fourL {m : Nat} (h : m < 4294967296) : unfour (fourL m) = m := by
  simp only [unfour, fourL]
  omega
theorem fourL_inj {m k : Nat} (h : m < 4294967296) (h' : k < 4294967296) (e : fourL m = fourL k) : m = k := by
  rw [← unfour_fourL h, ← unfour_fourL h', e]

set_option maxRecDepth 100000 in
theorem four_any (a : Option Addr) (k c : Nat) (l : List Int) (m : Nat) (w : World) (h : Bs w a k c l) (hl : l.length + 4 ≤ 140737488355328) (hm : m < 4294967296) :
    Calls Try.prog 23 #[.slice a k c, .int .u32 m] w (RetB w (l ++ fourL m)) := by
  have hlk := Lib.hid h.length
  have hmI : (m : Int) < 4294967296 := by omega
  have HM := Lib.hid hm
  clear hm
  go_enter Try.func23, Try.ntmps23
  repeat (first
    | (go_at_call 55; refine (clone_bytes _ _ _ _ _ h (by omega)).mono ?_; rintro e w1 ⟨a1, k1, c1, rfl, hb, hown⟩; have HK := Lib.hid (show k1 = l.length by { have := hown.1; simpa using this.symm }); dsimp only)
    | ((fail_if_success at_builtin); first | go_values | go_skip | go_guarded | go_step | go_upon))
  at_builtin
  refine app_bytes rfl _ _ rfl w.heap.size _ _ _ rfl (hown.alloc _) _ 4 4 (fourL m) rfl (Sl.row (blk0 w1 _ _) 1 4 rfl (by simp [maxLen])) (by have := HK.out; omega) (by have := hb.size; simp; omega) ?_
  intro v' w2 hown' hgrow
  go_wp2_with fail
  go_ret
  exact RetB.mk ((hb.alloc hb.size _).grown hgrow (by have := hb.size; simp; omega) (fun k hk => ((World.ownsRow.lt hown) k hk).1)) hown' (by simp)

/-- A number of four bytes is read. -/
def getFour (s : Rd) : Nat × Rd := match s with
  | none => (0, none)
  | some l => if 4 ≤ l.length then (unfour (l.take 4), some (l.drop 4)) else (0, none)

theorem or_hi (p y k : Nat) (hp : p < 2 ^ k) (h : p + y * 2 ^ k < 4294967296) : bits .or .u32 (p : Int) ((y * 2 ^ k : Nat) : Int) = ((p + y * 2 ^ k : Nat) : Int) := by
  rw [u32_or_nat p _ (by omega) (by omega)]
  congr 1
  have := Nat.two_pow_add_eq_or_of_lt (i := k) (b := p) hp y
  rw [Nat.or_comm, Nat.mul_comm y, ← this]
  omega
theorem or4 {x0 x1 x2 x3 : Int} (b0 : 0 ≤ x0 ∧ x0 < 256) (b1 : 0 ≤ x1 ∧ x1 < 256) (b2 : 0 ≤ x2 ∧ x2 < 256) (b3 : 0 ≤ x3 ∧ x3 < 256) {t : List Int} :
    bits .or .u32 (bits .or .u32 (bits .or .u32 x0 (x1 * 256)) (x2 * 65536)) (x3 * 16777216) = (unfour (List.take 4 (x0 :: x1 :: x2 :: x3 :: t)) : Int) := by
  obtain ⟨y0, rfl⟩ := Int.eq_ofNat_of_zero_le b0.1
  obtain ⟨y1, rfl⟩ := Int.eq_ofNat_of_zero_le b1.1
  obtain ⟨y2, rfl⟩ := Int.eq_ofNat_of_zero_le b2.1
  obtain ⟨y3, rfl⟩ := Int.eq_ofNat_of_zero_le b3.1
  have e1 := or_hi y0 y1 8 (by omega) (by omega)
  have e2 := or_hi (y0 + y1 * 2 ^ 8) y2 16 (by omega) (by omega)
  have e3 := or_hi (y0 + y1 * 2 ^ 8 + y2 * 2 ^ 16) y3 24 (by omega) (by omega)
  rw [show (y1 : Int) * 256 = ((y1 * 2 ^ 8 : Nat) : Int) by omega, e1, show (y2 : Int) * 65536 = ((y2 * 2 ^ 16 : Nat) : Int) by omega, e2, show (y3 : Int) * 16777216 = ((y3 * 2 ^ 24 : Nat) : Int) by omega, e3]
  simp only [List.take_succ_cons, List.take_zero, unfour, Int.toNat_natCast]
  omega

set_option maxRecDepth 100000 in
set_option maxHeartbeats 1000000 in
theorem rdfour_any (H g : Nat) (l : List Int) (w : World) (h : RdAt w H g (some l)) (hs : IsBytes l) (hl : 4 ≤ l.length) :
    Calls Try.prog 36 #[.pointer (some ⟨g, 0, none⟩)] w fun e w' => e = .returned (.int .u32 (unfour (l.take 4))) ∧ w.grownBy w' (some g) := by
  obtain ⟨x0, x1, x2, x3, t, rfl⟩ : ∃ x0 x1 x2 x3 t, l = x0 :: x1 :: x2 :: x3 :: t := by
    match l, hl with
    | x0 :: x1 :: x2 :: x3 :: t, _ => exact ⟨x0, x1, x2, x3, t, rfl⟩
  have b0 := hs x0 (by simp)
  have b1 := hs x1 (by simp)
  have b2 := hs x2 (by simp)
  have b3 := hs x3 (by simp)
  go_enter Try.func36, Try.ntmps36
  go_upto_region 4 with (go_at_call 59; refine (take_yes H g _ 4 _ h hl).mono ?_; rintro e w1 ⟨a1, rfl, hgr, hrd, hbs⟩; obtain ⟨b, off, rfl, hc⟩ := Bs.at hbs (by omega))
  have k0 := cell_regrown (hc 0 x0 rfl)
  have k1 := cell_regrown (hc 1 x1 rfl)
  have k2 := cell_regrown (hc 2 x2 rfl)
  have k3 := cell_regrown (hc 3 x3 rfl)
  simp only [Nat.add_zero] at k0
  clear hc hbs
  (refine wp_region_quiet_below (by kernel_rfl) (by kernel_rfl) ?_; (repeat (go_big_quiet_step (fail))); refine wpQuiet_nil ?_; intro _ hw'; obtain ⟨⟨dq, osq⟩, hw''⟩ := hw'; subst hw'')
  go_wp2_with fail
  rw [or4 b0 b1 b2 b3]
  go_ret
  exact ⟨rfl, grown_trans hgr (grown_below (below_regrown _ _ _))⟩

end

section
open Go.RowKit

def idsL (l : List (List Int)) : List Int := numL l.length ++ l.flatten
theorem flat_len : ∀ (l : List (List Int)), (∀ d ∈ l, d.length = 32 ∧ IsBytes d) → l.flatten.length = l.length * 32
  | [], _ => rfl
  | d :: l, h => by
    have ih := flat_len l (fun x hx => h x (List.mem_cons_of_mem _ hx))
    have hd := (h d (List.mem_cons_self ..)).1
    simp only [List.flatten_cons, List.length_append, List.length_cons, ih, hd]
    omega
theorem take_flat {l : List (List Int)} {k : Nat} {d : List Int} (h : l[k]? = some d) : (l.take (k + 1)).flatten = (l.take k).flatten ++ d := by
  obtain ⟨hk, rfl⟩ := List.getElem?_eq_some_iff.1 h
  rw [List.take_succ_eq_append_getElem hk]
  simp only [List.flatten_append, List.flatten_cons, List.flatten_nil, List.append_nil]
theorem flat_take_len {l : List (List Int)} (h : ∀ d ∈ l, d.length = 32 ∧ IsBytes d) (k : Nat) (hk : k ≤ l.length) : (l.take k).flatten.length = k * 32 := by
  rw [flat_len _ (fun d hd => h d (List.mem_of_mem_take hd))]
  simp
  omega

set_option maxRecDepth 100000 in
set_option maxHeartbeats 1000000 in
theorem ids_any (a : Option Addr) (k c : Nat) (l : List Int) (a' : Option Addr) (n c' : Nat) (ds : List (List Int)) (w : World) (h : Bs w a k c l) (h' : Ids w a' n c' ds) (hl : l.length + 9 + n * 32 ≤ 140737488355328) :
    Calls Try.prog 22 #[.slice a k c, .slice a' n c'] w (RetB w (l ++ idsL ds)) := by
  have hn := h'.len
  have HN := Lib.hid hn; have HV := Lib.hid h'
  have HLn := Lib.hid (numL_len (n : Int))
  have hd0 : l.length + 9 ≤ 140737488355328 := by omega
  have hnn : n ≤ 140737488355328 := by omega
  have HL := Lib.hid hl
  clear hn h' hl
  go_enter Try.func22, Try.ntmps22
  go_upto_region 3 with (go_at_call 19; refine (num_any _ _ _ _ _ _ h hd0).mono ?_; rintro e w1 ⟨a1, k1, c1, rfl, hb, hown⟩)
  have HK := Lib.hid (retB_len hown)
  have HO := Lib.hid hown
  clear hown
  go_loopw [0, 13] (fun v i wr => ∃ (j : Nat) (xs : List Int), j ≤ n ∧ i = .int .i64 j ∧ xs = l ++ numL n ++ (ds.take j).flatten ∧ wr.ownsRow w.heap.size 5 1 v xs.length (xs.map (Value.int .u8)) ∧ Below w.heap.size w wr) (fun _ i _ => n - (intOf i).toNat)
  case atStart => exact ⟨0, l ++ numL n, Nat.zero_le _, rfl, by simp, HK.out ▸ HO.out, hb⟩
  case round =>
    clear hb
    obtain ⟨j, xs, hj, rfl, hxs, hown, hB⟩ := hrel
    have HX := Lib.hid hxs
    clear hxs
    by_cases hjn : j < n
    · obtain ⟨b, off, rfl, hc⟩ := HV.out.seg (by omega)
      obtain ⟨d, hd⟩ : ∃ d, ds[j]? = some d := ⟨_, List.getElem?_eq_getElem (by have := HN.out; omega)⟩
      have G := hc j d hd
      have hs := seg_below G.2 hB
      have HD := Lib.hid hd
      clear hc hd
      obtain ⟨a2, c2, rfl, hs2⟩ := own_form hown
      have hb2 : Bs wr a2 xs.length c2 xs := hs2
      clear hs2
      (repeat ((fail_if_success (with_reducible show wpList _ _ _ (Oper.mk _ (Op.store _ _ _) _ _ _ _ :: _) _ _)); first | go_values | go_skip | go_guarded | go_step | go_upon))
      have hz := blk0 wr (idC zero32) 25
      refine wpList_store_seg (w := wr.alloc (.cells (idC zero32) 25)) rfl 25 _ _ rfl rfl wr.heap.size 0 rfl (idC d) rfl 25 (idC zero32) hz (by rw [idC_size G.1.1]; decide) (size_id' G.1.1) (cells_id d) (idC d) (put_whole _ _ (by rw [idC_size G.1.1]; rfl)) ?_
      intro w3 hq3 hg3 _
      have hB3 : Below wr.heap.size wr w3 := ((Below.refl _ _).alloc (Nat.le_refl _) (.cells (idC zero32) 25)).grown hg3 (by simp) (fun k hk => by cases hk; omega)
      have hb3 := hb2.below hB3
      have hs3 := seg_id hq3 G.1.1
      have hB := Below.next hB hB3
      have hlen : xs.length + 32 ≤ 140737488355328 := by
        have h1 := HX.out
        have h2 := HL.out
        have h3 := HLn.out
        have h4 := flat_take_len HV.out.all j (by have := HN.out; omega)
        rw [h1, List.length_append, List.length_append, h4]
        omega
      clear hz hg3 hs hq3 hown hb2 hB3
      generalize wr.heap.size = q at *
      go_wp2_with (go_at_call 20; refine (id_any _ _ _ _ _ _ hb3 hlen G.1.1).mono ?_; rintro e w4 ⟨a4, k4, c4, rfl, hb4, hown4⟩)
      have HK4 := Lib.hid (retB_len hown4)
      have hO4 := own_base (base' := w.heap.size) hown4 hB.size
      have hB4 := Below.next hB hb4
      clear hown4 hB hb4
      go_roundw
      case rel => exact ⟨j + 1, xs ++ d, by omega, by go_num, by rw [HX.out, take_flat HD.out, ← List.append_assoc], HK4.out ▸ hO4, hB4⟩
      case measure => simp [intOf]; omega
    · obtain rfl : j = n := by omega
      go_wp2_with fail
      go_ret
      refine RetB.mk hB hown ?_
      rw [HX.out, List.take_of_length_le (by rw [HN.out]; exact Nat.le_refl _), idsL, HN.out, List.append_assoc]

end

section
open Go.RowKit

def refB (r : RfL) : List Int := textL r.name ++ r.id
def rfsL (l : List RfL) : List Int := numL l.length ++ l.flatMap refB
def nums (l : LetL) : List Int := [l.kind, l.from_, l.to_, l.session]
def tailL (l : LetL) : List Int :=
  if l.kind = 2 then rfsL l.refs
  else if l.kind = 3 then idsL l.wants ++ idsL l.haves ++ numL l.off
  else if l.kind = 4 then l.pack ++ numL l.off ++ numL l.total ++ textL (toS l.data)
  else []
def bodyL (l : LetL) : List Int := (nums l).flatMap numL ++ tailL l
def wireL (l : LetL) : List Int := bodyL l ++ fourL (sumL (bodyL l))

/-- What a letter's lists are like, whatever the memory. -/
structure LetOk (l : LetL) : Prop where
  refs : ∀ r ∈ l.refs, (r.id.length = 32 ∧ IsBytes r.id) ∧ r.name.size ≤ 9223372036854775807
  wants : ∀ d ∈ l.wants, d.length = 32 ∧ IsBytes d
  haves : ∀ d ∈ l.haves, d.length = 32 ∧ IsBytes d
  pack : l.pack.length = 32
  packb : IsBytes l.pack
  data : IsBytes l.data
theorem LetA.ok {w : World} {l : LetL} {s : LS} (h : LetA w l s) : LetOk l := ⟨h.refs.all, h.wants.all, h.haves.all, h.pack, h.packb, h.bytes⟩

theorem right_kind {l : LetL} (h : rightB l = true) : kindB l = true := by
  simp only [rightB, Bool.and_eq_true] at h
  exact h.2
theorem rfs_len {l : List RfL} (h : rfsB l = true) : l.length ≤ 100 := by
  simp only [rfsB, Bool.and_eq_true, decide_eq_true_eq] at h
  exact h.2
theorem rfs_name {l : List RfL} (h : rfsB l = true) {r : RfL} (hr : r ∈ l) : nameB r.name = true := by
  simp only [rfsB, Bool.and_eq_true, List.all_eq_true] at h
  obtain ⟨i, hi, rfl⟩ := List.mem_iff_getElem.1 hr
  have := h.1 i (by simpa using hi)
  unfold rfAt at this
  rw [List.getElem?_eq_getElem hi] at this
  simp only [Bool.and_eq_true] at this
  exact this.1.1
theorem nameB_size {s : ByteArray} (h : nameB s = true) : 1 ≤ s.size ∧ s.size ≤ 60 := by
  simp only [nameB, Bool.and_eq_true, decide_eq_true_eq] at h
  exact ⟨h.1.1.1.1, h.1.1.1.2⟩
theorem right_k2 {l : LetL} (h : rightB l = true) (hk : l.kind = 2) : rfsB l.refs = true := by
  have := right_kind h
  unfold kindB at this
  rwa [if_neg (by omega), if_pos hk] at this
theorem right_k3 {l : LetL} (h : rightB l = true) (hk : l.kind = 3) : (1 ≤ l.wants.length ∧ l.wants.length ≤ 100) ∧ l.haves.length ≤ 200 ∧ 0 ≤ l.off ∧ l.off ≤ 1048576 := by
  have := right_kind h
  unfold kindB at this
  rw [if_neg (by omega), if_neg (by omega), if_pos hk] at this
  simp only [Bool.and_eq_true, decide_eq_true_eq] at this
  exact ⟨this.1.1.1.1, this.1.1.1.2, this.2⟩
theorem right_k4 {l : LetL} (h : rightB l = true) (hk : l.kind = 4) : l.data.length ≤ 500 ∧ (0 ≤ l.off ∧ l.off ≤ 1048576) ∧ 0 ≤ l.total ∧ l.total ≤ 1048576 := by
  have := right_kind h
  unfold kindB at this
  rw [if_neg (by omega), if_neg (by omega), if_neg (by omega), if_pos hk] at this
  simp only [Bool.and_eq_true, decide_eq_true_eq] at this
  exact ⟨this.1.1.2, this.1.1.1.1.2, this.1.1.1.2⟩

theorem refB_len {r : RfL} (h : r.id.length = 32) : (refB r).length ≤ 41 + r.name.size := by
  have := numL_len r.name.size
  have := strB_len r.name
  simp only [refB, textL, List.length_append]
  omega
theorem refs_flat_len : ∀ (l : List RfL), (∀ r ∈ l, r.id.length = 32) → (∀ r ∈ l, r.name.size ≤ 60) → (l.flatMap refB).length ≤ l.length * 101
  | [], _, _ => by simp
  | r :: l, h, h' => by
    have ih := refs_flat_len l (fun x hx => h x (List.mem_cons_of_mem _ hx)) (fun x hx => h' x (List.mem_cons_of_mem _ hx))
    have h1 := refB_len (h r (List.mem_cons_self ..))
    have h2 := h' r (List.mem_cons_self ..)
    simp only [List.flatMap_cons, List.length_append, List.length_cons]
    omega
theorem body_len {l : LetL} (h : rightB l = true) (ho : LetOk l) : (bodyL l).length ≤ 20000 := by
  have n1 := numL_len l.kind
  have n2 := numL_len l.from_
  have n3 := numL_len l.to_
  have n4 := numL_len l.session
  have n5 := numL_len l.off
  have n6 := numL_len l.total
  have n7 := numL_len l.refs.length
  have n8 := numL_len l.wants.length
  have n9 := numL_len l.haves.length
  have n10 := numL_len ((toS l.data).size : Int)
  have ht : (tailL l).length ≤ 19000 := by
    unfold tailL
    split
    · rename_i hk
      have hr := right_k2 h hk
      have h1 := rfs_len hr
      have h2 := refs_flat_len l.refs (fun r hr => (ho.refs r hr).1.1) (fun r hr' => (nameB_size (rfs_name hr hr')).2)
      simp only [rfsL, List.length_append]
      omega
    · split
      · rename_i hk
        have h1 := right_k3 h hk
        have h2 := flat_len l.wants ho.wants
        have h3 := flat_len l.haves ho.haves
        simp only [idsL, List.length_append]
        omega
      · split
        · rename_i hk
          have h1 := right_k4 h hk
          have h2 := ho.pack
          have h3 := strB_len (toS l.data)
          have h4 := toS_size l.data
          simp only [textL, List.length_append]
          omega
        · simp
  simp only [bodyL, nums, List.flatMap_cons, List.flatMap_nil, List.length_append, List.length_nil]
  omega
theorem flat_bytes : ∀ (l : List (List Int)), (∀ d ∈ l, d.length = 32 ∧ IsBytes d) → IsBytes l.flatten
  | [], _ => .nil
  | d :: l, h => by
    rw [List.flatten_cons]
    exact (h d (List.mem_cons_self ..)).2.append (flat_bytes l (fun x hx => h x (List.mem_cons_of_mem _ hx)))
theorem refs_bytes : ∀ (l : List RfL), (∀ r ∈ l, IsBytes r.id) → IsBytes (l.flatMap refB)
  | [], _ => .nil
  | r :: l, h => by
    rw [List.flatMap_cons]
    exact (((numB_bytes _).append (strB_bytes _)).append (h r (List.mem_cons_self ..))).append (refs_bytes l (fun x hx => h x (List.mem_cons_of_mem _ hx)))
theorem nums_bytes : ∀ (l : List Int), IsBytes (l.flatMap numL)
  | [] => .nil
  | n :: l => by
    rw [List.flatMap_cons]
    exact (numB_bytes _).append (nums_bytes l)
theorem body_bytes {l : LetL} (ho : LetOk l) : IsBytes (bodyL l) := by
  refine (nums_bytes _).append ?_
  unfold tailL
  split
  · exact (numB_bytes _).append (refs_bytes _ (fun r hr => (ho.refs r hr).1.2))
  · split
    · exact (((numB_bytes _).append (flat_bytes _ ho.wants)).append ((numB_bytes _).append (flat_bytes _ ho.haves))).append (numB_bytes _)
    · split
      · exact ((ho.packb.append (numB_bytes _)).append (numB_bytes _)).append ((numB_bytes _).append (strB_bytes _))
      · exact .nil

end

end Go.Proofs.Ytfjbmgfkfeehnaa
