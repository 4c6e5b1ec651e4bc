/- Four bytes of a number: written, read. -/
import Derived.Test.YtfjbmgfkfeehnaaSum
namespace Go.Proofs.Ytfjbmgfkfeehnaa
open Go.RowKit

def fourL (m : Nat) : List Int := [(m : Int) % 256, (m : Int) / 256 % 256, (m : Int) / 65536 % 256, (m : Int) / 16777216]
theorem fourL_bytes {m : Nat} (h : m < 4294967296) : IsBytes (fourL m) := fun x hx => by
  simp only [fourL, List.mem_cons, List.not_mem_nil, or_false] at hx
  omega
theorem fourL_len (m : Nat) : (fourL m).length = 4 := rfl
/-- A number of four bytes. -/
def unfour : List Int → Nat
  | [a, b, c, d] => a.toNat + 256 * b.toNat + 65536 * c.toNat + 16777216 * d.toNat
  | _ => 0
theorem unfour_fourL {m : Nat} (h : m < 4294967296) : unfour (fourL m) = m := by
  simp only [unfour, fourL]
  omega
theorem fourL_inj {m k : Nat} (h : m < 4294967296) (h' : k < 4294967296) (e : fourL m = fourL k) : m = k := by
  rw [← unfour_fourL h, ← unfour_fourL h', e]

set_option maxRecDepth 100000 in
theorem four_any (a : Option Addr) (k c : Nat) (l : List Int) (m : Nat) (w : World) (h : Bs w a k c l) (hl : l.length + 4 ≤ 140737488355328) (hm : m < 4294967296) :
    Calls Try.prog 23 #[.slice a k c, .int .u32 m] w (RetB w (l ++ fourL m)) := by
  have hlk := Lib.hid h.length
  have hmI : (m : Int) < 4294967296 := by omega
  have HM := Lib.hid hm
  clear hm
  go_enter Try.func23, Try.ntmps23
  repeat (first
    | (go_at_call 55; refine (clone_bytes _ _ _ _ _ h (by omega)).mono ?_; rintro e w1 ⟨a1, k1, c1, rfl, hb, hown⟩; have HK := Lib.hid (show k1 = l.length by { have := hown.1; simpa using this.symm }); dsimp only)
    | ((fail_if_success at_builtin); first | go_values | go_skip | go_guarded | go_step | go_upon))
  at_builtin
  refine app_bytes rfl _ _ rfl w.heap.size _ _ _ rfl (hown.alloc _) _ 4 4 (fourL m) rfl (Sl.row (blk0 w1 _ _) 1 4 rfl (by simp [maxLen])) (by have := HK.out; omega) (by have := hb.size; simp; omega) ?_
  intro v' w2 hown' hgrow
  go_wp2_with fail
  go_ret
  exact RetB.mk ((hb.alloc hb.size _).grown hgrow (by have := hb.size; simp; omega) (fun k hk => ((World.ownsRow.lt hown) k hk).1)) hown' (by simp)

/-- A number of four bytes is read. -/
def getFour (s : Rd) : Nat × Rd := match s with
  | none => (0, none)
  | some l => if 4 ≤ l.length then (unfour (l.take 4), some (l.drop 4)) else (0, none)

theorem or_hi (p y k : Nat) (hp : p < 2 ^ k) (h : p + y * 2 ^ k < 4294967296) : bits .or .u32 (p : Int) ((y * 2 ^ k : Nat) : Int) = ((p + y * 2 ^ k : Nat) : Int) := by
  rw [u32_or_nat p _ (by omega) (by omega)]
  congr 1
  have := Nat.two_pow_add_eq_or_of_lt (i := k) (b := p) hp y
  rw [Nat.or_comm, Nat.mul_comm y, ← this]
  omega
theorem or4 {x0 x1 x2 x3 : Int} (b0 : 0 ≤ x0 ∧ x0 < 256) (b1 : 0 ≤ x1 ∧ x1 < 256) (b2 : 0 ≤ x2 ∧ x2 < 256) (b3 : 0 ≤ x3 ∧ x3 < 256) {t : List Int} :
    bits .or .u32 (bits .or .u32 (bits .or .u32 x0 (x1 * 256)) (x2 * 65536)) (x3 * 16777216) = (unfour (List.take 4 (x0 :: x1 :: x2 :: x3 :: t)) : Int) := by
  obtain ⟨y0, rfl⟩ := Int.eq_ofNat_of_zero_le b0.1
  obtain ⟨y1, rfl⟩ := Int.eq_ofNat_of_zero_le b1.1
  obtain ⟨y2, rfl⟩ := Int.eq_ofNat_of_zero_le b2.1
  obtain ⟨y3, rfl⟩ := Int.eq_ofNat_of_zero_le b3.1
  have e1 := or_hi y0 y1 8 (by omega) (by omega)
  have e2 := or_hi (y0 + y1 * 2 ^ 8) y2 16 (by omega) (by omega)
  have e3 := or_hi (y0 + y1 * 2 ^ 8 + y2 * 2 ^ 16) y3 24 (by omega) (by omega)
  rw [show (y1 : Int) * 256 = ((y1 * 2 ^ 8 : Nat) : Int) by omega, e1, show (y2 : Int) * 65536 = ((y2 * 2 ^ 16 : Nat) : Int) by omega, e2, show (y3 : Int) * 16777216 = ((y3 * 2 ^ 24 : Nat) : Int) by omega, e3]
  simp only [List.take_succ_cons, List.take_zero, unfour, Int.toNat_natCast]
  omega

set_option maxRecDepth 100000 in
set_option maxHeartbeats 1000000 in
theorem rdfour_any (H g : Nat) (l : List Int) (w : World) (h : RdAt w H g (some l)) (hs : IsBytes l) (hl : 4 ≤ l.length) :
    Calls Try.prog 36 #[.pointer (some ⟨g, 0, none⟩)] w fun e w' => e = .returned (.int .u32 (unfour (l.take 4))) ∧ w.grownBy w' (some g) := by
  obtain ⟨x0, x1, x2, x3, t, rfl⟩ : ∃ x0 x1 x2 x3 t, l = x0 :: x1 :: x2 :: x3 :: t := by
    match l, hl with
    | x0 :: x1 :: x2 :: x3 :: t, _ => exact ⟨x0, x1, x2, x3, t, rfl⟩
  have b0 := hs x0 (by simp)
  have b1 := hs x1 (by simp)
  have b2 := hs x2 (by simp)
  have b3 := hs x3 (by simp)
  go_enter Try.func36, Try.ntmps36
  go_upto_region 4 with (go_at_call 59; refine (take_yes H g _ 4 _ h hl).mono ?_; rintro e w1 ⟨a1, rfl, hgr, hrd, hbs⟩; obtain ⟨b, off, rfl, hc⟩ := Bs.at hbs (by omega))
  have k0 := cell_regrown (hc 0 x0 rfl)
  have k1 := cell_regrown (hc 1 x1 rfl)
  have k2 := cell_regrown (hc 2 x2 rfl)
  have k3 := cell_regrown (hc 3 x3 rfl)
  simp only [Nat.add_zero] at k0
  clear hc hbs
  (refine wp_region_quiet_below (by kernel_rfl) (by kernel_rfl) ?_; (repeat (go_big_quiet_step (fail))); refine wpQuiet_nil ?_; intro _ hw'; obtain ⟨⟨dq, osq⟩, hw''⟩ := hw'; subst hw'')
  go_wp2_with fail
  rw [or4 b0 b1 b2 b3]
  go_ret
  exact ⟨rfl, grown_trans hgr (grown_below (below_regrown _ _ _))⟩

end Go.Proofs.Ytfjbmgfkfeehnaa
