/- Stamps against each other; right stamps. -/
import Derived.Test.YtdghnfihphlboaaStG
namespace Go.Proofs.Ytdghnfihphlboaa
open Go.RowKit

def cmpZ (x y : Int) : Int := if x < y then -1 else if y < x then 1 else 0
def orZ (x y : Int) : Int := if x = 0 then y else x
/-- The order of stamps. -/
def stCmp (a b : St) : Int := orZ (cmpZ a.t b.t) (cmpZ a.r b.r)
def stRight (s : St) : Bool := decide (1 ≤ s.t ∧ s.t ≤ 1099511627776 ∧ 1 ≤ s.r ∧ s.r ≤ 65536)
def stFixed (s : St) : Bool := decide (s.t = 0 ∧ (s.r = 0 ∨ s.r = 1))

theorem nan_64 (x : Int) (w : World) : Calls Try.prog 67 #[.int .i64 x] w fun e w' => e = .returned (.bool false) ∧ w = w' := by
  go_enter Try.func67, Try.ntmps67
  go_wp2
  go_ret
  exact ⟨by simp, rfl⟩
theorem nan_int (x : Int) (w : World) : Calls Try.prog 68 #[.int .i64 x] w fun e w' => e = .returned (.bool false) ∧ w = w' := by
  go_enter Try.func68, Try.ntmps68
  go_wp2
  go_ret
  exact ⟨by simp, rfl⟩

theorem compare_64 (x y : Int) (w : World) : Calls Try.prog 37 #[.int .i64 x, .int .i64 y] w fun e w' => e = .returned (.int .i64 (cmpZ x y)) ∧ w = w' := by
  rcases Int.lt_trichotomy x y with h1 | rfl | h1
  · have H := Lib.hid (show cmpZ x y = -1 by simp [cmpZ, h1])
    go_enter Try.func37, Try.ntmps37
    go_wp2_with (go_at_call 67; refine (nan_64 _ _).mono ?_; rintro e w' ⟨rfl, rfl⟩)
    go_ret
    exact ⟨by rw [H.out]; rfl, rfl⟩
  · have H := Lib.hid (show cmpZ x x = 0 by simp [cmpZ])
    go_enter Try.func37, Try.ntmps37
    go_wp2_with (go_at_call 67; refine (nan_64 _ _).mono ?_; rintro e w' ⟨rfl, rfl⟩)
    go_ret
    exact ⟨by rw [H.out]; rfl, rfl⟩
  · have H := Lib.hid (show cmpZ x y = 1 by simp only [cmpZ]; rw [if_neg (by omega), if_pos h1])
    go_enter Try.func37, Try.ntmps37
    go_wp2_with (go_at_call 67; refine (nan_64 _ _).mono ?_; rintro e w' ⟨rfl, rfl⟩)
    go_ret
    exact ⟨by rw [H.out]; rfl, rfl⟩
theorem compare_int (x y : Int) (w : World) : Calls Try.prog 38 #[.int .i64 x, .int .i64 y] w fun e w' => e = .returned (.int .i64 (cmpZ x y)) ∧ w = w' := by
  rcases Int.lt_trichotomy x y with h1 | rfl | h1
  · have H := Lib.hid (show cmpZ x y = -1 by simp [cmpZ, h1])
    go_enter Try.func38, Try.ntmps38
    go_wp2_with (go_at_call 68; refine (nan_int _ _).mono ?_; rintro e w' ⟨rfl, rfl⟩)
    go_ret
    exact ⟨by rw [H.out]; rfl, rfl⟩
  · have H := Lib.hid (show cmpZ x x = 0 by simp [cmpZ])
    go_enter Try.func38, Try.ntmps38
    go_wp2_with (go_at_call 68; refine (nan_int _ _).mono ?_; rintro e w' ⟨rfl, rfl⟩)
    go_ret
    exact ⟨by rw [H.out]; rfl, rfl⟩
  · have H := Lib.hid (show cmpZ x y = 1 by simp only [cmpZ]; rw [if_neg (by omega), if_pos h1])
    go_enter Try.func38, Try.ntmps38
    go_wp2_with (go_at_call 68; refine (nan_int _ _).mono ?_; rintro e w' ⟨rfl, rfl⟩)
    go_ret
    exact ⟨by rw [H.out]; rfl, rfl⟩

theorem or_two (x y : Int) (b : Nat) (w : World) (hx : w.cell? ⟨b, 0, none⟩ = some (.int .i64 x)) (hy : w.cell? ⟨b, 1, none⟩ = some (.int .i64 y)) :
    Calls Try.prog 36 #[.slice (some ⟨b, 0, none⟩) 2 2] w fun e w' => e = .returned (.int .i64 (orZ x y)) ∧ w = w' := by
  by_cases h : x = 0
  · have H := Lib.hid (show orZ x y = y by simp [orZ, h])
    have q1 : (x != 0) = false := by simp [h]
    have q1' : (x == 0) = true := by simp [h]
    clear h
    by_cases h' : y = 0
    · have q2 : (y != 0) = false := by simp [h']
      have q2' : (y == 0) = true := by simp [h']
      go_enter Try.func36, Try.ntmps36
      go_wp2_with fail
      refine wp_loop_rounds 3 ?_
      rw [rounds_succ]
      go_wp2
      rw [rounds_succ]
      go_wp2
      rw [rounds_succ]
      go_wp2
      go_ret
      exact ⟨by rw [H.out, h']; rfl, rfl⟩
    · have q2 : (y != 0) = true := by simpa using h'
      have q2' : (y == 0) = false := by simpa using h'
      clear h'
      go_enter Try.func36, Try.ntmps36
      go_wp2_with fail
      refine wp_loop_rounds 2 ?_
      rw [rounds_succ]
      go_wp2
      rw [rounds_succ]
      go_wp2
      go_ret
      exact ⟨by rw [H.out]; rfl, rfl⟩
  · have H := Lib.hid (show orZ x y = x by simp [orZ, h])
    have q1 : (x != 0) = true := by simpa using h
    have q1' : (x == 0) = false := by simpa using h
    clear h
    go_enter Try.func36, Try.ntmps36
    go_wp2_with fail
    refine wp_loop_rounds 1 ?_
    rw [rounds_succ]
    go_wp2
    go_ret
    exact ⟨by rw [H.out]; rfl, rfl⟩

set_option maxRecDepth 100000 in
theorem stcmp_any (a b : St) (w : World) : Calls Try.prog 12 #[.agg #[.int .i64 a.t, .int .i64 a.r], .agg #[.int .i64 b.t, .int .i64 b.r]] w (Ret w (.int .i64 (stCmp a b))) := by
  go_enter Try.func12, Try.ntmps12
  go_wp2_with fail
  go_region_held3 (fun w' => w'.cell? ⟨w.heap.size, 0, none⟩ = some (.int .i64 a.t) ∧ w'.cell? ⟨w.heap.size, 1, none⟩ = some (.int .i64 a.r) ∧ w'.cell? ⟨w.heap.size + 1, 0, none⟩ = some (.int .i64 b.t) ∧ w'.cell? ⟨w.heap.size + 1, 1, none⟩ = some (.int .i64 b.r)) (first | assumption | (simp [go_sem, World.cell?_alloc_past]; done))
    (first
      | (go_at_call 37; refine (compare_64 _ _ _).mono ?_; rintro e w' ⟨rfl, rfl⟩)
      | (go_at_call 38; refine (compare_int _ _ _).mono ?_; rintro e w' ⟨rfl, rfl⟩)
      | (go_at_call 36; refine (or_two (cmpZ a.t b.t) (cmpZ a.r b.r) _ _ (by simp [go_sem]) (by simp [go_sem])).mono ?_; rintro e w' ⟨rfl, rfl⟩))
  go_wp2
  go_ret
  exact Ret.mk rfl (((((Below.refl _ _).alloc (Nat.le_refl _) _).alloc (by simp) _).alloc (by simp; omega) _).drew)

theorem stright_any (s : St) (w : World) : Calls Try.prog 14 #[.agg #[.int .i64 s.t, .int .i64 s.r]] w (Ret w (.bool (stRight s))) := by
  go_enter Try.func14, Try.ntmps14
  go_wp2
  all_goals
    go_ret
    refine Ret.mk ?_ ((Below.refl _ _).alloc (Nat.le_refl _) _)
    simp [stRight, *]
    try omega

theorem stfixed_any (s : St) (w : World) : Calls Try.prog 70 #[.agg #[.int .i64 s.t, .int .i64 s.r]] w (Ret w (.bool (stFixed s))) := by
  go_enter Try.func70, Try.ntmps70
  go_wp2
  all_goals
    go_ret
    refine Ret.mk ?_ ((Below.refl _ _).alloc (Nat.le_refl _) _)
    simp [stFixed, *]
    try (rw [Bool.eq_iff_iff]; simp; omega)

/-! ### The document's answers -/
theorem stCmp_lt {a b : St} (h : a.t < b.t ∨ a.t = b.t ∧ a.r < b.r) : stCmp a b = -1 := by
  unfold stCmp orZ cmpZ
  (repeat' split) <;> omega
theorem stCmp_self (a : St) : stCmp a a = 0 := by simp [stCmp, orZ, cmpZ]
theorem stCmp_gt {a b : St} (h : b.t < a.t ∨ a.t = b.t ∧ b.r < a.r) : stCmp a b = 1 := by
  unfold stCmp orZ cmpZ
  (repeat' split) <;> omega
set_option maxRecDepth 100000 in
theorem rcmp_any (a b : St) (w : World) : Calls Try.prog 13 #[.agg #[.int .i64 a.t, .int .i64 a.r], .agg #[.int .i64 b.t, .int .i64 b.r]] w (Ret w (.int .i64 (stCmp a b))) := by
  have hfin : ∀ (A B : Array Value), Below w.heap.size w ((w.alloc (.cells A 23)).alloc (.cells B 23)) := fun A B => ((Below.refl _ _).alloc (Nat.le_refl _) _).alloc (by simp) _
  rcases Int.lt_trichotomy a.t b.t with h1 | h1 | h1
  · have H := Lib.hid (stCmp_lt (.inl h1))
    go_enter Try.func13, Try.ntmps13
    go_wp2
    go_ret
    exact Ret.mk (by rw [H.out]; rfl) (hfin _ _)
  · rcases Int.lt_trichotomy a.r b.r with h2 | h2 | h2
    · have H := Lib.hid (stCmp_lt (.inr ⟨h1, h2⟩))
      have e1 : (a.t == b.t) = true := by simp [h1]
      have e2 : ¬ a.t < b.t := by omega
      clear h1
      go_enter Try.func13, Try.ntmps13
      go_wp2
      go_ret
      exact Ret.mk (by rw [H.out]; rfl) (hfin _ _)
    · have H := Lib.hid (show stCmp a b = 0 by rw [show b = a from by cases a; cases b; simp_all]; exact stCmp_self a)
      have e1 : (a.t == b.t) = true := by simp [h1]
      have e2 : ¬ a.t < b.t := by omega
      have e3 : (a.r == b.r) = true := by simp [h2]
      have e4 : ¬ a.r < b.r := by omega
      clear h1 h2
      go_enter Try.func13, Try.ntmps13
      go_wp2
      go_ret
      exact Ret.mk (by rw [H.out]; rfl) (hfin _ _)
    · have H := Lib.hid (stCmp_gt (.inr ⟨h1, h2⟩))
      have e1 : (a.t == b.t) = true := by simp [h1]
      have e2 : ¬ a.t < b.t := by omega
      have e3 : (a.r == b.r) = false := by simp; omega
      clear h1
      go_enter Try.func13, Try.ntmps13
      go_wp2
      go_ret
      exact Ret.mk (by rw [H.out]; rfl) (hfin _ _)
  · have H := Lib.hid (stCmp_gt (.inl h1))
    have e1 : (a.t == b.t) = false := by simp; omega
    go_enter Try.func13, Try.ntmps13
    go_wp2
    go_ret
    exact Ret.mk (by rw [H.out]; rfl) (hfin _ _)

theorem rright_any (s : St) (w : World) : Calls Try.prog 15 #[.agg #[.int .i64 s.t, .int .i64 s.r]] w (Ret w (.bool (stRight s))) := by
  go_enter Try.func15, Try.ntmps15
  go_wp2
  all_goals
    go_ret
    refine Ret.mk ?_ ((Below.refl _ _).alloc (Nat.le_refl _) _)
    simp [stRight, *]
    try (first | omega | (rw [Bool.eq_iff_iff]; simp; omega))

end Go.Proofs.Ytdghnfihphlboaa
