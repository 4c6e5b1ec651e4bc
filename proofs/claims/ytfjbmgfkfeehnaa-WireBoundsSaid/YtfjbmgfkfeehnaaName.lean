/- Names: none of three bytes stands in them. -/
import Derived.Test.YtfjbmgfkfeehnaaCmp
import Derived.Test.YtfjbmgfkfeehnaaShelf
import Derived.Deep.LoopGhost
import Derived.Lib.IndexAny
namespace Go.Proofs.Ytfjbmgfkfeehnaa
open Go.RowKit

/-- A quiet call behind an earlier draw (the guide's small lemma). -/
theorem quiet_add_same {P : Program} {f : FuncId} {args : Array Value} {w : World} {a n : Nat} {v : Value}
    (h : Calls P f args (w.drewN (a + n)) fun e w' => e = .returned v ∧ w' = w.drewN (a + n)) :
    Calls P f args (w.drewN (a + n)) fun e w'' => e = .returned v ∧ ∃ m, w'' = w.drewN (a + m) :=
  h.mono fun _ _ ⟨he, hm⟩ => ⟨he, n, hm⟩

theorem below_drewN (w : World) (n : Nat) : Below w.heap.size w (w.drewN n) := ⟨rfl, rfl, rfl, Nat.le_refl _, fun _ _ => rfl⟩

def bad3 : ByteArray := ⟨#[0, 47, 10]⟩

theorem decode_bad3 : Utf8.decode bad3 0 = (0, 1) ∧ Utf8.decode bad3 1 = (47, 1) ∧ Utf8.decode bad3 2 = (10, 1) := by decide

set_option maxRecDepth 100000 in
theorem indexrune_err (w : World) : Calls Try.prog 67 #[.string ⟨#[0, 47, 10]⟩, .int .i32 65533] w (Ret w (.int .i64 (-1))) := by
  have h0 := run_next_any (P := Try.prog) w bad3 0
  have h1 := run_next_any (P := Try.prog) w bad3 1
  have h2 := run_next_any (P := Try.prog) w bad3 2
  have h3 := run_next_end (P := Try.prog) w bad3 3
  simp only [decode_bad3.1, decode_bad3.2.1, decode_bad3.2.2] at h0 h1 h2
  have g0 := fun ty => h0 ty (by decide)
  have g1 := fun ty => h1 ty (by decide)
  have g2 := fun ty => h2 ty (by decide)
  have g3 := fun ty => h3 ty (by decide)
  clear h0 h1 h2 h3
  unfold bad3 at g0 g1 g2 g3
  go_enter Try.func67, Try.ntmps67
  go_wp2_with fail
  refine wp_loop_rounds 4 ?_
  rw [rounds_succ]
  go_wp2
  rw [rounds_succ]
  go_wp2
  rw [rounds_succ]
  go_wp2
  rw [rounds_succ]
  go_wp2
  try rw [Exit.noGoto_ret]
  go_ret
  exact Ret.mk rfl ((Below.refl _ _).alloc (Nat.le_refl _) _)

theorem valid_not_ascii_index (x : UInt8) (hx : 128 ≤ x.toNat) (l : List UInt8) (hl : ∀ b ∈ l, b.toNat < 128) : Lib.indexByte l x = -1 := by
  have h := Lib.contains_iff_indexByte l x
  have hc : l.contains x = false := by
    rw [Bool.eq_false_iff]
    intro hc
    have := hl x (by simpa using hc)
    omega
  rw [hc] at h
  have h' : ¬ 0 ≤ Lib.indexByte l x := of_decide_eq_false h.symm
  have := Lib.indexByte_ge l x
  omega

set_option maxRecDepth 100000 in
theorem indexrune_high (r : Int) (w : World) (h1 : 128 ≤ r) (h2 : r ≤ 2147483647) : Calls Try.prog 67 #[.string ⟨#[0, 47, 10]⟩, .int .i32 r] w (Ret w (.int .i64 (-1))) := by
  by_cases he : r = 65533
  · subst he; exact indexrune_err w
  have hne : (r == 65533) = false := by simpa using he
  clear he
  cases hv : Lib.validRune r with
  | false =>
    have hvr : ∀ w, Calls Try.prog 72 #[.int .i32 r] w fun e w' => e = .returned (.bool false) ∧ w = w' := fun w => (Try.utf8_ValidRune r w).mono fun e w' ⟨h, h'⟩ => ⟨by rw [h, hv], h'.symm⟩
    have HV := Lib.hid hv; have HR := Lib.hid hvr; clear hv hvr
    go_enter Try.func67, Try.ntmps67
    go_wp2_with (go_at_call 72; refine (HR.out _).mono ?_; rintro e w' ⟨rfl, rfl⟩)
    try rw [Exit.noGoto_ret]
    go_ret
    exact Ret.mk rfl (Below.refl _ _)
  | true =>
    have hvr : ∀ w, Calls Try.prog 72 #[.int .i32 r] w fun e w' => e = .returned (.bool true) ∧ w = w' := fun w => (Try.utf8_ValidRune r w).mono fun e w' ⟨h, h'⟩ => ⟨by rw [h, hv], h'.symm⟩
    obtain ⟨hs2, hs4, hlast⟩ := encode_facts r (by rw [validRune_eq]; exact hv) h1
    have HV := Lib.hid hv; have HR := Lib.hid hvr; clear hv hvr
    obtain ⟨S, hS⟩ : ∃ S, Utf8.encode r = S := ⟨_, rfl⟩
    rw [hS] at hs2 hs4 hlast
    have h3 : S.size = 2 ∨ S.size = 3 ∨ S.size = 4 := by omega
    have HL := Lib.hid hlast; clear hlast
    rcases h3 with h3 | h3 | h3
    · have hsl : ∀ w, (Instr.slice 9 (.string ⟨#[0, 47, 10]⟩) (some (.int .i64 2)) none none).run Try.prog w = .ok (.string ⟨#[10]⟩) w := fun _ => by kernel_rfl
      have hwr : IntKind.i64.wrap 2 = 2 := IntWalk.i64_in _ (by omega)
      have hlt : 1 < S.size := by omega
      have hx : 128 ≤ (S[1]'hlt).toNat := by have := HL.out; simp only [h3] at this; exact this (by omega)
      have hne1 : ((((⟨#[0, 47, 10]⟩ : ByteArray)[1]'(by decide)).toNat : Int) != ((S[1]'hlt).toNat : Int)) = true := by
        rw [show (⟨#[0, 47, 10]⟩ : ByteArray)[1]'(by decide) = 47 from rfl]; simp; omega
      have hib : ∀ (t : ByteArray) (w : World), (∀ b ∈ t.data.toList, b.toNat < 128) → Calls Try.prog 71 #[.string t, .int .u8 ((S[1]'hlt).toNat : Int)] w fun e w' => e = .returned (.int .i64 (-1)) ∧ w' = w := fun t w ht => by
        have h := Try.strings_IndexByte t ((S[1]'hlt).toNat : Int) w
        rw [show ((((S[1]'hlt).toNat : Nat) : Int).toNat.toUInt8) = S[1]'hlt by simp, valid_not_ascii_index _ hx _ ht] at h
        exact h
      have HB := Lib.hid hib; clear hib
      go_enter Try.func67, Try.ntmps67
      go_wp2_with (go_at_call 72; refine (HR.out _).mono ?_; rintro e w' ⟨rfl, rfl⟩)
      go_step3
      go_wp2_with fail
      refine wp_loop_rounds 1 ?_
      rw [rounds_succ]
      go_wp2_with fail
      go_step3
      go_wp2_with fail
      go_quiet (fail)
      go_wp2_with fail
      go_quiet ((go_at_call 71; exact quiet_add_same (HB.out _ _ (by decide))))
      go_wp2_with fail
      try rw [Exit.noGoto_ret]
      go_ret
      exact Ret.mk rfl (below_drewN _ _)
    · have hsl : ∀ w, (Instr.slice 9 (.string ⟨#[0, 47, 10]⟩) (some (.int .i64 3)) none none).run Try.prog w = .ok (.string ⟨#[]⟩) w := fun _ => by kernel_rfl
      have hwr : IntKind.i64.wrap 3 = 3 := IntWalk.i64_in _ (by omega)
      have hlt : 2 < S.size := by omega
      have hx : 128 ≤ (S[2]'hlt).toNat := by have := HL.out; simp only [h3] at this; exact this (by omega)
      have hne1 : ((((⟨#[0, 47, 10]⟩ : ByteArray)[2]'(by decide)).toNat : Int) != ((S[2]'hlt).toNat : Int)) = true := by
        rw [show (⟨#[0, 47, 10]⟩ : ByteArray)[2]'(by decide) = 10 from rfl]; simp; omega
      have hib : ∀ (t : ByteArray) (w : World), (∀ b ∈ t.data.toList, b.toNat < 128) → Calls Try.prog 71 #[.string t, .int .u8 ((S[2]'hlt).toNat : Int)] w fun e w' => e = .returned (.int .i64 (-1)) ∧ w' = w := fun t w ht => by
        have h := Try.strings_IndexByte t ((S[2]'hlt).toNat : Int) w
        rw [show ((((S[2]'hlt).toNat : Nat) : Int).toNat.toUInt8) = S[2]'hlt by simp, valid_not_ascii_index _ hx _ ht] at h
        exact h
      have HB := Lib.hid hib; clear hib
      go_enter Try.func67, Try.ntmps67
      go_wp2_with (go_at_call 72; refine (HR.out _).mono ?_; rintro e w' ⟨rfl, rfl⟩)
      go_step3
      go_wp2_with fail
      refine wp_loop_rounds 1 ?_
      rw [rounds_succ]
      go_wp2_with fail
      go_step3
      go_wp2_with fail
      go_quiet (fail)
      go_wp2_with fail
      go_quiet ((go_at_call 71; exact quiet_add_same (HB.out _ _ (by decide))))
      go_wp2_with fail
      try rw [Exit.noGoto_ret]
      go_ret
      exact Ret.mk rfl (below_drewN _ _)
    · have hlt : 3 < S.size := by omega
      go_enter Try.func67, Try.ntmps67
      go_wp2_with (go_at_call 72; refine (HR.out _).mono ?_; rintro e w' ⟨rfl, rfl⟩)
      go_step3
      go_wp2_with fail
      refine wp_loop_rounds 1 ?_
      rw [rounds_succ]
      go_wp2_with fail
      try rw [Exit.noGoto_ret]
      go_ret
      exact Ret.mk rfl (Below.refl _ _)

end Go.Proofs.Ytfjbmgfkfeehnaa
