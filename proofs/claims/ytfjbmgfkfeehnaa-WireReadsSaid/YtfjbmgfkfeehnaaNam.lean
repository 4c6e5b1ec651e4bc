/- Names: none of three bytes stands in them. A name is right: the program's way, and the document's. IDs against each other. Letters as cells; a piece of a block that is loaded as a whole. -/
import Derived.Test.YtfjbmgfkfeehnaaEnc
import Derived.Test.YtfjbmgfkfeehnaaShelf
import Derived.Deep.LoopGhost
import Derived.Lib.IndexAny
import Derived.ChangeKeysEq
import Derived.Lib.QuietBelow
namespace Go.Proofs.Ytfjbmgfkfeehnaa
section
open Go.RowKit

/-- A quiet call behind an earlier draw (the guide's small lemma). -/
theorem quiet_add_same {P : Program} {f : FuncId} {args : Array Value} {w : World} {a n : Nat} {v : Value}
    (h : Calls P f args (w.drewN (a + n)) fun e w' => e = .returned v ∧ w' = w.drewN (a + n)) :
    Calls P f args (w.drewN (a + n)) fun e w'' => e = .returned v ∧ ∃ m, w'' = w.drewN (a + m) :=
  h.mono fun _ _ ⟨he, hm⟩ => ⟨he, n, hm⟩

theorem below_drewN (w : World) (n : Nat) : Below w.heap.size w (w.drewN n) := ⟨rfl, rfl, rfl, Nat.le_refl _, fun _ _ => rfl⟩

def bad3 : ByteArray := ⟨#[0, 47, 10]⟩

theorem decode_bad3 : Utf8.decode bad3 0 = (0, 1) ∧ Utf8.decode bad3 1 = (47, 1) ∧ Utf8.decode bad3 2 = (10, 1) := by decide

set_option maxRecDepth 100000 in
theorem indexrune_err (w : World) : Calls Try.prog 67 #[.string ⟨#[0, 47, 10]⟩, .int .i32 65533] w (Ret w (.int .i64 (-1))) := by
  have h0 := run_next_any (P := Try.prog) w bad3 0
  have h1 := run_next_any (P := Try.prog) w bad3 1
  have h2 := run_next_any (P := Try.prog) w bad3 2
  have h3 := run_next_end (P := Try.prog) w bad3 3
  simp only [decode_bad3.1, decode_bad3.2.1, decode_bad3.2.2] at h0 h1 h2
  have g0 := fun ty => h0 ty (by decide)
  have g1 := fun ty => h1 ty (by decide)
  have g2 := fun ty => h2 ty (by decide)
  have g3 := fun ty => h3 ty (by decide)
  clear h0 h1 h2 h3
  unfold bad3 at g0 g1 g2 g3
  go_enter Try.func67, Try.ntmps67
  go_wp2_with fail
  refine wp_loop_rounds 4 ?_
  rw [rounds_succ]
  go_wp2
  rw [rounds_succ]
  go_wp2
  rw [rounds_succ]
  go_wp2
  rw [rounds_succ]
  go_wp2
  try rw [Exit.noGoto_ret]
  go_ret
  exact Ret.mk rfl ((Below.refl _ _).alloc (Nat.le_refl _) _)

theorem valid_not_ascii_index (x : UInt8) (hx : 128 ≤ x.toNat) (l : List UInt8) (hl : ∀ b ∈ l, b.toNat < 128) : Lib.indexByte l x = -1 := by
  have h := Lib.contains_iff_indexByte l x
  have hc : l.contains x = false := by
    rw [Bool.eq_false_iff]
    intro hc
    have := hl x (by simpa using hc)
    omega
  rw [hc] at h
  have h' : ¬ 0 ≤ Lib.indexByte l x := of_decide_eq_false h.symm
  have := Lib.indexByte_ge l x
  omega

set_option maxRecDepth 100000 in
theorem indexrune_high (r : Int) (w : World) (h1 : 128 ≤ r) (h2 : r ≤ 2147483647) : Calls Try.prog 67 #[.string ⟨#[0, 47, 10]⟩, .int .i32 r] w (Ret w (.int .i64 (-1))) := by
  by_cases he : r = 65533
  · subst he; exact indexrune_err w
  have hne : (r == 65533) = false := by simpa using he
  clear he
  cases hv : Lib.validRune r with
  | false =>
    have hvr : ∀ w, Calls Try.prog 72 #[.int .i32 r] w fun e w' => e = .returned (.bool false) ∧ w = w' := fun w => (Try.utf8_ValidRune r w).mono fun e w' ⟨h, h'⟩ => ⟨by rw [h, hv], h'.symm⟩
    have HV := Lib.hid hv; have HR := Lib.hid hvr; clear hv hvr
    go_enter Try.func67, Try.ntmps67
    go_wp2_with (go_at_call 72; refine (HR.out _).mono ?_; rintro e w' ⟨rfl, rfl⟩)
    try rw [Exit.noGoto_ret]
    go_ret
    exact Ret.mk rfl (Below.refl _ _)
  | true =>
    have hvr : ∀ w, Calls Try.prog 72 #[.int .i32 r] w fun e w' => e = .returned (.bool true) ∧ w = w' := fun w => (Try.utf8_ValidRune r w).mono fun e w' ⟨h, h'⟩ => ⟨by rw [h, hv], h'.symm⟩
    obtain ⟨hs2, hs4, hlast⟩ := encode_facts r (by rw [validRune_eq]; exact hv) h1
    have HV := Lib.hid hv; have HR := Lib.hid hvr; clear hv hvr
    obtain ⟨S, hS⟩ : ∃ S, Utf8.encode r = S := ⟨_, rfl⟩
    rw [hS] at hs2 hs4 hlast
    have h3 : S.size = 2 ∨ S.size = 3 ∨ S.size = 4 := by omega
    have HL := Lib.hid hlast; clear hlast
    rcases h3 with h3 | h3 | h3
    · have hsl : ∀ w, (Instr.slice 9 (.string ⟨#[0, 47, 10]⟩) (some (.int .i64 2)) none none).run Try.prog w = .ok (.string ⟨#[10]⟩) w := fun _ => by kernel_rfl
      have hwr : IntKind.i64.wrap 2 = 2 := IntWalk.i64_in _ (by omega)
      have hlt : 1 < S.size := by omega
      have hx : 128 ≤ (S[1]'hlt).toNat := by have := HL.out; simp only [h3] at this; exact this (by omega)
      have hne1 : ((((⟨#[0, 47, 10]⟩ : ByteArray)[1]'(by decide)).toNat : Int) != ((S[1]'hlt).toNat : Int)) = true := by
        rw [show (⟨#[0, 47, 10]⟩ : ByteArray)[1]'(by decide) = 47 from rfl]; simp; omega
      have hib : ∀ (t : ByteArray) (w : World), (∀ b ∈ t.data.toList, b.toNat < 128) → Calls Try.prog 71 #[.string t, .int .u8 ((S[1]'hlt).toNat : Int)] w fun e w' => e = .returned (.int .i64 (-1)) ∧ w' = w := fun t w ht => by
        have h := Try.strings_IndexByte t ((S[1]'hlt).toNat : Int) w
        rw [show ((((S[1]'hlt).toNat : Nat) : Int).toNat.toUInt8) = S[1]'hlt by simp, valid_not_ascii_index _ hx _ ht] at h
        exact h
      have HB := Lib.hid hib; clear hib
      go_enter Try.func67, Try.ntmps67
      go_wp2_with (go_at_call 72; refine (HR.out _).mono ?_; rintro e w' ⟨rfl, rfl⟩)
      go_step3
      go_wp2_with fail
      refine wp_loop_rounds 1 ?_
      rw [rounds_succ]
      go_wp2_with fail
      go_step3
      go_wp2_with fail
      go_quiet (fail)
      go_wp2_with fail
      go_quiet ((go_at_call 71; exact quiet_add_same (HB.out _ _ (by decide))))
      go_wp2_with fail
      try rw [Exit.noGoto_ret]
      go_ret
      exact Ret.mk rfl (below_drewN _ _)
    · have hsl : ∀ w, (Instr.slice 9 (.string ⟨#[0, 47, 10]⟩) (some (.int .i64 3)) none none).run Try.prog w = .ok (.string ⟨#[]⟩) w := fun _ => by kernel_rfl
      have hwr : IntKind.i64.wrap 3 = 3 := IntWalk.i64_in _ (by omega)
      have hlt : 2 < S.size := by omega
      have hx : 128 ≤ (S[2]'hlt).toNat := by have := HL.out; simp only [h3] at this; exact this (by omega)
      have hne1 : ((((⟨#[0, 47, 10]⟩ : ByteArray)[2]'(by decide)).toNat : Int) != ((S[2]'hlt).toNat : Int)) = true := by
        rw [show (⟨#[0, 47, 10]⟩ : ByteArray)[2]'(by decide) = 10 from rfl]; simp; omega
      have hib : ∀ (t : ByteArray) (w : World), (∀ b ∈ t.data.toList, b.toNat < 128) → Calls Try.prog 71 #[.string t, .int .u8 ((S[2]'hlt).toNat : Int)] w fun e w' => e = .returned (.int .i64 (-1)) ∧ w' = w := fun t w ht => by
        have h := Try.strings_IndexByte t ((S[2]'hlt).toNat : Int) w
        rw [show ((((S[2]'hlt).toNat : Nat) : Int).toNat.toUInt8) = S[2]'hlt by simp, valid_not_ascii_index _ hx _ ht] at h
        exact h
      have HB := Lib.hid hib; clear hib
      go_enter Try.func67, Try.ntmps67
      go_wp2_with (go_at_call 72; refine (HR.out _).mono ?_; rintro e w' ⟨rfl, rfl⟩)
      go_step3
      go_wp2_with fail
      refine wp_loop_rounds 1 ?_
      rw [rounds_succ]
      go_wp2_with fail
      go_step3
      go_wp2_with fail
      go_quiet (fail)
      go_wp2_with fail
      go_quiet ((go_at_call 71; exact quiet_add_same (HB.out _ _ (by decide))))
      go_wp2_with fail
      try rw [Exit.noGoto_ret]
      go_ret
      exact Ret.mk rfl (below_drewN _ _)
    · have hlt : 3 < S.size := by omega
      go_enter Try.func67, Try.ntmps67
      go_wp2_with (go_at_call 72; refine (HR.out _).mono ?_; rintro e w' ⟨rfl, rfl⟩)
      go_step3
      go_wp2_with fail
      refine wp_loop_rounds 1 ?_
      rw [rounds_succ]
      go_wp2_with fail
      try rw [Exit.noGoto_ret]
      go_ret
      exact Ret.mk rfl (Below.refl _ _)

end

section
open Go.RowKit

def bad3L : List UInt8 := [0, 47, 10]
/-- Does one of the three stand in it? -/
def hasBad (s : ByteArray) : Bool := decide (0 ≤ Lib.indexAny s.data.toList bad3L)

theorem decode_skip (s : ByteArray) (pos : Nat) (h : pos < s.size) (ha : 128 ≤ (s[pos]'h).toNat) : ∀ k, k < (Utf8.decode s pos).2 → ∃ h' : pos + k < s.size, 128 ≤ (s[pos + k]'h').toNat := by
  have hn : ¬ (s[pos]'h).toNat < 128 := by omega
  have hg : ∀ k, (hk : pos + k < s.size) → s.get! (pos + k) = s[pos + k]'hk := fun k hk => by
    simp [ByteArray.get!, getElem!_pos, hk]
    rfl
  have hc : ∀ k, (decide (pos + k < s.size) && ((s.get! (pos + k)).toNat / 64 == 2)) = true → ∃ h' : pos + k < s.size, 128 ≤ (s[pos + k]'h').toNat := fun k hk => by
    simp only [Bool.and_eq_true, decide_eq_true_eq, beq_iff_eq] at hk
    refine ⟨hk.1, ?_⟩
    have := hk.2
    rw [hg k hk.1] at this
    omega
  have h0 : ∃ h' : pos + 0 < s.size, 128 ≤ (s[pos + 0]'h').toNat := ⟨h, ha⟩
  intro k hk
  simp only [Utf8.decode, get_at s pos h, hn, if_false] at hk
  clear hg
  have hk4 : k = 0 ∨ k = 1 ∨ k = 2 ∨ k = 3 := by
    repeat' split at hk
    all_goals (simp only [] at hk; omega)
  repeat' split at hk
  all_goals rcases hk4 with rfl | rfl | rfl | rfl
  all_goals first
    | exact h0
    | (exfalso; simp only [] at hk; omega)
    | (refine hc _ ?_; simp_all; done)

theorem next_at {P : Program} (w : World) (q : Nat) (s : ByteArray) (pos : Nat) (h : w.heap[q]? = some (.stringIter s pos)) (hp : pos < s.size) :
    ∃ w', (∀ ty, (Instr.next (.pointer (some ⟨q, 0, none⟩)) true ty).run P w = .ok (.tuple #[.bool true, .int .i64 pos, .int .i32 (Utf8.decode s pos).1]) w') ∧
      w'.heap[q]? = some (.stringIter s (pos + (Utf8.decode s pos).2)) ∧ w.grownBy w' (some q) := by
  refine ⟨{ w with heap := w.heap.setIfInBounds q (.stringIter s (pos + (Utf8.decode s pos).2)) }, fun ty => ?_, ?_, ⟨rfl, rfl, rfl, by simp, fun k _ hk => ?_⟩⟩
  · simp only [Instr.next, getObj, setObj, Sem.run_bind, Sem.run, h, Result.andThen, hp, if_true]
    simp [goInt]
  · have hq : q < w.heap.size := by
      rcases Nat.lt_or_ge q w.heap.size with hh | hh
      · exact hh
      · rw [Array.getElem?_eq_none hh] at h; cases h
    simp [hq]
  · have hne : q ≠ k := fun e => hk (by rw [e])
    simp [hne]
theorem next_end {P : Program} (w : World) (q : Nat) (s : ByteArray) (pos : Nat) (h : w.heap[q]? = some (.stringIter s pos)) (hp : ¬ pos < s.size) :
    ∀ ty, (Instr.next (.pointer (some ⟨q, 0, none⟩)) true ty).run P w = .ok (.tuple #[.bool false]) w := fun ty => by
  simp [Instr.next, getObj, Sem.run, h, hp]

set_option maxRecDepth 100000 in
theorem indexany_short (s : ByteArray) (w : World) (h8 : s.size ≤ 8) :
    Calls Try.prog 65 #[.string s, .string ⟨#[0, 47, 10]⟩] w (Ret w (.int .i64 (Lib.indexAny s.data.toList bad3L))) := by
  have h8z : decide ((8 : Int) < (s.size : Int)) = false := decide_eq_false (by omega)
  go_enter Try.func65, Try.ntmps65
  go_wp2_with (go_at_call 68; refine (Try.strings_shouldUseASCIISet _ _).mono ?_; rintro e w' ⟨rfl, hw⟩; rw [hw, h8z])
  go_loopg [9, 10] s.size (fun g _ _ wx => ∃ i : Nat, i + g = s.size ∧ Below w.heap.size w wx ∧ wx.heap[w.heap.size]? = some (.stringIter s i) ∧ Lib.NoAny s.data.toList bad3L i)
  case atStart => exact ⟨0, by omega, (Below.refl _ _).alloc (Nat.le_refl _) _, World.iter_heap _ _ _, Lib.NoAny.zero _ _⟩
  case round =>
    obtain ⟨i, hig, hb, hit, hno⟩ := hrel
    have HN := Lib.hid hno; clear hno
    cases gk with
    | zero =>
      obtain rfl : i = s.size := by omega
      have hnx := next_end (P := Try.prog) wr w.heap.size s s.size hit (by omega)
      have HI := Lib.hid hit; clear hit
      go_wp2
      go_ret
      exact Ret.mk (by rw [Lib.indexAny_none (by rw [← Lib.size_eq]; exact HN.out)]; rfl) hb
    | succ g =>
      have hi : i < s.size := by omega
      obtain ⟨w2, hnx, hit2, hgr2⟩ := next_at (P := Try.prog) wr w.heap.size s i hit hi
      have hb2 := below_grown hb hgr2 (Nat.le_refl _)
      have hxl : s.data.toList[i]? = some (s[i]'hi) := Lib.data_getElem? s i hi
      have HI := Lib.hid hit; have HI2 := Lib.hid hit2; have HX := Lib.hid hxl; clear hit hit2 hxl
      by_cases ha : (s[i]'hi).toNat < 128
      · have hd := decode_ascii s i hi ha
        rw [hd] at hnx HI2
        have hcon := Lib.contains_iff_indexByte bad3L (s[i]'hi)
        have hback : (((s[i]'hi).toNat : Int)).toNat.toUInt8 = s[i]'hi := by simp
        have hir := fun w => Try.strings_IndexRune_ascii ⟨#[0, 47, 10]⟩ ((s[i]'hi).toNat : Int) w (by omega) (by omega)
        rw [hback] at hir
        obtain ⟨m, hm⟩ : ∃ m, Lib.indexByte bad3L (s[i]'hi) = m := ⟨_, rfl⟩
        have hir' : ∀ w, Calls Try.prog 67 #[.string ⟨#[0, 47, 10]⟩, .int .i32 ((s[i]'hi).toNat : Int)] w fun e w' => e = .returned (.int .i64 m) ∧ w' = w := by
          rw [← hm]; exact hir
        rw [hm] at hcon
        have HC := Lib.hid hir'; clear hir hir' hm hd
        cases hin : bad3L.contains (s[i]'hi)
        · rw [hin] at hcon
          have hlt : ¬ ((0 : Int) ≤ m) := of_decide_eq_false hcon.symm
          have HIn := Lib.hid hin; clear hcon hin
          go_wp2_with (go_at_call 67; refine (HC.out _).mono ?_; rintro e w3 ⟨rfl, rfl⟩)
          go_roundg g
          case measure => omega
          case rel => exact ⟨i + 1, by omega, hb2, HI2.out, HN.out.succ HX.out HIn.out⟩
        · rw [hin] at hcon
          have hge : (0 : Int) ≤ m := of_decide_eq_true hcon.symm
          have HIn := Lib.hid hin; clear hcon hin
          go_wp2_with (go_at_call 67; refine (HC.out _).mono ?_; rintro e w3 ⟨rfl, rfl⟩)
          go_ret
          exact Ret.mk (by rw [Lib.indexAny_hit HN.out HX.out HIn.out]; rfl) hb2
      · have hd := decode_high s i hi (by omega)
        have hle := decode_le s i
        have hsk := decode_skip s i hi (by omega)
        obtain ⟨r, k, hrk⟩ : ∃ r k, Utf8.decode s i = (r, k) := ⟨_, _, rfl⟩
        rw [hrk] at hd hle hsk hnx HI2
        simp only [] at hd hle hsk hnx
        have hir := fun w => indexrune_high (r : Int) w (by omega) (by omega)
        have HC := Lib.hid hir; have HS := Lib.hid hsk; have HD := Lib.hid hd; clear hir hsk hrk hd hle
        go_wp2_with (go_at_call 67; refine (HC.out _).mono ?_; rintro e w3 ⟨rfl, hb3⟩)
        go_roundg (s.size - (i + k))
        case measure => have := HD.out; omega
        case rel =>
          have hk := HD.out.2
          have hsk := HS.out
          obtain ⟨hl, _⟩ := hsk (k - 1) (by omega)
          refine ⟨i + k, by omega, Below.next hb2 hb3, ?_, ?_⟩
          · rw [hb3.block w.heap.size ?_]
            · exact HI2.out
            · have h2 := HI2.out
              rcases Nat.lt_or_ge w.heap.size w2.heap.size with hh | hh
              · exact hh
              · rw [Array.getElem?_eq_none hh] at h2; cases h2
          · intro j b hj hb
            by_cases hji : j < i
            · exact HN.out j b hji hb
            · obtain ⟨hjl, hge⟩ := hsk (j - i) (by omega)
              have hjj : i + (j - i) = j := by omega
              have e := Lib.data_getElem? s (i + (j - i)) hjl
              have hb' : s.data.toList[i + (j - i)]? = some b := by rw [hjj]; exact hb
              rw [hb'] at e
              have e' : b = s[i + (j - i)]'hjl := by injection e
              rw [Bool.eq_false_iff]
              intro hc
              have : b.toNat < 128 := by
                simp [bad3L] at hc
                rcases hc with rfl | rfl | rfl <;> decide
              rw [e'] at this
              omega

set_option maxRecDepth 100000 in
theorem containsany_any (s : ByteArray) (w : World) (h8 : s.size ≤ 60) :
    Calls Try.prog 63 #[.string s, .string ⟨#[0, 47, 10]⟩] w (Ret w (.bool (hasBad s))) := by
  have hia : ∀ w, Calls Try.prog 65 #[.string s, .string ⟨#[0, 47, 10]⟩] w (Ret w (.int .i64 (Lib.indexAny s.data.toList bad3L))) := fun w => by
    by_cases h : s.size ≤ 8
    · exact indexany_short s w h
    · refine (Try.strings_IndexAny_long (fun _ => by kernel_rfl) s ⟨#[0, 47, 10]⟩ w (by decide) (by omega) (by omega) (by decide) (by
        intro j b hj
        have := List.mem_of_getElem? hj
        simp at this
        rcases this with rfl | rfl | rfl <;> decide)).mono ?_
      rintro e w' ⟨rfl, rfl⟩
      exact Ret.mk rfl (((Below.refl _ _).alloc (Nat.le_refl _) _).alloc (by simp) _)
  have HI := Lib.hid hia; clear hia
  obtain ⟨k, hk⟩ : ∃ k, Lib.indexAny s.data.toList bad3L = k := ⟨_, rfl⟩
  have HK := Lib.hid hk
  rw [hk] at HI
  have HB := Lib.hid (show hasBad s = decide (0 ≤ k) by unfold hasBad; rw [hk])
  clear hk
  go_enter Try.func63, Try.ntmps63
  go_wp2_with (go_at_call 65; refine (HI.out _).mono ?_; rintro e w3 ⟨rfl, hb3⟩)
  go_ret
  exact Ret.mk (by rw [HB.out]; rfl) hb3

/-- Is it a name? -/
def nameB (s : ByteArray) : Bool := decide (1 ≤ s.size) && decide (s.size ≤ 60) && !(s.toList == [46]) && !(s.toList == [46, 46]) && !hasBad s

set_option maxRecDepth 100000 in
theorem name_any (s : ByteArray) (w : World) (hs : s.size ≤ 9223372036854775807) :
    Calls Try.prog 57 #[.string s] w (Ret w (.bool (nameB s))) := by
  by_cases h1 : 1 ≤ s.size
  · by_cases h2 : s.size ≤ 60
    · cases h3 : (s.toList == [46]) with
      | true =>
        have H := Lib.hid (show nameB s = false by unfold nameB; simp [h3])
        go_enter Try.func57, Try.ntmps57
        go_wp2_with fail
        go_ret
        exact Ret.mk (by rw [H.out]; rfl) (Below.refl _ _)
      | false =>
        cases h4 : (s.toList == [46, 46]) with
        | true =>
          have H := Lib.hid (show nameB s = false by unfold nameB; simp [h4])
          go_enter Try.func57, Try.ntmps57
          go_wp2_with fail
          go_ret
          exact Ret.mk (by rw [H.out]; rfl) (Below.refl _ _)
        | false =>
          have H := Lib.hid (show nameB s = !hasBad s by unfold nameB; simp [h1, h2, h3, h4])
          have hca := Lib.hid (containsany_any s w h2)
          cases hb : hasBad s with
          | true =>
            rw [hb] at H hca
            go_enter Try.func57, Try.ntmps57
            go_wp2_with (go_at_call 63; refine hca.out.mono ?_; rintro e w1 ⟨rfl, hb1⟩)
            go_ret
            exact Ret.mk (by rw [H.out]; rfl) hb1
          | false =>
            rw [hb] at H hca
            go_enter Try.func57, Try.ntmps57
            go_wp2_with (go_at_call 63; refine hca.out.mono ?_; rintro e w1 ⟨rfl, hb1⟩)
            go_ret
            exact Ret.mk (by rw [H.out]; rfl) hb1
    · have H := Lib.hid (show nameB s = false by unfold nameB; simp [h2])
      go_enter Try.func57, Try.ntmps57
      go_wp2_with fail
      go_ret
      exact Ret.mk (by rw [H.out]; rfl) (Below.refl _ _)
  · have H := Lib.hid (show nameB s = false by unfold nameB; simp [h1])
    go_enter Try.func57, Try.ntmps57
    go_wp2_with fail
    go_ret
    exact Ret.mk (by rw [H.out]; rfl) (Below.refl _ _)

theorem bad_hit {s : ByteArray} {k : Nat} {x : UInt8} (hn : Lib.NoAny s.data.toList bad3L k) (hx : s.data.toList[k]? = some x) (h : (x.toNat : Int) = 0 ∨ (x.toNat : Int) = 47 ∨ (x.toNat : Int) = 10) : nameB s = false := by
  have hc : bad3L.contains x = true := by
    have : x = 0 ∨ x = 47 ∨ x = 10 := by
      rcases h with h | h | h
      · left; apply UInt8.toNat_inj.1; show x.toNat = 0; omega
      · right; left; apply UInt8.toNat_inj.1; show x.toNat = 47; omega
      · right; right; apply UInt8.toNat_inj.1; show x.toNat = 10; omega
    simpa [bad3L] using this
  have hb : hasBad s = true := by unfold hasBad; rw [Lib.indexAny_hit hn hx hc]; simp
  unfold nameB; simp [hb]
theorem bad_next {s : ByteArray} {k : Nat} {x : UInt8} (hn : Lib.NoAny s.data.toList bad3L k) (hx : s.data.toList[k]? = some x) (h0 : ¬ (x.toNat : Int) = 0) (h1 : ¬ (x.toNat : Int) = 47) (h2 : ¬ (x.toNat : Int) = 10) : Lib.NoAny s.data.toList bad3L (k + 1) := by
  refine hn.succ hx ?_
  rw [Bool.eq_false_iff]
  intro hc
  simp [bad3L] at hc
  rcases hc with rfl | rfl | rfl
  · exact h0 rfl
  · exact h1 rfl
  · exact h2 rfl
theorem bad_none {s : ByteArray} (hn : Lib.NoAny s.data.toList bad3L s.size) : hasBad s = false := by
  unfold hasBad
  rw [Lib.indexAny_none (by rw [← Lib.size_eq]; exact hn)]
  decide
theorem toList_len (s : ByteArray) : s.toList.length = s.size := by rw [Lib.toList_data, ← Lib.size_eq]

set_option maxRecDepth 100000 in
theorem rname_any (s : ByteArray) (w : World) (hs : s.size ≤ 9223372036854775807) :
    Calls Try.prog 25 #[.string s] w (Ret w (.bool (nameB s))) := by
  go_enter Try.func25, Try.ntmps25
  go_wp2_with fail
  go_loop [3] (fun i => ∃ k : Nat, k ≤ s.size ∧ i = .int .i64 k ∧ Lib.NoAny s.data.toList bad3L k) (fun i => s.size - (intOf i).toNat)
  case atStart => exact ⟨0, Nat.zero_le _, rfl, Lib.NoAny.zero _ _⟩
  case round =>
    obtain ⟨k, hk, rfl, hno⟩ := hrel
    have HN := Lib.hid hno; clear hno
    by_cases hlt : k < s.size
    · have hxl : s.data.toList[k]? = some (s[k]'hlt) := Lib.data_getElem? s k hlt
      have HX := Lib.hid hxl; clear hxl
      by_cases hx0 : ((s[k]'hlt).toNat : Int) = 0
      · have hf := Lib.hid (bad_hit HN.out HX.out (.inl hx0))
        have e0 : (((s[k]'hlt).toNat : Int) == 0) = true := by simp [hx0]
        clear hx0
        go_wp2_with fail
        go_ret
        exact Ret.mk (by rw [hf.out]; rfl) (Below.refl _ _)
      · by_cases hx1 : ((s[k]'hlt).toNat : Int) = 47
        · have hf := Lib.hid (bad_hit HN.out HX.out (.inr (.inl hx1)))
          have e0 : (((s[k]'hlt).toNat : Int) == 0) = false := by simpa using hx0
          have e1 : (((s[k]'hlt).toNat : Int) == 47) = true := by simp [hx1]
          clear hx0 hx1
          go_wp2_with fail
          go_ret
          exact Ret.mk (by rw [hf.out]; rfl) (Below.refl _ _)
        · by_cases hx2 : ((s[k]'hlt).toNat : Int) = 10
          · have hf := Lib.hid (bad_hit HN.out HX.out (.inr (.inr hx2)))
            have e0 : (((s[k]'hlt).toNat : Int) == 0) = false := by simpa using hx0
            have e1 : (((s[k]'hlt).toNat : Int) == 47) = false := by simpa using hx1
            have e2 : (((s[k]'hlt).toNat : Int) == 10) = true := by simp [hx2]
            clear hx0 hx1 hx2
            go_wp2_with fail
            go_ret
            exact Ret.mk (by rw [hf.out]; rfl) (Below.refl _ _)
          · have hf := Lib.hid (bad_next HN.out HX.out hx0 hx1 hx2)
            have e0 : (((s[k]'hlt).toNat : Int) == 0) = false := by simpa using hx0
            have e1 : (((s[k]'hlt).toNat : Int) == 47) = false := by simpa using hx1
            have e2 : (((s[k]'hlt).toNat : Int) == 10) = false := by simpa using hx2
            clear hx0 hx1 hx2
            go_wp2_with fail
            go_round
            case rel => exact ⟨k + 1, by omega, by go_num, hf.out⟩
            case measure => simp [intOf]; omega
    · obtain rfl : k = s.size := by omega
      have hb := Lib.hid (bad_none HN.out)
      have hl := toList_len s
      have hz : s.toList = [] → s.size = 0 := fun h => by rw [← hl, h]; rfl
      have hz' : s.toList ≠ [] → 1 ≤ s.size := fun h => by
        rcases Nat.lt_or_ge s.size 1 with h' | h'
        · exact absurd (List.eq_nil_of_length_eq_zero (by omega)) h
        · exact h'
      have HZ := Lib.hid hz; have HZ' := Lib.hid hz'; clear hz hz' hl
      go_wp2_with fail
      all_goals
        go_ret
        refine Ret.mk (congrArg Value.bool ?_) (Below.refl _ _)
        have hz := HZ.out; have hz' := HZ'.out; have hb' := hb.out
        unfold nameB
        rw [Bool.eq_iff_iff]
        first
          | (have h1 := hz' (by assumption); simp [*]; done)
          | (have h1 := hz' (by assumption); simp [*]; omega)
          | (simp [*]; done)
          | (simp [*]; omega)

end

section
open Go.RowKit

theorem part_u8 (d : List Int) (i : Nat) (x : Int) (h : d[i]? = some x) (w : World) : (part 5 (idC d) i).run Try.prog w = .ok (.int .u8 x) w := by
  have ha : (isAgg 5).run Try.prog w = .ok false w := by
    unfold isAgg
    rw [Sem.run_bind, run_underlying Try.underlying5 w]
    simp
  have hx : (idC d)[i]? = some (.int .u8 x) := by simp [idC, h]
  unfold part
  rw [Sem.run_bind, ha]
  simp [hx]

theorem eqItems_id (a b : List Int) (ha : a.length = 32) (hb : b.length = 32) (w : World) : ∀ is : List Nat, (∀ i ∈ is, i < 32) →
    (Op.eqItems 9999 5 1 (idC a) (idC b) is).run Try.prog w = .ok (is.all fun i => a[i]? == b[i]?) w
  | [], _ => by simp [Op.eqItems]
  | i :: is, h => by
    have hi := h i (List.mem_cons_self ..)
    have ih := eqItems_id a b ha hb w is (fun j hj => h j (List.mem_cons_of_mem _ hj))
    have e1 := part_u8 a i (a[i]'(by omega)) (List.getElem?_eq_getElem (by omega)) w
    have e2 := part_u8 b i (b[i]'(by omega)) (List.getElem?_eq_getElem (by omega)) w
    have e3 : (Op.equalIn 9999 5 (.int .u8 (a[i]'(by omega))) (.int .u8 (b[i]'(by omega)))).run Try.prog w = .ok (a[i]'(by omega) == b[i]'(by omega)) w := run_equalIn_int w 9998 5 .u8 .u8 _ _ Try.underlying5
    simp only [Op.eqItems, Nat.mul_one, Sem.run_bind, e1, e2, e3, Result.andThen_ok, List.all_cons]
    rw [List.getElem?_eq_getElem (show i < a.length by omega), List.getElem?_eq_getElem (show i < b.length by omega)]
    by_cases he : a[i]'(by omega) = b[i]'(by omega)
    · simp [he, ih]
    · have hf : (a[i]'(by omega) == b[i]'(by omega)) = false := by simpa using he
      simp [hf]

theorem all_range (a b : List Int) (n : Nat) (ha : a.length = n) (hb : b.length = n) : ((List.range n).all fun i => a[i]? == b[i]?) = decide (a = b) := by
  rw [Bool.eq_iff_iff]
  simp only [List.all_eq_true, List.mem_range, beq_iff_eq, decide_eq_true_eq]
  constructor
  · intro h
    apply List.ext_getElem?
    intro i
    by_cases hi : i < n
    · exact h i hi
    · rw [List.getElem?_eq_none (by omega), List.getElem?_eq_none (by omega)]
  · rintro rfl i _; rfl

theorem info_u8' : ∃ i, Try.prog.info? 5 = some i := by
  obtain ⟨i0, hi, _⟩ := info_parts info_u8
  exact ⟨i0, hi⟩

theorem equalIn_id (t : TypeId) (ht : Try.prog.underlying t = some (.array 32 5)) (a b : List Int) (ha : a.length = 32) (hb : b.length = 32) (w : World) :
    (Op.equalIn 10000 t (.agg (idC a)) (.agg (idC b))).run Try.prog w = .ok (decide (a = b)) w := by
  obtain ⟨i0, hi⟩ := info_u8'
  rw [run_equalIn_array w 9999 (idC a) (idC b) ht hi]
  have hc : Try.prog.cellsOf 5 = 1 := by kernel_rfl
  rw [hc, eqItems_id a b ha hb w _ (fun i hi => by simpa using hi), all_range a b 32 ha hb]

@[go_sem] theorem eql_id (a b : List Int) (ha : a.length = 32) (hb : b.length = 32) (w : World) : (Op.equalIn 10000 25 (.agg (idC a)) (.agg (idC b))).run Try.prog w = .ok (decide (a = b)) w :=
  equalIn_id _ Try.underlying25 a b ha hb w
@[go_sem] theorem eql_arr (a b : List Int) (ha : a.length = 32) (hb : b.length = 32) (w : World) : (Op.equalIn 10000 24 (.agg (idC a)) (.agg (idC b))).run Try.prog w = .ok (decide (a = b)) w :=
  equalIn_id _ Try.underlying24 a b ha hb w
theorem zero32_len : zero32.length = 32 := rfl

end

section
open Go.RowKit

theorem name_inj {a b : ByteArray} (h : (a.toList == b.toList) = true) : a = b := by
  rw [beq_iff_eq, ByteArray.toList_eq, ByteArray.toList_eq] at h
  cases a
  cases b
  congr
  exact Array.toList_inj.1 h

/-- A branch and its commit. -/
structure RfL where
  name : ByteArray
  id : List Int
def rfEq (a b : RfL) : Bool := (a.name.toList == b.name.toList) && decide (a.id = b.id)
theorem rfEq_iff (a b : RfL) : rfEq a b = true ↔ a = b := by
  constructor
  · intro h
    simp only [rfEq, Bool.and_eq_true, decide_eq_true_eq] at h
    have := name_inj h.1
    cases a; cases b; simp_all
  · rintro rfl; simp [rfEq]
instance : DecidableEq RfL := fun a b => decidable_of_iff _ (rfEq_iff a b)

/-- A letter. -/
structure LetL where
  kind : Int
  from_ : Int
  to_ : Int
  session : Int
  refs : List RfL
  wants : List (List Int)
  haves : List (List Int)
  off : Int
  total : Int
  pack : List Int
  data : List Int
deriving DecidableEq

/-- Rows of elements, k cells each. -/
def rowC {α : Type} (_k : Nat) (f : α → List Value) (l : List α) : List Value := l.flatMap f
theorem rowC_len {α : Type} {k : Nat} {f : α → List Value} : ∀ (l : List α), (∀ x ∈ l, (f x).length = k) → (rowC k f l).length = l.length * k
  | [], _ => by simp [rowC]
  | x :: l, h => by
    have ih := rowC_len (k := k) (f := f) l (fun y hy => h y (List.mem_cons_of_mem _ hy))
    have hx := h x (List.mem_cons_self ..)
    simp only [rowC, List.flatMap_cons, List.length_append, List.length_cons] at ih ⊢
    rw [ih, hx, Nat.succ_mul]
    omega
theorem rowC_at {α : Type} {k : Nat} {f : α → List Value} : ∀ (l : List α), (∀ x ∈ l, (f x).length = k) → ∀ (i : Nat) (h : i < l.length), ((rowC k f l).drop (i * k)).take k = f l[i]
  | [], _, i, h => by simp at h
  | x :: l, hl, 0, h => by
    have hx := hl x (List.mem_cons_self ..)
    simp [rowC, ← hx]
  | x :: l, hl, i + 1, h => by
    have ih := rowC_at (k := k) (f := f) l (fun y hy => hl y (List.mem_cons_of_mem _ hy)) i (by simpa using h)
    have hx := hl x (List.mem_cons_self ..)
    simp only [rowC, List.flatMap_cons, List.getElem_cons_succ] at ih ⊢
    rw [show (i + 1) * k = (f x).length + i * k by rw [Nat.succ_mul, hx]; omega, ← List.drop_drop, List.drop_left]
    exact ih
theorem rowC_snoc {α : Type} {k : Nat} {f : α → List Value} (l : List α) (x : α) : rowC k f (l ++ [x]) = rowC k f l ++ f x := by simp [rowC]

def idF (d : List Int) : List Value := d.map (Value.int .u8)
def rfF (r : RfL) : List Value := .string r.name :: r.id.map (Value.int .u8)
def rfC (r : RfL) : Array Value := ⟨rfF r⟩
theorem idC_eq (d : List Int) : idC d = ⟨idF d⟩ := rfl
theorem idF_len {d : List Int} (h : d.length = 32) : (idF d).length = 32 := by simp [idF, h]
theorem rfF_len {r : RfL} (h : r.id.length = 32) : (rfF r).length = 33 := by simp [rfF, h]

/-- A slice of IDs; of branches. -/
structure Ids (w : World) (a : Option Addr) (n c : Nat) (l : List (List Int)) : Prop where
  row : Sl w 32 a n c (rowC 32 idF l)
  all : ∀ d ∈ l, d.length = 32 ∧ IsBytes d
structure Rfs (w : World) (a : Option Addr) (n c : Nat) (l : List RfL) : Prop where
  row : Sl w 33 a n c (rowC 33 rfF l)
  all : ∀ r ∈ l, (r.id.length = 32 ∧ IsBytes r.id) ∧ r.name.size ≤ 9223372036854775807
theorem Ids.len {w : World} {a : Option Addr} {n c : Nat} {l : List (List Int)} (h : Ids w a n c l) : l.length = n := by
  have := h.row.len
  rw [rowC_len l (fun x hx => idF_len (h.all x hx).1)] at this
  omega
theorem Rfs.len {w : World} {a : Option Addr} {n c : Nat} {l : List RfL} (h : Rfs w a n c l) : l.length = n := by
  have := h.row.len
  rw [rowC_len l (fun x hx => rfF_len (h.all x hx).1.1)] at this
  omega
theorem Ids.below {w w' : World} {a : Option Addr} {n c : Nat} {l : List (List Int)} (h : Ids w a n c l) (hb : Below w.heap.size w w') : Ids w' a n c l := ⟨h.row.below hb, h.all⟩
theorem Rfs.below {w w' : World} {a : Option Addr} {n c : Nat} {l : List RfL} (h : Rfs w a n c l) (hb : Below w.heap.size w w') : Rfs w' a n c l := ⟨h.row.below hb, h.all⟩
theorem Ids.empty (w : World) : Ids w none 0 0 [] := ⟨Sl.empty _ _, fun _ h => by cases h⟩
theorem Rfs.empty (w : World) : Rfs w none 0 0 [] := ⟨Sl.empty _ _, fun _ h => by cases h⟩
theorem Bs.below {w w' : World} {a : Option Addr} {n c : Nat} {l : List Int} (h : Bs w a n c l) (hb : Below w.heap.size w w') : Bs w' a n c l := Sl.below h hb
theorem Bs.alloc {w : World} {a : Option Addr} {n c : Nat} {l : List Int} (h : Bs w a n c l) (o : Obj) : Bs (w.alloc o) a n c l := Sl.alloc h o
theorem Bs.drew {w : World} {a : Option Addr} {n c : Nat} {l : List Int} (h : Bs w a n c l) : Bs w.drew a n c l := Sl.drew h

/-! A piece of a block. -/
def isSeg (w : World) (g o n : Nat) : Bool := match w.heap[g]? with
  | some (.cells cs _ _) => decide (o + n ≤ cs.size)
  | _ => false
def segAt (w : World) (g o n : Nat) : Array Value := match w.heap[g]? with
  | some (.cells cs _ _) => cs.extract o (o + n)
  | _ => #[]
/-- The piece is X. -/
def SegIs (w : World) (g o n : Nat) (X : Array Value) : Prop := isSeg w g o n = true ∧ segAt w g o n = X
theorem seg_kept {W W' : World} {g o n : Nat} {X : Array Value} (h : isSeg W g o n = true ∧ segAt W g o n = X) (hb : W'.heap[g]? = W.heap[g]?) : isSeg W' g o n = true ∧ segAt W' g o n = X := by
  unfold isSeg segAt at *
  rw [hb]
  exact h
theorem seg_lt {W : World} {g o n : Nat} {X : Array Value} (h : isSeg W g o n = true ∧ segAt W g o n = X) : g < W.heap.size := by
  rcases Nat.lt_or_ge g W.heap.size with hl | hl
  · exact hl
  · have := h.1
    unfold isSeg at this
    rw [Array.getElem?_eq_none hl] at this
    cases this
theorem seg_below {W W' : World} {g o n : Nat} {X : Array Value} (h : isSeg W g o n = true ∧ segAt W g o n = X) (hb : Below W.heap.size W W') : isSeg W' g o n = true ∧ segAt W' g o n = X :=
  seg_kept h (hb.block _ (seg_lt h))
theorem seg_regrown {W : World} {g o n : Nat} {X : Array Value} (h : isSeg W g o n = true ∧ segAt W g o n = X) (d : Nat) (os : Array Obj) : isSeg (Sort.grow (redrawn W d) os) g o n = true ∧ segAt (Sort.grow (redrawn W d) os) g o n = X :=
  seg_below h (below_regrown _ _ _)
theorem seg_of {w : World} {g : Nat} {t : TypeId} {cs X : Array Value} {fr : Nat × Nat} (h : w.heap[g]? = some (.cells cs t fr)) (o n : Nat) (hn : o + n ≤ cs.size) (hX : cs.extract o (o + n) = X) : isSeg w g o n = true ∧ segAt w g o n = X := by
  unfold isSeg segAt
  rw [h]
  simp [hn, hX]
/-- Cells that are there are a piece. -/
theorem seg_cells {w : World} {g o n : Nat} {xs : List Value} (hl : xs.length = n) (hn : 0 < n) (h : ∀ j, j < n → w.cell? ⟨g, o + j, none⟩ = xs[j]?) : isSeg w g o n = true ∧ segAt w g o n = ⟨xs⟩ := by
  have h0 := h (n - 1) (by omega)
  rw [List.getElem?_eq_getElem (by omega)] at h0
  unfold World.cell? at h0
  simp only [] at h0
  cases hc : w.heap[g]? with
  | none => simp [hc] at h0
  | some ob =>
    cases ob with
    | cells cs t fr =>
      have hlt : o + (n - 1) < cs.size := by
        rcases Nat.lt_or_ge (o + (n - 1)) cs.size with hh | hh
        · exact hh
        · simp [hc, Array.getElem?_eq_none hh] at h0
      refine seg_of hc o n (by omega) ?_
      apply Array.ext'
      apply List.ext_getElem?
      intro j
      rw [Array.getElem?_toList, Array.getElem?_extract]
      by_cases hj : j < n
      · have := h j hj
        rw [cell_of_row w g (o + j) cs t fr hc] at this
        rw [if_pos (by omega), this]
      · rw [if_neg (by omega), List.getElem?_eq_none (by simp; omega)]
    | _ => simp [hc] at h0
theorem Sl.seg {w : World} {k : Nat} {a : Option Addr} {n c : Nat} {xs : List Value} (h : Sl w k a n c xs) (hn : 0 < n) (hk : 0 < k) :
    ∃ b off, a = some ⟨b, off, none⟩ ∧ ∀ i, i < n → isSeg w b (off + i * k) k = true ∧ segAt w b (off + i * k) k = ⟨(xs.drop (i * k)).take k⟩ := by
  obtain ⟨b, off, ha, hc⟩ := h.cells hn
  refine ⟨b, off, ha, fun i hi => ?_⟩
  have hl := h.len
  have hik : i * k + k ≤ n * k := by
    have := Nat.mul_le_mul_right k (show i + 1 ≤ n by omega)
    rw [Nat.succ_mul] at this
    omega
  refine seg_cells (by simp; omega) hk (fun j hj => ?_)
  rw [Nat.add_assoc, hc (i * k + j) (by omega), List.getElem?_take_of_lt hj, List.getElem?_drop]
theorem Ids.seg {w : World} {a : Option Addr} {n c : Nat} {l : List (List Int)} (h : Ids w a n c l) (hn : 0 < n) :
    ∃ b off, a = some ⟨b, off, none⟩ ∧ ∀ (i : Nat) (d : List Int), l[i]? = some d → (d.length = 32 ∧ IsBytes d) ∧ isSeg w b (off + i * 32) 32 = true ∧ segAt w b (off + i * 32) 32 = idC d := by
  obtain ⟨b, off, ha, hc⟩ := h.row.seg hn (by omega)
  refine ⟨b, off, ha, fun i d hd => ?_⟩
  obtain ⟨hi, rfl⟩ := List.getElem?_eq_some_iff.1 hd
  refine ⟨h.all _ (List.getElem_mem hi), ?_⟩
  have := hc i (by have := h.len; omega)
  rw [rowC_at l (fun x hx => idF_len (h.all x hx).1) i hi] at this
  exact this
theorem Rfs.seg {w : World} {a : Option Addr} {n c : Nat} {l : List RfL} (h : Rfs w a n c l) (hn : 0 < n) :
    ∃ b off, a = some ⟨b, off, none⟩ ∧ ∀ (i : Nat) (r : RfL), l[i]? = some r → ((r.id.length = 32 ∧ IsBytes r.id) ∧ r.name.size ≤ 9223372036854775807) ∧ isSeg w b (off + i * 33) 33 = true ∧ segAt w b (off + i * 33) 33 = rfC r := by
  obtain ⟨b, off, ha, hc⟩ := h.row.seg hn (by omega)
  refine ⟨b, off, ha, fun i r hr => ?_⟩
  obtain ⟨hi, rfl⟩ := List.getElem?_eq_some_iff.1 hr
  refine ⟨h.all _ (List.getElem_mem hi), ?_⟩
  have := hc i (by have := h.len; omega)
  rw [rowC_at l (fun x hx => rfF_len (h.all x hx).1.1) i hi] at this
  exact this

/-! Loads of what is kept whole. -/
theorem run_load_piece (w : World) (g o n : Nat) (t : TypeId) (hl : ∀ cs t' fr, w.heap[g]? = some (.cells cs t' fr) → o + n ≤ cs.size → (loadVar t ⟨g, o, none⟩).run Try.prog w = .ok (.agg (cs.extract o (o + n))) w) (h : isSeg w g o n = true) :
    (Instr.loadAt t (.pointer (some ⟨g, o, none⟩))).run Try.prog w = .ok (.agg (segAt w g o n)) w := by
  obtain ⟨cs, t', fr, hc, hn, he⟩ : ∃ cs t' fr, w.heap[g]? = some (.cells cs t' fr) ∧ o + n ≤ cs.size ∧ segAt w g o n = cs.extract o (o + n) := by
    unfold isSeg at h
    unfold segAt
    split at h
    · rename_i cs t' fr hc
      exact ⟨cs, t', fr, hc, of_decide_eq_true h, rfl⟩
    · cases h
  rw [he]
  have := hl cs t' fr hc hn
  simp only [Instr.loadAt, Instr.sureAddr, Sem.run_bind, Sem.run_pure, Result.andThen_ok, this]
theorem info_rf : (Try.prog.info? 52).map (·.size) = some 33 := by kernel_rfl
theorem info_let : (Try.prog.info? 28).map (·.size) = some 42 := by kernel_rfl
theorem size_arr : (Try.prog.info? 24).map (·.size) = some 32 := by kernel_rfl
def loadId (v : Value) : Sem Value := Instr.loadAt 25 v
def loadArr (v : Value) : Sem Value := Instr.loadAt 24 v
def loadRf (v : Value) : Sem Value := Instr.loadAt 52 v
def loadLet (v : Value) : Sem Value := Instr.loadAt 28 v
@[go_sem ↓ high] theorem loadAt_Id (v : Value) : Instr.loadAt 25 v = loadId v := rfl
@[go_sem ↓ high] theorem loadAt_Arr (v : Value) : Instr.loadAt 24 v = loadArr v := rfl
@[go_sem ↓ high] theorem loadAt_Rf (v : Value) : Instr.loadAt 52 v = loadRf v := rfl
@[go_sem ↓ high] theorem loadAt_Let (v : Value) : Instr.loadAt 28 v = loadLet v := rfl
@[go_sem] theorem run_loadId (w : World) (g o : Nat) (h : isSeg w g o 32 = true) : (loadId (.pointer (some ⟨g, o, none⟩))).run Try.prog w = .ok (.agg (segAt w g o 32)) w := run_load_piece w g o _ _ (fun cs t' fr hc hn => run_loadVar_seg w g o t' _ cs fr _ _ hc hn Try.underlying25 rfl size_id) h
@[go_sem] theorem run_loadArr (w : World) (g o : Nat) (h : isSeg w g o 32 = true) : (loadArr (.pointer (some ⟨g, o, none⟩))).run Try.prog w = .ok (.agg (segAt w g o 32)) w := run_load_piece w g o _ _ (fun cs t' fr hc hn => run_loadVar_seg w g o t' _ cs fr _ _ hc hn Try.underlying24 rfl size_arr) h
@[go_sem] theorem run_loadRf (w : World) (g o : Nat) (h : isSeg w g o 33 = true) : (loadRf (.pointer (some ⟨g, o, none⟩))).run Try.prog w = .ok (.agg (segAt w g o 33)) w := run_load_piece w g o _ _ (fun cs t' fr hc hn => run_loadVar_seg w g o t' _ cs fr _ _ hc hn Try.underlying52 rfl info_rf) h
@[go_sem] theorem run_loadLet (w : World) (g o : Nat) (h : isSeg w g o 42 = true) : (loadLet (.pointer (some ⟨g, o, none⟩))).run Try.prog w = .ok (.agg (segAt w g o 42)) w := run_load_piece w g o _ _ (fun cs t' fr hc hn => run_loadVar_seg w g o t' _ cs fr _ _ hc hn Try.underlying28 rfl info_let) h
@[go_sem] theorem isSeg_drew (w : World) (g o n : Nat) : isSeg w.drew g o n = isSeg w g o n := rfl
@[go_sem] theorem segAt_drew (w : World) (g o n : Nat) : segAt w.drew g o n = segAt w g o n := rfl

theorem eqItems_id' (d : Nat) (a b : List Int) (ha : a.length = 32) (hb : b.length = 32) (w : World) : ∀ is : List Nat, (∀ i ∈ is, i < 32) →
    (Op.eqItems (d + 1) 5 1 (idC a) (idC b) is).run Try.prog w = .ok (is.all fun i => a[i]? == b[i]?) w
  | [], _ => by simp [Op.eqItems]
  | i :: is, h => by
    have hi := h i (List.mem_cons_self ..)
    have ih := eqItems_id' d a b ha hb w is (fun j hj => h j (List.mem_cons_of_mem _ hj))
    have e1 := part_u8 a i (a[i]'(by omega)) (List.getElem?_eq_getElem (by omega)) w
    have e2 := part_u8 b i (b[i]'(by omega)) (List.getElem?_eq_getElem (by omega)) w
    have e3 : (Op.equalIn (d + 1) 5 (.int .u8 (a[i]'(by omega))) (.int .u8 (b[i]'(by omega)))).run Try.prog w = .ok (a[i]'(by omega) == b[i]'(by omega)) w := run_equalIn_int w d 5 .u8 .u8 _ _ Try.underlying5
    simp only [Op.eqItems, Nat.mul_one, Sem.run_bind, e1, e2, e3, Result.andThen_ok, List.all_cons]
    rw [List.getElem?_eq_getElem (show i < a.length by omega), List.getElem?_eq_getElem (show i < b.length by omega)]
    by_cases he : a[i]'(by omega) = b[i]'(by omega)
    · simp [he, ih]
    · have hf : (a[i]'(by omega) == b[i]'(by omega)) = false := by simpa using he
      simp [hf]
theorem equalIn_id' (d : Nat) (t : TypeId) (ht : Try.prog.underlying t = some (.array 32 5)) (a b : List Int) (ha : a.length = 32) (hb : b.length = 32) (w : World) :
    (Op.equalIn (d + 2) t (.agg (idC a)) (.agg (idC b))).run Try.prog w = .ok (decide (a = b)) w := by
  obtain ⟨i0, hi⟩ := info_u8'
  rw [run_equalIn_array w (d + 1) (idC a) (idC b) ht hi]
  have hc : Try.prog.cellsOf 5 = 1 := by kernel_rfl
  rw [hc, eqItems_id' d a b ha hb w _ (fun i hi => by simpa using hi), all_range a b 32 ha hb]
theorem part_str (r : RfL) (w : World) : (part 9 (rfC r) 0).run Try.prog w = .ok (.string r.name) w := by
  have ha : (isAgg 9).run Try.prog w = .ok false w := by
    unfold isAgg
    rw [Sem.run_bind, run_underlying Try.underlying9 w]
    simp
  unfold part
  rw [Sem.run_bind, ha]
  simp [rfC, rfF]
theorem part_agg (t : TypeId) (d : TypeDesc) (n : Nat) (hu : Try.prog.underlying t = some d) (hd : (match d with | .array _ _ => true | _ => false) = true) (hn : (Try.prog.info? t).map (·.size) = some n) (X : Array Value) (o : Nat) (w : World) :
    (part t X o).run Try.prog w = .ok (.agg (X.extract o (o + n))) w := by
  have hag : (isAgg t).run Try.prog w = .ok true w := by
    unfold isAgg
    rw [Sem.run_bind, run_underlying hu w]
    cases d <;> simp_all
  cases hq : Try.prog.info? t with
  | none => simp [hq] at hn
  | some i =>
    have hs : i.size = n := by simpa [hq] using hn
    unfold part
    rw [Sem.run_bind, hag]
    simp [sizeOf, typeInfo, hq, hs]
theorem rfC_id (r : RfL) (h : r.id.length = 32) : (rfC r).extract 1 33 = idC r.id := by
  apply Array.ext'
  simp only [rfC, rfF, idC, Array.toList_extract, List.extract]
  simp
  rw [List.take_of_length_le (by simp [h])]
@[go_sem ↓ high] theorem eql_rf (a b : RfL) (ha : a.id.length = 32) (hb : b.id.length = 32) (w : World) : (Op.equalIn 10000 52 (.agg (rfC a)) (.agg (rfC b))).run Try.prog w = .ok (decide (a = b)) w := by
  rw [run_equalIn_struct (P := Try.prog) w 9999 52 _ _ (by kernel_rfl) (by kernel_rfl)]
  rw [show Try.prog.fieldsOf 52 = _ from by unfold Program.fieldsOf; rw [Try.underlying52]]
  have e1 : ∀ w, (Op.equalIn 9999 9 (.string a.name) (.string b.name)).run Try.prog w = .ok (a.name.toList == b.name.toList) w := fun w => run_equalIn_string w 9998 9 _ _ Try.underlying9
  have e2 : ∀ w, (Op.equalIn 9999 25 (.agg (idC a.id)) (.agg (idC b.id))).run Try.prog w = .ok (decide (a.id = b.id)) w := equalIn_id' 9997 25 Try.underlying25 a.id b.id ha hb
  have p1 : ∀ (r : RfL), r.id.length = 32 → ∀ (w : World), (part 25 (rfC r) 1).run Try.prog w = .ok (.agg (idC r.id)) w := fun r hr w => by
    rw [part_agg 25 _ 32 Try.underlying25 rfl size_id, rfC_id r hr]
  have hd : decide (a = b) = ((a.name.toList == b.name.toList) && decide (a.id = b.id)) := by
    rw [Bool.eq_iff_iff, decide_eq_true_iff, ← rfEq_iff]; rfl
  rw [hd]
  generalize decide (a.id = b.id) = q at *
  simp only [Op.eqFields, ne_eq, String.reduceEq, not_false_eq_true, if_true, Sem.run_bind, part_str, e1, Result.andThen_ok]
  cases (a.name.toList == b.name.toList)
  · simp
  · cases q <;> simp [p1 a ha, p1 b hb, e2]

end

end Go.Proofs.Ytfjbmgfkfeehnaa
