/- A name is right: the program's way, and the document's. -/
import Derived.Test.YtfjbmgfkfeehnaaName
namespace Go.Proofs.Ytfjbmgfkfeehnaa
open Go.RowKit

def bad3L : List UInt8 := [0, 47, 10]
/-- Does one of the three stand in it? -/
def hasBad (s : ByteArray) : Bool := decide (0 ≤ Lib.indexAny s.data.toList bad3L)

theorem decode_skip (s : ByteArray) (pos : Nat) (h : pos < s.size) (ha : 128 ≤ (s[pos]'h).toNat) : ∀ k, k < (Utf8.decode s pos).2 → ∃ h' : pos + k < s.size, 128 ≤ (s[pos + k]'h').toNat := by
  have hn : ¬ (s[pos]'h).toNat < 128 := by omega
  have hg : ∀ k, (hk : pos + k < s.size) → s.get! (pos + k) = s[pos + k]'hk := fun k hk => by
    simp [ByteArray.get!, getElem!_pos, hk]
    rfl
  have hc : ∀ k, (decide (pos + k < s.size) && ((s.get! (pos + k)).toNat / 64 == 2)) = true → ∃ h' : pos + k < s.size, 128 ≤ (s[pos + k]'h').toNat := fun k hk => by
    simp only [Bool.and_eq_true, decide_eq_true_eq, beq_iff_eq] at hk
    refine ⟨hk.1, ?_⟩
    have := hk.2
    rw [hg k hk.1] at this
    omega
  have h0 : ∃ h' : pos + 0 < s.size, 128 ≤ (s[pos + 0]'h').toNat := ⟨h, ha⟩
  intro k hk
  simp only [Utf8.decode, get_at s pos h, hn, if_false] at hk
  clear hg
  have hk4 : k = 0 ∨ k = 1 ∨ k = 2 ∨ k = 3 := by
    repeat' split at hk
    all_goals (simp only [] at hk; omega)
  repeat' split at hk
  all_goals rcases hk4 with rfl | rfl | rfl | rfl
  all_goals first
    | exact h0
    | (exfalso; simp only [] at hk; omega)
    | (refine hc _ ?_; simp_all; done)

theorem next_at {P : Program} (w : World) (q : Nat) (s : ByteArray) (pos : Nat) (h : w.heap[q]? = some (.stringIter s pos)) (hp : pos < s.size) :
    ∃ w', (∀ ty, (Instr.next (.pointer (some ⟨q, 0, none⟩)) true ty).run P w = .ok (.tuple #[.bool true, .int .i64 pos, .int .i32 (Utf8.decode s pos).1]) w') ∧
      w'.heap[q]? = some (.stringIter s (pos + (Utf8.decode s pos).2)) ∧ w.grownBy w' (some q) := by
  refine ⟨{ w with heap := w.heap.setIfInBounds q (.stringIter s (pos + (Utf8.decode s pos).2)) }, fun ty => ?_, ?_, ⟨rfl, rfl, rfl, by simp, fun k _ hk => ?_⟩⟩
  · simp only [Instr.next, getObj, setObj, Sem.run_bind, Sem.run, h, Result.andThen, hp, if_true]
    simp [goInt]
  · have hq : q < w.heap.size := by
      rcases Nat.lt_or_ge q w.heap.size with hh | hh
      · exact hh
      · rw [Array.getElem?_eq_none hh] at h; cases h
    simp [hq]
  · have hne : q ≠ k := fun e => hk (by rw [e])
    simp [hne]
theorem next_end {P : Program} (w : World) (q : Nat) (s : ByteArray) (pos : Nat) (h : w.heap[q]? = some (.stringIter s pos)) (hp : ¬ pos < s.size) :
    ∀ ty, (Instr.next (.pointer (some ⟨q, 0, none⟩)) true ty).run P w = .ok (.tuple #[.bool false]) w := fun ty => by
  simp [Instr.next, getObj, Sem.run, h, hp]

set_option maxRecDepth 100000 in
theorem indexany_short (s : ByteArray) (w : World) (h8 : s.size ≤ 8) :
    Calls Try.prog 65 #[.string s, .string ⟨#[0, 47, 10]⟩] w (Ret w (.int .i64 (Lib.indexAny s.data.toList bad3L))) := by
  have h8z : decide ((8 : Int) < (s.size : Int)) = false := decide_eq_false (by omega)
  go_enter Try.func65, Try.ntmps65
  go_wp2_with (go_at_call 68; refine (Try.strings_shouldUseASCIISet _ _).mono ?_; rintro e w' ⟨rfl, hw⟩; rw [hw, h8z])
  go_loopg [9, 10] s.size (fun g _ _ wx => ∃ i : Nat, i + g = s.size ∧ Below w.heap.size w wx ∧ wx.heap[w.heap.size]? = some (.stringIter s i) ∧ Lib.NoAny s.data.toList bad3L i)
  case atStart => exact ⟨0, by omega, (Below.refl _ _).alloc (Nat.le_refl _) _, World.iter_heap _ _ _, Lib.NoAny.zero _ _⟩
  case round =>
    obtain ⟨i, hig, hb, hit, hno⟩ := hrel
    have HN := Lib.hid hno; clear hno
    cases gk with
    | zero =>
      obtain rfl : i = s.size := by omega
      have hnx := next_end (P := Try.prog) wr w.heap.size s s.size hit (by omega)
      have HI := Lib.hid hit; clear hit
      go_wp2
      go_ret
      exact Ret.mk (by rw [Lib.indexAny_none (by rw [← Lib.size_eq]; exact HN.out)]; rfl) hb
    | succ g =>
      have hi : i < s.size := by omega
      obtain ⟨w2, hnx, hit2, hgr2⟩ := next_at (P := Try.prog) wr w.heap.size s i hit hi
      have hb2 := below_grown hb hgr2 (Nat.le_refl _)
      have hxl : s.data.toList[i]? = some (s[i]'hi) := Lib.data_getElem? s i hi
      have HI := Lib.hid hit; have HI2 := Lib.hid hit2; have HX := Lib.hid hxl; clear hit hit2 hxl
      by_cases ha : (s[i]'hi).toNat < 128
      · have hd := decode_ascii s i hi ha
        rw [hd] at hnx HI2
        have hcon := Lib.contains_iff_indexByte bad3L (s[i]'hi)
        have hback : (((s[i]'hi).toNat : Int)).toNat.toUInt8 = s[i]'hi := by simp
        have hir := fun w => Try.strings_IndexRune_ascii ⟨#[0, 47, 10]⟩ ((s[i]'hi).toNat : Int) w (by omega) (by omega)
        rw [hback] at hir
        obtain ⟨m, hm⟩ : ∃ m, Lib.indexByte bad3L (s[i]'hi) = m := ⟨_, rfl⟩
        have hir' : ∀ w, Calls Try.prog 67 #[.string ⟨#[0, 47, 10]⟩, .int .i32 ((s[i]'hi).toNat : Int)] w fun e w' => e = .returned (.int .i64 m) ∧ w' = w := by
          rw [← hm]; exact hir
        rw [hm] at hcon
        have HC := Lib.hid hir'; clear hir hir' hm hd
        cases hin : bad3L.contains (s[i]'hi)
        · rw [hin] at hcon
          have hlt : ¬ ((0 : Int) ≤ m) := of_decide_eq_false hcon.symm
          have HIn := Lib.hid hin; clear hcon hin
          go_wp2_with (go_at_call 67; refine (HC.out _).mono ?_; rintro e w3 ⟨rfl, rfl⟩)
          go_roundg g
          case measure => omega
          case rel => exact ⟨i + 1, by omega, hb2, HI2.out, HN.out.succ HX.out HIn.out⟩
        · rw [hin] at hcon
          have hge : (0 : Int) ≤ m := of_decide_eq_true hcon.symm
          have HIn := Lib.hid hin; clear hcon hin
          go_wp2_with (go_at_call 67; refine (HC.out _).mono ?_; rintro e w3 ⟨rfl, rfl⟩)
          go_ret
          exact Ret.mk (by rw [Lib.indexAny_hit HN.out HX.out HIn.out]; rfl) hb2
      · have hd := decode_high s i hi (by omega)
        have hle := decode_le s i
        have hsk := decode_skip s i hi (by omega)
        obtain ⟨r, k, hrk⟩ : ∃ r k, Utf8.decode s i = (r, k) := ⟨_, _, rfl⟩
        rw [hrk] at hd hle hsk hnx HI2
        simp only [] at hd hle hsk hnx
        have hir := fun w => indexrune_high (r : Int) w (by omega) (by omega)
        have HC := Lib.hid hir; have HS := Lib.hid hsk; have HD := Lib.hid hd; clear hir hsk hrk hd hle
        go_wp2_with (go_at_call 67; refine (HC.out _).mono ?_; rintro e w3 ⟨rfl, hb3⟩)
        go_roundg (s.size - (i + k))
        case measure => have := HD.out; omega
        case rel =>
          have hk := HD.out.2
          have hsk := HS.out
          obtain ⟨hl, _⟩ := hsk (k - 1) (by omega)
          refine ⟨i + k, by omega, Below.next hb2 hb3, ?_, ?_⟩
          · rw [hb3.block w.heap.size ?_]
            · exact HI2.out
            · have h2 := HI2.out
              rcases Nat.lt_or_ge w.heap.size w2.heap.size with hh | hh
              · exact hh
              · rw [Array.getElem?_eq_none hh] at h2; cases h2
          · intro j b hj hb
            by_cases hji : j < i
            · exact HN.out j b hji hb
            · obtain ⟨hjl, hge⟩ := hsk (j - i) (by omega)
              have hjj : i + (j - i) = j := by omega
              have e := Lib.data_getElem? s (i + (j - i)) hjl
              have hb' : s.data.toList[i + (j - i)]? = some b := by rw [hjj]; exact hb
              rw [hb'] at e
              have e' : b = s[i + (j - i)]'hjl := by injection e
              rw [Bool.eq_false_iff]
              intro hc
              have : b.toNat < 128 := by
                simp [bad3L] at hc
                rcases hc with rfl | rfl | rfl <;> decide
              rw [e'] at this
              omega

set_option maxRecDepth 100000 in
theorem containsany_any (s : ByteArray) (w : World) (h8 : s.size ≤ 60) :
    Calls Try.prog 63 #[.string s, .string ⟨#[0, 47, 10]⟩] w (Ret w (.bool (hasBad s))) := by
  have hia : ∀ w, Calls Try.prog 65 #[.string s, .string ⟨#[0, 47, 10]⟩] w (Ret w (.int .i64 (Lib.indexAny s.data.toList bad3L))) := fun w => by
    by_cases h : s.size ≤ 8
    · exact indexany_short s w h
    · refine (Try.strings_IndexAny_long (fun _ => by kernel_rfl) s ⟨#[0, 47, 10]⟩ w (by decide) (by omega) (by omega) (by decide) (by
        intro j b hj
        have := List.mem_of_getElem? hj
        simp at this
        rcases this with rfl | rfl | rfl <;> decide)).mono ?_
      rintro e w' ⟨rfl, rfl⟩
      exact Ret.mk rfl (((Below.refl _ _).alloc (Nat.le_refl _) _).alloc (by simp) _)
  have HI := Lib.hid hia; clear hia
  obtain ⟨k, hk⟩ : ∃ k, Lib.indexAny s.data.toList bad3L = k := ⟨_, rfl⟩
  have HK := Lib.hid hk
  rw [hk] at HI
  have HB := Lib.hid (show hasBad s = decide (0 ≤ k) by unfold hasBad; rw [hk])
  clear hk
  go_enter Try.func63, Try.ntmps63
  go_wp2_with (go_at_call 65; refine (HI.out _).mono ?_; rintro e w3 ⟨rfl, hb3⟩)
  go_ret
  exact Ret.mk (by rw [HB.out]; rfl) hb3

/-- Is it a name? -/
def nameB (s : ByteArray) : Bool := decide (1 ≤ s.size) && decide (s.size ≤ 60) && !(s.toList == [46]) && !(s.toList == [46, 46]) && !hasBad s

set_option maxRecDepth 100000 in
theorem name_any (s : ByteArray) (w : World) (hs : s.size ≤ 9223372036854775807) :
    Calls Try.prog 57 #[.string s] w (Ret w (.bool (nameB s))) := by
  by_cases h1 : 1 ≤ s.size
  · by_cases h2 : s.size ≤ 60
    · cases h3 : (s.toList == [46]) with
      | true =>
        have H := Lib.hid (show nameB s = false by unfold nameB; simp [h3])
        go_enter Try.func57, Try.ntmps57
        go_wp2_with fail
        go_ret
        exact Ret.mk (by rw [H.out]; rfl) (Below.refl _ _)
      | false =>
        cases h4 : (s.toList == [46, 46]) with
        | true =>
          have H := Lib.hid (show nameB s = false by unfold nameB; simp [h4])
          go_enter Try.func57, Try.ntmps57
          go_wp2_with fail
          go_ret
          exact Ret.mk (by rw [H.out]; rfl) (Below.refl _ _)
        | false =>
          have H := Lib.hid (show nameB s = !hasBad s by unfold nameB; simp [h1, h2, h3, h4])
          have hca := Lib.hid (containsany_any s w h2)
          cases hb : hasBad s with
          | true =>
            rw [hb] at H hca
            go_enter Try.func57, Try.ntmps57
            go_wp2_with (go_at_call 63; refine hca.out.mono ?_; rintro e w1 ⟨rfl, hb1⟩)
            go_ret
            exact Ret.mk (by rw [H.out]; rfl) hb1
          | false =>
            rw [hb] at H hca
            go_enter Try.func57, Try.ntmps57
            go_wp2_with (go_at_call 63; refine hca.out.mono ?_; rintro e w1 ⟨rfl, hb1⟩)
            go_ret
            exact Ret.mk (by rw [H.out]; rfl) hb1
    · have H := Lib.hid (show nameB s = false by unfold nameB; simp [h2])
      go_enter Try.func57, Try.ntmps57
      go_wp2_with fail
      go_ret
      exact Ret.mk (by rw [H.out]; rfl) (Below.refl _ _)
  · have H := Lib.hid (show nameB s = false by unfold nameB; simp [h1])
    go_enter Try.func57, Try.ntmps57
    go_wp2_with fail
    go_ret
    exact Ret.mk (by rw [H.out]; rfl) (Below.refl _ _)

theorem bad_hit {s : ByteArray} {k : Nat} {x : UInt8} (hn : Lib.NoAny s.data.toList bad3L k) (hx : s.data.toList[k]? = some x) (h : (x.toNat : Int) = 0 ∨ (x.toNat : Int) = 47 ∨ (x.toNat : Int) = 10) : nameB s = false := by
  have hc : bad3L.contains x = true := by
    have : x = 0 ∨ x = 47 ∨ x = 10 := by
      rcases h with h | h | h
      · left; apply UInt8.toNat_inj.1; show x.toNat = 0; omega
      · right; left; apply UInt8.toNat_inj.1; show x.toNat = 47; omega
      · right; right; apply UInt8.toNat_inj.1; show x.toNat = 10; omega
    simpa [bad3L] using this
  have hb : hasBad s = true := by unfold hasBad; rw [Lib.indexAny_hit hn hx hc]; simp
  unfold nameB; simp [hb]
theorem bad_next {s : ByteArray} {k : Nat} {x : UInt8} (hn : Lib.NoAny s.data.toList bad3L k) (hx : s.data.toList[k]? = some x) (h0 : ¬ (x.toNat : Int) = 0) (h1 : ¬ (x.toNat : Int) = 47) (h2 : ¬ (x.toNat : Int) = 10) : Lib.NoAny s.data.toList bad3L (k + 1) := by
  refine hn.succ hx ?_
  rw [Bool.eq_false_iff]
  intro hc
  simp [bad3L] at hc
  rcases hc with rfl | rfl | rfl
  · exact h0 rfl
  · exact h1 rfl
  · exact h2 rfl
theorem bad_none {s : ByteArray} (hn : Lib.NoAny s.data.toList bad3L s.size) : hasBad s = false := by
  unfold hasBad
  rw [Lib.indexAny_none (by rw [← Lib.size_eq]; exact hn)]
  decide
theorem toList_len (s : ByteArray) : s.toList.length = s.size := by rw [Lib.toList_data, ← Lib.size_eq]

set_option maxRecDepth 100000 in
theorem rname_any (s : ByteArray) (w : World) (hs : s.size ≤ 9223372036854775807) :
    Calls Try.prog 25 #[.string s] w (Ret w (.bool (nameB s))) := by
  go_enter Try.func25, Try.ntmps25
  go_wp2_with fail
  go_loop [3] (fun i => ∃ k : Nat, k ≤ s.size ∧ i = .int .i64 k ∧ Lib.NoAny s.data.toList bad3L k) (fun i => s.size - (intOf i).toNat)
  case atStart => exact ⟨0, Nat.zero_le _, rfl, Lib.NoAny.zero _ _⟩
  case round =>
    obtain ⟨k, hk, rfl, hno⟩ := hrel
    have HN := Lib.hid hno; clear hno
    by_cases hlt : k < s.size
    · have hxl : s.data.toList[k]? = some (s[k]'hlt) := Lib.data_getElem? s k hlt
      have HX := Lib.hid hxl; clear hxl
      by_cases hx0 : ((s[k]'hlt).toNat : Int) = 0
      · have hf := Lib.hid (bad_hit HN.out HX.out (.inl hx0))
        have e0 : (((s[k]'hlt).toNat : Int) == 0) = true := by simp [hx0]
        clear hx0
        go_wp2_with fail
        go_ret
        exact Ret.mk (by rw [hf.out]; rfl) (Below.refl _ _)
      · by_cases hx1 : ((s[k]'hlt).toNat : Int) = 47
        · have hf := Lib.hid (bad_hit HN.out HX.out (.inr (.inl hx1)))
          have e0 : (((s[k]'hlt).toNat : Int) == 0) = false := by simpa using hx0
          have e1 : (((s[k]'hlt).toNat : Int) == 47) = true := by simp [hx1]
          clear hx0 hx1
          go_wp2_with fail
          go_ret
          exact Ret.mk (by rw [hf.out]; rfl) (Below.refl _ _)
        · by_cases hx2 : ((s[k]'hlt).toNat : Int) = 10
          · have hf := Lib.hid (bad_hit HN.out HX.out (.inr (.inr hx2)))
            have e0 : (((s[k]'hlt).toNat : Int) == 0) = false := by simpa using hx0
            have e1 : (((s[k]'hlt).toNat : Int) == 47) = false := by simpa using hx1
            have e2 : (((s[k]'hlt).toNat : Int) == 10) = true := by simp [hx2]
            clear hx0 hx1 hx2
            go_wp2_with fail
            go_ret
            exact Ret.mk (by rw [hf.out]; rfl) (Below.refl _ _)
          · have hf := Lib.hid (bad_next HN.out HX.out hx0 hx1 hx2)
            have e0 : (((s[k]'hlt).toNat : Int) == 0) = false := by simpa using hx0
            have e1 : (((s[k]'hlt).toNat : Int) == 47) = false := by simpa using hx1
            have e2 : (((s[k]'hlt).toNat : Int) == 10) = false := by simpa using hx2
            clear hx0 hx1 hx2
            go_wp2_with fail
            go_round
            case rel => exact ⟨k + 1, by omega, by go_num, hf.out⟩
            case measure => simp [intOf]; omega
    · obtain rfl : k = s.size := by omega
      have hb := Lib.hid (bad_none HN.out)
      have hl := toList_len s
      have hz : s.toList = [] → s.size = 0 := fun h => by rw [← hl, h]; rfl
      have hz' : s.toList ≠ [] → 1 ≤ s.size := fun h => by
        rcases Nat.lt_or_ge s.size 1 with h' | h'
        · exact absurd (List.eq_nil_of_length_eq_zero (by omega)) h
        · exact h'
      have HZ := Lib.hid hz; have HZ' := Lib.hid hz'; clear hz hz' hl
      go_wp2_with fail
      all_goals
        go_ret
        refine Ret.mk (congrArg Value.bool ?_) (Below.refl _ _)
        have hz := HZ.out; have hz' := HZ'.out; have hb' := hb.out
        unfold nameB
        rw [Bool.eq_iff_iff]
        first
          | (have h1 := hz' (by assumption); simp [*]; done)
          | (have h1 := hz' (by assumption); simp [*]; omega)
          | (simp [*]; done)
          | (simp [*]; omega)

end Go.Proofs.Ytfjbmgfkfeehnaa
