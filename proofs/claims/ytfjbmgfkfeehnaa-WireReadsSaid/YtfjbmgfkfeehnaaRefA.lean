/- Bytes put together, the document's way: Join, Num, Text, Id. Numbers, texts, IDs and stamps as bytes, the document's way. The sum of bytes, four bytes of a number: the document's way. -/
import Derived.Test.YtfjbmgfkfeehnaaTurns
import Derived.Lib.ConvBytes
import Derived.Laws.OwnMore
namespace Go.Proofs.Ytfjbmgfkfeehnaa
section
open Go.RowKit

theorem take_snoc' {l : List Int} {k : Nat} {x : Int} (h : l[k]? = some x) : l.take (k + 1) = l.take k ++ [x] := by
  obtain ⟨hk, rfl⟩ := List.getElem?_eq_some_iff.1 h
  rw [List.take_succ_eq_append_getElem hk]
theorem Bs.cellAt {w : World} {a : Option Addr} {n c : Nat} {l : List Int} (h : Bs w a n c l) {k : Nat} (hk : k < n) :
    ∃ b off x, a = some ⟨b, off, none⟩ ∧ l[k]? = some x ∧ w.cell? ⟨b, off + k, none⟩ = some (.int .u8 x) := by
  have hl := h.length
  obtain ⟨b, off, ha, hc⟩ := h.cells (by omega)
  obtain ⟨x, hx⟩ : ∃ x, l[k]? = some x := ⟨_, List.getElem?_eq_getElem (by omega)⟩
  refine ⟨b, off, x, ha, hx, ?_⟩
  rw [hc k (by omega), List.getElem?_map, hx]
  rfl

set_option maxRecDepth 100000 in
theorem join_any (a : Option Addr) (n c : Nat) (l : List Int) (a' : Option Addr) (n' c' : Nat) (l' : List Int) (w : World) (h : Bs w a n c l) (h' : Bs w a' n' c' l') (hl : l.length + l'.length ≤ 140737488355328) :
    Calls Try.prog 43 #[.slice a n c, .slice a' n' c'] w (RetB w (l ++ l')) := by
  have hle := h.le
  have hcap := h.cap
  have hle' := h'.le
  have hcap' := h'.cap
  have hl1 := h.length
  have hl2 := h'.length
  have hn : n ≤ 140737488355328 := by omega
  have hn' : n' ≤ 140737488355328 := by omega
  have HL := Lib.hid hl; have HL1 := Lib.hid hl1; have HL2 := Lib.hid hl2
  clear hl hle hcap hle' hcap' hl1 hl2
  have hown : (w.alloc (.cells #[] 5)).ownsRow w.heap.size 5 1 (.slice (some ⟨w.heap.size, 0, none⟩) 0 0) 0 [] := World.ownsRow_made _ _ _ (Nat.le_refl _) (Nat.zero_le _) rfl
  have hB0 : Below w.heap.size w (w.alloc (.cells #[] 5)) := (Below.refl _ _).alloc (Nat.le_refl _) _
  go_enter Try.func43, Try.ntmps43
  go_wp2_with fail
  go_loopw [5, 6] (fun v i wr => ∃ k : Nat, k ≤ n ∧ i = .int .i64 k ∧ wr.ownsRow w.heap.size 5 1 v k ((l.take k).map (Value.int .u8)) ∧ Below w.heap.size w wr) (fun _ i _ => n - (intOf i).toNat)
  case atStart => exact ⟨0, Nat.zero_le _, rfl, by simpa using hown, hB0⟩
  case round =>
    clear hown hB0
    obtain ⟨k, hk, rfl, hownr, hB⟩ := hrel
    have hbs := hB.size
    by_cases hkn : k < n
    · obtain ⟨b, off, x, rfl, hx, hc⟩ := h.cellAt hkn
      have g := Below.old hB (Nat.le_refl _) hc
      have hpl : k + 1 ≤ 140737488355328 := by omega
      have HX := Lib.hid hx
      clear hx hc
      go_wp2_with (at_builtin; refine app_byte rfl _ _ rfl w.heap.size _ _ _ rfl (hownr.alloc _) wr.heap.size 1 _ rfl (cell_one_new _ _ _ 0 _ rfl) hpl (by simp; omega) ?_; intro v' w1 hown' hgrow)
      go_roundw
      case rel =>
        refine ⟨k + 1, by omega, by go_num, ?_, ?_⟩
        · rw [take_snoc' HX.out, List.map_append]; exact hown'
        · exact (hB.alloc hB.size _).grown hgrow (by simp; omega) (fun k hk => ((World.ownsRow.lt hownr) k hk).1)
      case measure => simp [intOf]; omega
    · obtain rfl : k = n := by omega
      go_wp2_with fail
      go_loopw [5, 7] (fun v i wr => ∃ j : Nat, j ≤ n' ∧ i = .int .i64 j ∧ wr.ownsRow w.heap.size 5 1 v (k + j) ((l ++ l'.take j).map (Value.int .u8)) ∧ Below w.heap.size w wr) (fun _ i _ => n' - (intOf i).toNat)
      case atStart => exact ⟨0, Nat.zero_le _, rfl, by rw [List.take_zero, List.append_nil]; rw [List.take_of_length_le (by rw [HL1.out]; exact Nat.le_refl _)] at hownr; exact hownr, hB⟩
      case round =>
        clear hownr hB hbs
        obtain ⟨j, hj, rfl, hownr, hB⟩ := hrel
        have hbs := hB.size
        by_cases hjn : j < n'
        · obtain ⟨b, off, x, rfl, hx, hc⟩ := h'.cellAt hjn
          have g := Below.old hB (Nat.le_refl _) hc
          have hpl : k + j + 1 ≤ 140737488355328 := by have h1 := HL.out; have h2 := HL1.out; have h3 := HL2.out; omega
          have HX := Lib.hid hx
          clear hx hc
          go_wp2_with (at_builtin; refine app_byte rfl _ _ rfl w.heap.size _ _ _ rfl (hownr.alloc _) wr.heap.size 1 _ rfl (cell_one_new _ _ _ 0 _ rfl) hpl (by simp; omega) ?_; intro v' w1 hown' hgrow)
          go_roundw
          case rel =>
            refine ⟨j + 1, by omega, by go_num, ?_, ?_⟩
            · rw [take_snoc' HX.out, ← List.append_assoc, List.map_append, ← Nat.add_assoc]; exact hown'
            · exact (hB.alloc hB.size _).grown hgrow (by simp; omega) (fun k hk => ((World.ownsRow.lt hownr) k hk).1)
          case measure => simp [intOf]; omega
        · obtain rfl : j = n' := by omega
          go_wp2_with fail
          go_ret
          refine RetB.mk hB hownr ?_
          rw [List.take_of_length_le (by rw [HL2.out]; exact Nat.le_refl _)]

end

section
open Go.RowKit

set_option maxRecDepth 100000 in
theorem wnum_any (n : Int) (w : World) : Calls Try.prog 61 #[.int .i64 n] w (RetB w (numL n)) := by
  have hown : (w.alloc (.cells #[] 5)).ownsRow w.heap.size 5 1 (.slice (some ⟨w.heap.size, 0, none⟩) 0 0) 0 [] := World.ownsRow_made _ _ _ (Nat.le_refl _) (Nat.zero_le _) rfl
  have hB0 : Below w.heap.size w (w.alloc (.cells #[] 5)) := (Below.refl _ _).alloc (Nat.le_refl _) _
  have hlen := numL_len n
  have hc := clampN_le n
  obtain ⟨m0, hm0⟩ : ∃ m0, clampN n = m0 := ⟨_, rfl⟩
  have hcl : (n < 0 ∧ m0 = 0) ∨ (¬ n < 0 ∧ decide (n < 0) = false ∧ 4611686018427387904 < n ∧ m0 = 4611686018427387904) ∨ (¬ n < 0 ∧ decide (n < 0) = false ∧ ¬ 4611686018427387904 < n ∧ decide (4611686018427387904 < n) = false ∧ n = m0) := by
    subst hm0
    unfold clampN
    simp only [decide_eq_false_iff_not]
    split
    · omega
    · split <;> omega
  rw [hm0] at hc
  unfold numL at hlen ⊢
  rw [hm0] at hlen ⊢
  obtain ⟨l0, hl0⟩ : ∃ l0, numB m0 = l0 := ⟨_, rfl⟩
  rw [hl0] at hlen ⊢
  have HL := Lib.hid hlen
  have H0 := Lib.hid hl0
  clear hlen hm0 hl0
  rcases hcl with ⟨h1, rfl⟩ | ⟨h1, d1, h2, rfl⟩ | ⟨h1, d1, h2, d2, rfl⟩
  all_goals
    go_enter Try.func61, Try.ntmps61
    go_wp2_with fail
    go_loopw [0, 3] (fun u v wr => ∃ (p : List Int) (m : Nat), l0 = p ++ numB m ∧ u = .int .i64 (m : Int) ∧ m ≤ 4611686018427387904 ∧ wr.ownsRow w.heap.size 5 1 v p.length (p.map (Value.int .u8)) ∧ Below w.heap.size w wr) (fun u _ _ => (intOf u).toNat)
    case atStart => exact ⟨[], _, H0.out.symm, rfl, hc, by simpa using hown, hB0⟩
    case round =>
      clear hown hB0
      obtain ⟨p, m, hp, rfl, hm, hownr, hbr⟩ := hrel
      have hpl : p.length + 1 ≤ 140737488355328 := by
        have e := congrArg List.length hp
        have h1 := HL.out
        simp only [List.length_append] at e
        omega
      have HP := Lib.hid hp
      have HM := Lib.hid hm
      have hbs := hbr.size
      clear hp hm
      have hm0 : (0 : Int) ≤ (m : Int) := by omega
      have hm1 : (m : Int) ≤ 4611686018427387904 := by have := HM.out; omega
      by_cases hlt : 128 ≤ (m : Int)
      · have e1 : ((m : Int) % 128 + 128) % 256 = ((m % 128 + 128 : Nat) : Int) := by omega
        go_wp2_with (at_builtin; refine app_byte rfl _ _ rfl w.heap.size _ _ _ rfl (hownr.alloc _) wr.heap.size 1 _ rfl (cell_one_new _ _ _ 0 _ rfl) hpl (by simp; omega) ?_; intro v' w1 hown' hgrow)
        go_roundw
        case rel =>
          refine ⟨p ++ [((m % 128 + 128 : Nat) : Int)], m / 128, ?_, by go_num, by have := HM.out; omega, ?_, ?_⟩
          · rw [HP.out, numB_ge (by omega)]; simp
          · simpa using hown'
          · exact (hbr.alloc hbr.size _).grown hgrow (by simp; omega) (fun k hk => ((World.ownsRow.lt hownr) k hk).1)
        case measure => simp [intOf]; omega
      · have e1 : (m : Int) % 256 = (m : Int) := by omega
        go_wp2_with (at_builtin; refine app_byte rfl _ _ rfl w.heap.size _ _ _ rfl (hownr.alloc _) wr.heap.size 1 _ rfl (cell_one_new _ _ _ 0 _ rfl) hpl (by simp; omega) ?_; intro v' w1 hown' hgrow)
        go_ret
        refine RetB.mk ((hbr.alloc hbr.size _).grown hgrow (by simp; omega) (fun k hk => ((World.ownsRow.lt hownr) k hk).1)) hown' ?_
        rw [HP.out, numB_lt (by omega)]
        simp

theorem two_below {W W' : World} {g o o' : Nat} {x y : Value} (h : W.cell? ⟨g, o, none⟩ = some x ∧ W.cell? ⟨g, o', none⟩ = some y) (hb : Below W.heap.size W W') : W'.cell? ⟨g, o, none⟩ = some x ∧ W'.cell? ⟨g, o', none⟩ = some y :=
  ⟨Below.old hb (Nat.le_refl _) h.1, Below.old hb (Nat.le_refl _) h.2⟩
/-- A row of an old block stays when a newer block grows. -/
theorem Bs.keepAt {w w' : World} {g n c : Nat} {l : List Int} {b : Option Nat} (h : Bs w (some ⟨g, 0, none⟩) n c l) (k : w.grownBy w' b) (hb : ∀ j, b = some j → g < j) : Bs w' (some ⟨g, 0, none⟩) n c l := by
  refine ⟨h.len, h.le, h.cap, h.nil, fun hn => ?_⟩
  obtain ⟨b', off, ha, hc⟩ := h.cells hn
  cases ha
  refine ⟨g, 0, rfl, fun j hj => ?_⟩
  have hl := h.len
  have hv := hc j hj
  rw [List.getElem?_eq_getElem (by omega)] at hv ⊢
  exact k.cell hv (fun e => by have := hb _ e.symm; simp at this)

theorem RetB.cast {w : World} {l l' : List Int} {e : Ending} {w' : World} (h : RetB w l e w') (hl : l = l') : RetB w l' e w' := hl ▸ h

set_option maxRecDepth 100000 in
theorem wtext_any (s : ByteArray) (w : World) (hs : s.size ≤ 140737488351232) : Calls Try.prog 44 #[.string s] w (RetB w (textL s)) := by
  go_enter Try.func44, Try.ntmps44
  go_wp2_with (first
      | (go_at_call 61; (with_reducible refine (wnum_any s.size _).mono ?_); rintro e w1 ⟨a1, k1, c1, rfl, hb, hown⟩; have hs1 := own_bs hown; obtain ⟨W2, c2, hconv, hB2, hs2⟩ := conv_str s w1 (by omega); have hs1 := hs1.below hB2; have hB := Below.next hb hB2; have hlen : (numL s.size).length + (strB s).length ≤ 140737488355328 := by { have := numL_len s.size; have := strB_len s; omega }; clear hb)
      | (go_at_call 43; (with_reducible refine (join_any _ _ _ _ _ _ _ _ _ hs1 hs2 hlen).mono ?_); rintro e w3 ⟨a3, k3, c3, rfl, hb3, hown3⟩; have hO := own_base (base' := w.heap.size) hown3 hB.size; have hB := Below.next hB hb3))
  go_ret
  exact RetB.mk hB hO rfl

set_option maxRecDepth 100000 in
theorem wid_any (d : List Int) (w : World) (hd : d.length = 32) : Calls Try.prog 45 #[.agg (idC d)] w (RetB w d) := by
  have hsz : (idC d).size = 32 := by simp [idC, hd]
  have hx0 : (w.alloc (.cells (idC d) 24)).heap[w.heap.size]? = some (.cells (idC d) 24 (0, 0)) := heap_alloc_new w _
  have hrow : Bs (w.alloc (.cells (idC d) 24)) (some ⟨w.heap.size, 0, none⟩) 32 32 d := by
    have := Sl.row hx0 1 32 (by simp [hsz]) (by simp [maxLen])
    simpa [idC, Bs] using this
  have hx : Below (w.alloc (.cells (idC d) 24)).heap.size (w.alloc (.cells (idC d) 24)) ((w.alloc (.cells (idC d) 24)).alloc (.cells #[] 5)) := (Below.refl _ _).alloc (Nat.le_refl _) _
  have hrow := hrow.below hx
  have hB0 : Below w.heap.size w ((w.alloc (.cells (idC d) 24)).alloc (.cells #[] 5)) := Below.next ((Below.refl _ _).alloc (Nat.le_refl _) _) hx
  have hown : ((w.alloc (.cells (idC d) 24)).alloc (.cells #[] 5)).ownsRow (w.heap.size + 1) 5 1 (.slice (some ⟨w.heap.size + 1, 0, none⟩) 0 0) 0 [] := by
    have : ((w.alloc (.cells (idC d) 24)).alloc (.cells #[] 5)).ownsRow (w.alloc (.cells (idC d) 24)).heap.size 5 1 (.slice (some ⟨(w.alloc (.cells (idC d) 24)).heap.size, 0, none⟩) 0 0) 0 [] := World.ownsRow_made _ _ _ (Nat.le_refl _) (Nat.zero_le _) rfl
    simpa using this
  clear hx hx0 hsz
  go_enter Try.func45, Try.ntmps45
  go_wp2_with fail
  generalize (w.alloc (.cells (idC d) 24)).alloc (.cells #[] 5) = W0 at *
  have HD := Lib.hid hd
  clear hd
  go_loopw [3, 4] (fun v i wr => ∃ k : Nat, k ≤ 32 ∧ i = .int .i64 k ∧ wr.ownsRow (w.heap.size + 1) 5 1 v k ((d.take k).map (Value.int .u8)) ∧ Below w.heap.size w wr ∧ Bs wr (some ⟨w.heap.size, 0, none⟩) 32 32 d) (fun _ i _ => 32 - (intOf i).toNat)
  case atStart => exact ⟨0, Nat.zero_le _, rfl, by simpa using hown, hB0, hrow⟩
  case round =>
    clear hown hB0 hrow
    obtain ⟨k, hk, rfl, hownr, hB, hrow⟩ := hrel
    have hbs := hB.size
    have hl1 : w.heap.size + 1 ≤ wr.heap.size := by have := hrow.cellAt (k := 0) (by omega); obtain ⟨b, off, x, e, _, hc⟩ := this; cases e; have := cell_lt hc; omega
    by_cases hkn : k < 32
    · obtain ⟨b, off, x, e, hx, hc⟩ := hrow.cellAt hkn
      cases e
      rw [Nat.zero_add] at hc
      have hpl : k + 1 ≤ 140737488355328 := by omega
      have HX := Lib.hid hx
      clear hx
      go_wp2_with (at_builtin; refine app_byte rfl _ _ rfl (w.heap.size + 1) _ _ _ rfl (hownr.alloc _) wr.heap.size 1 _ rfl (cell_one_new _ _ _ 0 _ rfl) hpl (by simp; omega) ?_; intro v' w1 hown' hgrow)
      go_roundw
      case rel =>
        refine ⟨k + 1, by omega, by go_num, ?_, ?_, ?_⟩
        · rw [take_snoc' HX.out, List.map_append]; exact hown'
        · exact (hB.alloc hB.size _).grown hgrow (by simp; omega) (fun k hk => Nat.le_of_succ_le (((World.ownsRow.lt hownr) k hk).1))
        · refine (hrow.alloc _).keepAt hgrow (fun j hj => ?_)
          have := ((World.ownsRow.lt hownr) j hj).1
          omega
      case measure => simp [intOf]; omega
    · obtain rfl : k = 32 := by omega
      go_wp2_with fail
      go_ret
      refine RetB.mk hB (own_base hownr (Nat.le_succ _)) ?_
      rw [List.take_of_length_le (by rw [HD.out]; exact Nat.le_refl _)]

end

section
open Go.RowKit

set_option maxRecDepth 100000 in
theorem wfour_any (m : Nat) (w : World) (hm : m < 4294967296) : Calls Try.prog 47 #[.int .u32 m] w (RetB w (fourL m)) := by
  have hmI : (m : Int) < 4294967296 := by omega
  have h0 : (0 : Int) ≤ (m : Int) := by omega
  go_enter Try.func47, Try.ntmps47
  go_wp2_with fail
  go_ret
  refine RetB.mk ((Below.refl _ _).alloc (Nat.le_refl _) _) (World.ownsRow_lit w _ 4 (Nat.le_refl _) (by simp [maxLen]) rfl) ?_
  simp [fourL]

/-- Behind k bits of a byte. -/
def docK (m : Nat) (x : Nat) (k : Nat) : Nat := crcN k (m ^^^ x) ^^^ (x >>> k)
theorem docK_zero (m x : Nat) : docK m x 0 = m := by
  show (m ^^^ x) ^^^ (x >>> 0) = m
  rw [Nat.shiftRight_zero, Nat.xor_assoc, Nat.xor_self, Nat.xor_zero]
theorem docK_eight {m x : Nat} (hx : x < 256) : docK m x 8 = crcN 8 (m ^^^ x) := by
  unfold docK
  rw [Nat.shiftRight_eq_div_pow, show x / 2 ^ 8 = 0 by omega, Nat.xor_zero]
theorem docK_lt {m x : Nat} (hm : m < 4294967296) (hx : x < 256) (k : Nat) : docK m x k < 4294967296 := by
  have h1 : crcN k (m ^^^ x) < 2 ^ 32 := crcN_lt (Nat.xor_lt_two_pow (n := 32) hm (by omega)) k
  have h2 : x >>> k < 2 ^ 32 := Nat.lt_of_le_of_lt (Nat.shiftRight_le x k) (by omega)
  exact Nat.xor_lt_two_pow h1 h2
theorem docK_succ (m x k : Nat) : docK m x (k + 1) = (docK m x k / 2) ^^^ (if decide (docK m x k % 2 = 1) != decide ((x >>> k) % 2 = 1) then 3988292384 else 0) := by
  have e1 : (crcN k (m ^^^ x) ^^^ (x >>> k)) / 2 = (crcN k (m ^^^ x)) / 2 ^^^ (x >>> (k + 1)) := by
    rw [Nat.shiftRight_succ, Nat.xor_div_two]
  have e2 : (decide (docK m x k % 2 = 1) != decide ((x >>> k) % 2 = 1)) = decide (crcN k (m ^^^ x) % 2 = 1) := by
    unfold docK
    rw [← Nat.testBit_zero, ← Nat.testBit_zero, ← Nat.testBit_zero, Nat.testBit_xor]
    cases (crcN k (m ^^^ x)).testBit 0 <;> cases (x >>> k).testBit 0 <;> rfl
  rw [e2]
  show crc1 (crcN k (m ^^^ x)) ^^^ (x >>> (k + 1)) = (crcN k (m ^^^ x) ^^^ (x >>> k)) / 2 ^^^ _
  rw [e1, crc1]
  simp only [decide_eq_true_eq]
  rw [Nat.xor_assoc, Nat.xor_assoc, Nat.xor_comm (x >>> (k + 1))]

theorem bit32 {m : Nat} (h : m < 4294967296) : (bits .and .u32 (m : Int) 1 == 1) = decide (m % 2 = 1) := by
  rw [show (1 : Int) = ((1 : Nat) : Int) from rfl, u32_and_nat m 1 h (by omega), Nat.and_one_is_mod, Bool.eq_iff_iff]
  simp only [beq_iff_eq, decide_eq_true_eq]
  omega
theorem bit8 {y : Nat} (h : y < 256) (q : Nat) : (bits .and .u8 ((y : Int) / 2 ^ q) 1 == 1) = decide ((y >>> q) % 2 = 1) := by
  have e : (y : Int) / 2 ^ q = ((y >>> q : Nat) : Int) := by rw [Nat.shiftRight_eq_div_pow]; push_cast; rfl
  have hl : y >>> q < 256 := Nat.lt_of_le_of_lt (Nat.shiftRight_le y q) h
  rw [e, show (1 : Int) = ((1 : Nat) : Int) from rfl, u8_and_nat _ 1 hl (by omega), Nat.and_one_is_mod, Bool.eq_iff_iff]
  simp only [beq_iff_eq, decide_eq_true_eq]
  omega
theorem doc_yes {m y q m2 : Nat} (hy : y < 256) (h2 : m2 < 4294967296) (e : m2 = docK m y q) (h : (!(bits .and .u32 (m2 : Int) 1 == 1) == (bits .and .u8 ((y : Int) / 2 ^ q) 1 == 1)) = true) :
    bits .xor .u32 ((m2 : Int) / 2) 3988292384 = (docK m y (q + 1) : Nat) := by
  rw [bit32 h2, bit8 hy] at h
  rw [docK_succ, ← e, if_pos (by simpa using h), show (m2 : Int) / 2 = ((m2 / 2 : Nat) : Int) by omega]
  exact u32_xor_nat (m2 / 2) 3988292384 (by omega) (by omega)
theorem doc_no {m y q m2 : Nat} (hy : y < 256) (h2 : m2 < 4294967296) (e : m2 = docK m y q) (h : (!(bits .and .u32 (m2 : Int) 1 == 1) == (bits .and .u8 ((y : Int) / 2 ^ q) 1 == 1)) = false) :
    (m2 : Int) / 2 = (docK m y (q + 1) : Nat) := by
  rw [bit32 h2, bit8 hy] at h
  rw [docK_succ, ← e, if_neg (by simpa using h), Nat.xor_zero]
  omega
theorem not_bits' {m : Nat} (h : m < 4294967296) : bits .xor .u32 (m : Int) 4294967295 = ((4294967295 - m : Nat) : Int) := by
  rw [← not_bits h, show (IntKind.u32.max : Int) = ((4294967295 : Nat) : Int) from rfl, u32_xor_nat _ _ (by omega) h]
  have := u32_xor_nat m 4294967295 h (by omega)
  rw [Nat.xor_comm]
  exact this

set_option maxRecDepth 100000 in
set_option maxHeartbeats 1000000 in
theorem rsum_any (a : Option Addr) (n c : Nat) (l : List Int) (w : World) (h : Bs w a n c l) (hb : IsBytes l) :
    Calls Try.prog 48 #[.slice a n c] w (Ret w (.int .u32 (sumL l))) := by
  have hn := h.length
  have hcap := h.cap
  have hle := h.le
  unfold maxLen at hcap
  have HN := Lib.hid hn; have HV := Lib.hid h
  clear hn h
  go_enter Try.func48, Try.ntmps48
  go_upto_region 3 with fail
  go_loopw [3, 4] (fun s i wr => ∃ k m : Nat, k ≤ n ∧ i = .int .i64 k ∧ s = .int .u32 m ∧ m < 4294967296 ∧ crcL 4294967295 l = crcL m (l.drop k) ∧ w = wr) (fun _ i _ => n - (intOf i).toNat)
  case atStart => exact ⟨0, 4294967295, Nat.zero_le _, rfl, rfl, by omega, rfl, rfl⟩
  case round =>
    obtain ⟨k, m, hk, rfl, rfl, hm, hall, rfl⟩ := hrel
    have HA := Lib.hid hall
    clear hall
    by_cases hkn : k < n
    · obtain ⟨b, off, rfl, hc⟩ := Bs.at HV.out (by omega)
      obtain ⟨x, hx⟩ : ∃ x, l[k]? = some x := ⟨_, List.getElem?_eq_getElem (by have := HN.out; omega)⟩
      have g1 := hc k x hx
      have hxb := hb x (List.mem_of_getElem? hx)
      obtain ⟨y, rfl⟩ := Int.eq_ofNat_of_zero_le hxb.1
      have hy : y < 256 := by omega
      have HX := Lib.hid hx
      have hD0 := Lib.hid (docK_zero m y)
      clear hc hx
      go_upto_region 6 with fail
      go_loopw [3, 5] (fun s i wr => ∃ q m2 : Nat, q ≤ 8 ∧ i = .int .i64 q ∧ s = .int .u32 m2 ∧ m2 < 4294967296 ∧ m2 = docK m y q ∧ w = wr) (fun _ i _ => 8 - (intOf i).toNat)
      case atStart => exact ⟨0, m, Nat.zero_le _, rfl, rfl, hm, hD0.out.symm, by first | rfl | trivial⟩
      case round =>
        obtain ⟨q, m2, hq, rfl, rfl, hm2, hm2e, rfl⟩ := hrel
        have HM2 := Lib.hid hm2e
        clear hm2e
        by_cases hq8 : q < 8
        · go_wp2_with fail
          · have e := doc_yes hy hm2 HM2.out (by assumption)
            rw [e]
            go_roundw
            case rel => exact ⟨q + 1, docK m y (q + 1), by omega, by go_num, rfl, docK_lt hm hy _, rfl, by first | rfl | trivial⟩
            case measure => simp [intOf]; omega
          · have e := doc_no hy hm2 HM2.out (by assumption)
            rw [e]
            go_roundw
            case rel => exact ⟨q + 1, docK m y (q + 1), by omega, by go_num, rfl, docK_lt hm hy _, rfl, by first | rfl | trivial⟩
            case measure => simp [intOf]; omega
        · obtain rfl : q = 8 := by omega
          go_wp2_with fail
          go_roundw
          case rel =>
            refine ⟨k + 1, m2, by omega, by go_num, rfl, hm2, ?_, by first | rfl | trivial⟩
            rw [HA.out, drop_at HX.out, crcL, HM2.out, docK_eight hy]
            rfl
          case measure => simp [intOf]; omega
    · obtain rfl : k = n := by omega
      go_wp2_with fail
      rw [not_bits' hm]
      go_ret
      refine Ret.mk (congrArg (fun z : Nat => Value.int .u32 z) ?_) (Below.refl _ _)
      rw [sumL, HA.out, List.drop_of_length_le (by rw [HN.out]; exact Nat.le_refl _)]
      rfl

end

end Go.Proofs.Ytfjbmgfkfeehnaa
