/- Bytes are written: copies, numbers, texts, IDs. -/
import Derived.Test.YtfjbmgfkfeehnaaBase
import Derived.Maps.AppendAt
import Derived.Deep.RegionLaw
namespace Go.Proofs.Ytfjbmgfkfeehnaa
open Go.RowKit

theorem clone_bytes (a : Option Addr) (n c : Nat) (l : List Int) (w : World) (h : Bs w a n c l) (hl : l.length ≤ 140737488355328) :
    Calls Try.prog 55 #[.slice a n c] w (RetB w l) := by
  cases a with
  | none =>
    obtain rfl := h.nil rfl
    have hl0 := h.length
    obtain rfl : n = 0 := by have := h.le; omega
    obtain rfl : l = [] := List.eq_nil_of_length_eq_zero hl0
    clear hl hl0 h
    go_enter Try.func55, Try.ntmps55
    go_wp2
    go_ret
    exact RetB.mk (Below.refl _ _) (World.ownsRow_nil _ _ _ _) rfl
  | some x =>
    have hn : n ≤ 140737488355328 := by have := h.length; omega
    have hown : (w.alloc (.cells #[] 5)).ownsRow w.heap.size 5 1 (.slice (some ⟨w.heap.size, 0, none⟩) 0 0) 0 [] := World.ownsRow_made _ _ _ (Nat.le_refl _) (Nat.zero_le _) rfl
    go_enter Try.func55, Try.ntmps55
    go_wp2_with (at_builtin; refine app_bytes rfl _ _ rfl w.heap.size _ _ _ rfl hown x n c l rfl (Sl.alloc h _) (by omega) (by simp) ?_)
    intro v' w1 hown' hgrow
    go_wp2
    go_ret
    exact RetB.mk (Below.grown ((Below.refl _ _).alloc (Nat.le_refl _) _) hgrow (by simp) (fun k hk => by simp [Value.ownBlock] at hk; omega)) hown' rfl

theorem or_128 (m : Nat) : bits .or .u8 ((m : Int) % 256) 128 = ((m % 128 + 128 : Nat) : Int) := by
  have e : ((m : Int) % 256) = ((m % 256 : Nat) : Int) := by omega
  rw [e, show (128 : Int) = ((128 : Nat) : Int) from rfl, u8_or_nat _ _ (by omega) (by omega)]
  have h : ∀ x : Fin 256, x.val ||| 128 = x.val % 128 + 128 := by decide +kernel
  have := h ⟨m % 256, by omega⟩
  simp only [] at this
  rw [this]; omega

theorem mn_clamp (n : Int) : mnI (mxI n 0) 4611686018427387904 = (clampN n : Int) := by
  unfold mnI mxI clampN
  split <;> split <;> (try split) <;> omega

set_option maxRecDepth 100000 in
theorem num_any (a : Option Addr) (k c : Nat) (l : List Int) (n : Int) (w : World) (h : Bs w a k c l) (hl : l.length + 9 ≤ 140737488355328) :
    Calls Try.prog 19 #[.slice a k c, .int .i64 n] w (RetB w (l ++ numL n)) := by
  have hm0 : (0 : Int) ≤ mnI (mxI n 0) 4611686018427387904 := by rw [mn_clamp]; omega
  have hm1 : mnI (mxI n 0) 4611686018427387904 ≤ (4611686018427387904 : Int) := by rw [mnI_eq]; omega
  have hlen := numL_len n
  have hlk := Lib.hid h.length
  go_enter Try.func19, Try.ntmps19
  go_wp2_with (go_at_call 55; refine (clone_bytes _ _ _ _ _ h (by omega)).mono ?_; rintro e w1 ⟨a1, k1, c1, rfl, hb, hown⟩)
  have hk1 : k1 = l.length := by have := hown.1; simpa using this.symm
  have HK := Lib.hid hk1; clear hk1
  go_loopw [5, 6] (fun v u wr => ∃ (p : List Int) (m : Nat), numB (clampN n) = p ++ numB m ∧ u = .int .u64 (m : Int) ∧ m ≤ 4611686018427387904 ∧
    wr.ownsRow w.heap.size 5 1 v (l ++ p).length ((l ++ p).map (Value.int .u8)) ∧ Below w.heap.size w wr) (fun _ u _ => (intOf u).toNat)
  case atStart => exact ⟨[], clampN n, rfl, by rw [mn_clamp], clampN_le n, by have := HK.out; subst this; simpa using hown, hb⟩
  case round =>
    obtain ⟨p, m, hp, rfl, hm, hownr, hbr⟩ := hrel
    have hpl : (l ++ p).length + 1 ≤ 140737488355328 := by
      have e := congrArg List.length hp
      have := numB_pos m
      have := hlk.out
      unfold numL at hlen
      simp only [List.length_append] at e ⊢
      omega
    have HP := Lib.hid hp; have HL := Lib.hid hlen; clear hp hlen hm0 hm1 h hown hb hl
    have hmI : (m : Int) ≤ 4611686018427387904 := by omega
    have HM := Lib.hid hm; clear hm
    have hor := or_128 m
    have hbs := hbr.size
    go_wp2_with (at_builtin; refine app_byte rfl _ _ rfl w.heap.size _ _ _ rfl (hownr.alloc _) wr.heap.size 1 _ rfl (cell_one_new _ _ _ 0 _ rfl) hpl (by simp; omega) ?_; intro v' w1 hown' hgrow)
    · have hgt : (127 : Int) < m := by assumption
      go_roundw
      case rel =>
        refine ⟨p ++ [((m % 128 + 128 : Nat) : Int)], m / 128, ?_, by go_num, by have := HM.out; omega, ?_, ?_⟩
        · rw [HP.out, numB_ge (by omega)]; simp
        · simpa [Nat.add_assoc] using hown'
        · exact (hbr.alloc hbr.size _).grown hgrow (by simp; omega) (fun k hk => ((World.ownsRow.lt hownr) k hk).1)
      case measure => simp [intOf]; omega
    · have hle : (m : Int) ≤ 127 := by assumption
      go_ret
      refine RetB.mk ((hbr.alloc hbr.size _).grown hgrow (by simp; omega) (fun k hk => ((World.ownsRow.lt hownr) k hk).1)) hown' ?_
      unfold numL
      rw [HP.out, numB_lt (by omega)]
      simp

theorem retB_len {w : World} {base : Nat} {a : Option Addr} {n c : Nat} {l : List Int} (h : w.ownsRow base 5 1 (.slice a n c) n (l.map (Value.int .u8))) : n = l.length := by have := h.1; simpa using this.symm

set_option maxRecDepth 100000 in
theorem text_any (a : Option Addr) (k c : Nat) (l : List Int) (s : ByteArray) (w : World) (h : Bs w a k c l) (hl : l.length + 9 + s.size ≤ 140737488355328) :
    Calls Try.prog 21 #[.slice a k c, .string s] w (RetB w (l ++ textL s)) := by
  obtain ⟨i0, hi, hz0, hz1, hz2⟩ := info_parts info_u8
  have hlk := Lib.hid h.length
  go_enter Try.func21, Try.ntmps21
  go_wp2_with (first
    | (go_at_call 19; refine (num_any _ _ _ _ _ _ h (by omega)).mono ?_; rintro e w1 ⟨a1, k1, c1, rfl, hb, hown⟩; have hlen : k1 + s.size ≤ 140737488355328 := (by have := numL_len s.size; have h1 := retB_len hown; have := hlk.out; simp only [List.length_append] at h1; omega); have hbig : k1 + s.size ≤ maxLen := (by unfold maxLen; omega); have hbs := hb.size)
    | (at_builtin; refine Lib.wpList_append_own_string _ rfl _ _ 26 9 rfl w.heap.size 5 i0 Try.underlying26 Try.underlying9 hi hz0 hz1 hz2 _ _ _ rfl hown s rfl hbig hlen hbs ?_; intro v' w2 hown' hgrow _))
  go_ret
  refine RetB.mk (hb.grown hgrow hb.size (fun k hk => ((World.ownsRow.lt hown) k hk).1)) hown' ?_
  rw [strCells_eq]
  simp [textL]

/-- An ID's cells. -/
def idC (d : List Int) : Array Value := (d.map (Value.int .u8)).toArray

set_option maxRecDepth 100000 in
theorem id_any (a : Option Addr) (k c : Nat) (l d : List Int) (w : World) (h : Bs w a k c l) (hl : l.length + 32 ≤ 140737488355328) (hd : d.length = 32) :
    Calls Try.prog 20 #[.slice a k c, .agg (idC d)] w (RetB w (l ++ d)) := by
  have hsz : (idC d).size = 32 := by simp [idC, hd]
  have HD := Lib.hid hd; clear hd
  have hlk := Lib.hid h.length
  have hid0 : Bs (w.alloc (.cells (idC d) 25)).drew (some ⟨w.heap.size, 0, none⟩) 32 32 d := by
    have := Sl.row (w := (w.alloc (.cells (idC d) 25)).drew) (b := w.heap.size) (cs := idC d) (t := 25) (fr := (0, 0)) (heap_alloc_new w _) 1 32 (by simp [hsz]) (by simp [maxLen])
    simpa [idC, Bs] using this
  have hl0 : l.length ≤ 140737488355328 := by omega
  have hB0 : Below w.heap.size w (w.alloc (.cells (idC d) 25)).drew := ((Below.refl _ _).alloc (Nat.le_refl _) _).drew
  go_enter Try.func20, Try.ntmps20
  go_wp2_with fail
  go_region_law (first
    | (refine step_bytes rfl _ _ rfl w.heap.size _ _ _ rfl (by assumption) _ 32 32 d rfl (by assumption) (by assumption) (by assumption) ?_; intro v' w2 hown' hgrow)
    | (go_simp; go_at_call 55; refine (clone_bytes _ _ _ _ _ (h.alloc _).drew (by omega)).mono ?_; rintro e w1 ⟨a1, k1, c1, rfl, hb, hown⟩; have hO := own_base (base' := w.heap.size) hown (by simp); have hk1 : k1 + 32 ≤ 140737488355328 := (by have h1 := retB_len hown; have := hlk.out; omega); have hbs : w.heap.size ≤ w1.heap.size := (by have := hb.size; simp at this; omega); have hid1 : Bs w1 (some ⟨w.heap.size, 0, none⟩) 32 32 d := hid0.below hb))
  go_wp2
  go_ret
  exact RetB.mk ((Below.next hB0 hb).grown hgrow hbs (fun k hk => ((World.ownsRow.lt hO) k hk).1)) hown' (by simp)

end Go.Proofs.Ytfjbmgfkfeehnaa
