/- Bytes are written: copies, numbers, texts, IDs. A reader of bytes: what its methods do to it. A number is read. Texts and IDs are read; what else is asked of a reader. An ID is read; a reader is made. A reader is made; a stamp is read. (Nothing here: a link in the chain of imports.) -/
import Derived.Test.YtfjbmgfkfeehnaaBase
import Derived.Maps.AppendAt
import Derived.Deep.RegionLaw
namespace Go.Proofs.Ytfjbmgfkfeehnaa
section
open Go.RowKit

theorem clone_bytes (a : Option Addr) (n c : Nat) (l : List Int) (w : World) (h : Bs w a n c l) (hl : l.length ≤ 140737488355328) :
    Calls Try.prog 55 #[.slice a n c] w (RetB w l) := by
  cases a with
  | none =>
    obtain rfl := h.nil rfl
    have hl0 := h.length
    obtain rfl : n = 0 := by have := h.le; omega
    obtain rfl : l = [] := List.eq_nil_of_length_eq_zero hl0
    clear hl hl0 h
    go_enter Try.func55, Try.ntmps55
    go_wp2
    go_ret
    exact RetB.mk (Below.refl _ _) (World.ownsRow_nil _ _ _ _) rfl
  | some x =>
    have hn : n ≤ 140737488355328 := by have := h.length; omega
    have hown : (w.alloc (.cells #[] 5)).ownsRow w.heap.size 5 1 (.slice (some ⟨w.heap.size, 0, none⟩) 0 0) 0 [] := World.ownsRow_made _ _ _ (Nat.le_refl _) (Nat.zero_le _) rfl
    go_enter Try.func55, Try.ntmps55
    go_wp2_with (at_builtin; refine app_bytes rfl _ _ rfl w.heap.size _ _ _ rfl hown x n c l rfl (Sl.alloc h _) (by omega) (by simp) ?_)
    intro v' w1 hown' hgrow
    go_wp2
    go_ret
    exact RetB.mk (Below.grown ((Below.refl _ _).alloc (Nat.le_refl _) _) hgrow (by simp) (fun k hk => by simp [Value.ownBlock] at hk; omega)) hown' rfl

theorem or_128 (m : Nat) : bits .or .u8 ((m : Int) % 256) 128 = ((m % 128 + 128 : Nat) : Int) := by
  have e : ((m : Int) % 256) = ((m % 256 : Nat) : Int) := by omega
  rw [e, show (128 : Int) = ((128 : Nat) : Int) from rfl, u8_or_nat _ _ (by omega) (by omega)]
  have h : ∀ x : Fin 256, x.val ||| 128 = x.val % 128 + 128 := by decide +kernel
  have := h ⟨m % 256, by omega⟩
  simp only [] at this
  rw [this]; omega

theorem mn_clamp (n : Int) : mnI (mxI n 0) 4611686018427387904 = (clampN n : Int) := by
  unfold mnI mxI clampN
  split <;> split <;> (try split) <;> omega

set_option maxRecDepth 100000 in
theorem num_any (a : Option Addr) (k c : Nat) (l : List Int) (n : Int) (w : World) (h : Bs w a k c l) (hl : l.length + 9 ≤ 140737488355328) :
    Calls Try.prog 19 #[.slice a k c, .int .i64 n] w (RetB w (l ++ numL n)) := by
  have hm0 : (0 : Int) ≤ mnI (mxI n 0) 4611686018427387904 := by rw [mn_clamp]; omega
  have hm1 : mnI (mxI n 0) 4611686018427387904 ≤ (4611686018427387904 : Int) := by rw [mnI_eq]; omega
  have hlen := numL_len n
  have hlk := Lib.hid h.length
  go_enter Try.func19, Try.ntmps19
  go_wp2_with (go_at_call 55; refine (clone_bytes _ _ _ _ _ h (by omega)).mono ?_; rintro e w1 ⟨a1, k1, c1, rfl, hb, hown⟩)
  have hk1 : k1 = l.length := by have := hown.1; simpa using this.symm
  have HK := Lib.hid hk1; clear hk1
  go_loopw [5, 6] (fun v u wr => ∃ (p : List Int) (m : Nat), numB (clampN n) = p ++ numB m ∧ u = .int .u64 (m : Int) ∧ m ≤ 4611686018427387904 ∧
    wr.ownsRow w.heap.size 5 1 v (l ++ p).length ((l ++ p).map (Value.int .u8)) ∧ Below w.heap.size w wr) (fun _ u _ => (intOf u).toNat)
  case atStart => exact ⟨[], clampN n, rfl, by rw [mn_clamp], clampN_le n, by have := HK.out; subst this; simpa using hown, hb⟩
  case round =>
    obtain ⟨p, m, hp, rfl, hm, hownr, hbr⟩ := hrel
    have hpl : (l ++ p).length + 1 ≤ 140737488355328 := by
      have e := congrArg List.length hp
      have := numB_pos m
      have := hlk.out
      unfold numL at hlen
      simp only [List.length_append] at e ⊢
      omega
    have HP := Lib.hid hp; have HL := Lib.hid hlen; clear hp hlen hm0 hm1 h hown hb hl
    have hmI : (m : Int) ≤ 4611686018427387904 := by omega
    have HM := Lib.hid hm; clear hm
    have hor := or_128 m
    have hbs := hbr.size
    go_wp2_with (at_builtin; refine app_byte rfl _ _ rfl w.heap.size _ _ _ rfl (hownr.alloc _) wr.heap.size 1 _ rfl (cell_one_new _ _ _ 0 _ rfl) hpl (by simp; omega) ?_; intro v' w1 hown' hgrow)
    · have hgt : (127 : Int) < m := by assumption
      go_roundw
      case rel =>
        refine ⟨p ++ [((m % 128 + 128 : Nat) : Int)], m / 128, ?_, by go_num, by have := HM.out; omega, ?_, ?_⟩
        · rw [HP.out, numB_ge (by omega)]; simp
        · simpa [Nat.add_assoc] using hown'
        · exact (hbr.alloc hbr.size _).grown hgrow (by simp; omega) (fun k hk => ((World.ownsRow.lt hownr) k hk).1)
      case measure => simp [intOf]; omega
    · have hle : (m : Int) ≤ 127 := by assumption
      go_ret
      refine RetB.mk ((hbr.alloc hbr.size _).grown hgrow (by simp; omega) (fun k hk => ((World.ownsRow.lt hownr) k hk).1)) hown' ?_
      unfold numL
      rw [HP.out, numB_lt (by omega)]
      simp

theorem retB_len {w : World} {base : Nat} {a : Option Addr} {n c : Nat} {l : List Int} (h : w.ownsRow base 5 1 (.slice a n c) n (l.map (Value.int .u8))) : n = l.length := by have := h.1; simpa using this.symm

set_option maxRecDepth 100000 in
theorem text_any (a : Option Addr) (k c : Nat) (l : List Int) (s : ByteArray) (w : World) (h : Bs w a k c l) (hl : l.length + 9 + s.size ≤ 140737488355328) :
    Calls Try.prog 21 #[.slice a k c, .string s] w (RetB w (l ++ textL s)) := by
  obtain ⟨i0, hi, hz0, hz1, hz2⟩ := info_parts info_u8
  have hlk := Lib.hid h.length
  go_enter Try.func21, Try.ntmps21
  go_wp2_with (first
    | (go_at_call 19; refine (num_any _ _ _ _ _ _ h (by omega)).mono ?_; rintro e w1 ⟨a1, k1, c1, rfl, hb, hown⟩; have hlen : k1 + s.size ≤ 140737488355328 := (by have := numL_len s.size; have h1 := retB_len hown; have := hlk.out; simp only [List.length_append] at h1; omega); have hbig : k1 + s.size ≤ maxLen := (by unfold maxLen; omega); have hbs := hb.size)
    | (at_builtin; refine Lib.wpList_append_own_string _ rfl _ _ 26 9 rfl w.heap.size 5 i0 Try.underlying26 Try.underlying9 hi hz0 hz1 hz2 _ _ _ rfl hown s rfl hbig hlen hbs ?_; intro v' w2 hown' hgrow _))
  go_ret
  refine RetB.mk (hb.grown hgrow hb.size (fun k hk => ((World.ownsRow.lt hown) k hk).1)) hown' ?_
  rw [strCells_eq]
  simp [textL]

/-- An ID's cells. -/
def idC (d : List Int) : Array Value := (d.map (Value.int .u8)).toArray

set_option maxRecDepth 100000 in
theorem id_any (a : Option Addr) (k c : Nat) (l d : List Int) (w : World) (h : Bs w a k c l) (hl : l.length + 32 ≤ 140737488355328) (hd : d.length = 32) :
    Calls Try.prog 20 #[.slice a k c, .agg (idC d)] w (RetB w (l ++ d)) := by
  have hsz : (idC d).size = 32 := by simp [idC, hd]
  have HD := Lib.hid hd; clear hd
  have hlk := Lib.hid h.length
  have hid0 : Bs (w.alloc (.cells (idC d) 25)).drew (some ⟨w.heap.size, 0, none⟩) 32 32 d := by
    have := Sl.row (w := (w.alloc (.cells (idC d) 25)).drew) (b := w.heap.size) (cs := idC d) (t := 25) (fr := (0, 0)) (heap_alloc_new w _) 1 32 (by simp [hsz]) (by simp [maxLen])
    simpa [idC, Bs] using this
  have hl0 : l.length ≤ 140737488355328 := by omega
  have hB0 : Below w.heap.size w (w.alloc (.cells (idC d) 25)).drew := ((Below.refl _ _).alloc (Nat.le_refl _) _).drew
  go_enter Try.func20, Try.ntmps20
  go_wp2_with fail
  go_region_law (first
    | (refine step_bytes rfl _ _ rfl w.heap.size _ _ _ rfl (by assumption) _ 32 32 d rfl (by assumption) (by assumption) (by assumption) ?_; intro v' w2 hown' hgrow)
    | (go_simp; go_at_call 55; refine (clone_bytes _ _ _ _ _ (h.alloc _).drew (by omega)).mono ?_; rintro e w1 ⟨a1, k1, c1, rfl, hb, hown⟩; have hO := own_base (base' := w.heap.size) hown (by simp); have hk1 : k1 + 32 ≤ 140737488355328 := (by have h1 := retB_len hown; have := hlk.out; omega); have hbs : w.heap.size ≤ w1.heap.size := (by have := hb.size; simp at this; omega); have hid1 : Bs w1 (some ⟨w.heap.size, 0, none⟩) 32 32 d := hid0.below hb))
  go_wp2
  go_ret
  exact RetB.mk ((Below.next hB0 hb).grown hgrow hbs (fun k hk => ((World.ownsRow.lt hO) k hk).1)) hown' (by simp)

end

section
open Go.RowKit

/-- At block g lies a reader in this state; its bytes lie in a block below H. -/
def RdAt (w : World) (H g : Nat) : Rd → Prop
  | none => w.heap[g]? = some (.cells #[.slice none 0 0, .bool true] 104 (0, 0))
  | some l => ∃ a n c, w.heap[g]? = some (.cells #[.slice a n c, .bool false] 104 (0, 0)) ∧ Bs w a n c l ∧ ∀ x, a = some x → x.block < H

theorem RdAt.cells {w : World} {H g : Nat} {s : Rd} (h : RdAt w H g s) : ∃ a n c b, w.heap[g]? = some (.cells #[.slice a n c, .bool b] 104 (0, 0)) := by
  cases s with
  | none => exact ⟨_, _, _, _, h⟩
  | some l => obtain ⟨a, n, c, h, _⟩ := h; exact ⟨_, _, _, _, h⟩

/-- What lies below H, and the reader's own block, are as they were. -/
theorem RdAt.kept {w w' : World} {H g : Nat} {s : Rd} (h : RdAt w H g s) (hg : w'.heap[g]? = w.heap[g]?) (hb : ∀ k, k < H → k ≠ g → w'.heap[k]? = w.heap[k]?) : RdAt w' H g s := by
  cases s with
  | none => exact hg.trans h
  | some l =>
    obtain ⟨a, n, c, hc, hs, hx⟩ := h
    refine ⟨a, n, c, hg.trans hc, ?_, hx⟩
    refine ⟨hs.len, hs.le, hs.cap, hs.nil, fun hn => ?_⟩
    obtain ⟨b, off, ha, hcc⟩ := Sl.cells hs hn
    refine ⟨b, off, ha, fun j hj => ?_⟩
    rw [← hcc j hj]
    refine World.cell?_of_block (w := w) (w' := w') (a := ⟨b, off + j, none⟩) ?_
    by_cases e : b = g
    · subst e; exact hg
    · exact hb b (hx _ ha) e

theorem blk_cell {w : World} {g : Nat} {cs : Array Value} {t : TypeId} (h : w.heap[g]? = some (.cells cs t (0, 0))) :
    (∀ j, w.cell? ⟨g, j, none⟩ = cs[j]?) ∧ (∀ j, w.frozen? ⟨g, j, none⟩ = false) ∧ g < w.heap.size :=
  ⟨fun j => cell_of_row w g j cs t (0, 0) h, fun j => frozen_of_row w g j cs t h, by
    rcases Nat.lt_or_ge g w.heap.size with hh | hh
    · exact hh
    · rw [Array.getElem?_eq_none hh] at h; cases h⟩

/-- Two stores into a reader's block. -/
theorem rd_set0 {w : World} {g : Nat} {x y u : Value} (h : w.heap[g]? = some (.cells #[x, y] 104 (0, 0))) : (w.setCell ⟨g, 0, none⟩ u).heap[g]? = some (.cells #[u, y] 104 (0, 0)) :=
  (heap_setCell_same w g 0 _ _ u h).trans rfl
theorem rd_set1 {w : World} {g : Nat} {x y u : Value} (h : w.heap[g]? = some (.cells #[x, y] 104 (0, 0))) : (w.setCell ⟨g, 1, none⟩ u).heap[g]? = some (.cells #[x, u] 104 (0, 0)) :=
  (heap_setCell_same w g 1 _ _ u h).trans rfl

theorem grown_refl (w : World) (r : Option Nat) : w.grownBy w r := ⟨rfl, rfl, rfl, Nat.le_refl _, fun _ _ _ => rfl⟩
theorem grown_trans {a b c : World} {r : Option Nat} (h : a.grownBy b r) (k : b.grownBy c r) : a.grownBy c r :=
  ⟨k.os.trans h.os, k.tape.trans h.tape, k.output.trans h.output, Nat.le_trans h.size k.size, fun i hi hr => (k.block i (Nat.lt_of_lt_of_le hi h.size) hr).trans (h.block i hi hr)⟩
theorem grown_set (w : World) (g o : Nat) (u : Value) : w.grownBy (w.setCell ⟨g, o, none⟩ u) (some g) :=
  ⟨rfl, rfl, rfl, by simp [World.setCell], fun k _ hk => Below.heap_setCell _ _ _ _ (fun e => hk (by rw [e]))⟩
theorem grown_below {a b : World} {r : Option Nat} (h : Below a.heap.size a b) : a.grownBy b r := ⟨h.os, h.tape, h.output, h.size, fun k hk _ => h.block k hk⟩
theorem below_grown {w a b : World} {g : Nat} (h : Below w.heap.size w a) (k : a.grownBy b (some g)) (hg : w.heap.size ≤ g) : Below w.heap.size w b :=
  h.grown k h.size (fun j hj => by cases hj; exact hg)

/-- Bytes do not lie in a reader's block: they stay. -/
theorem Bs.grown {w w' : World} {g : Nat} {a : Option Addr} {n c : Nat} {l : List Int} {x y : Value} {t : TypeId} (h : Bs w a n c l) (hg : w.heap[g]? = some (.cells #[x, y] t (0, 0)))
    (hx : ∀ z, x ≠ .int .u8 z) (hy : ∀ z, y ≠ .int .u8 z) (k : w.grownBy w' (some g)) : Bs w' a n c l := by
  refine ⟨h.len, h.le, h.cap, h.nil, fun hn => ?_⟩
  obtain ⟨b, off, ha, hc⟩ := Sl.cells h hn
  refine ⟨b, off, ha, fun j hj => ?_⟩
  have hl := h.length
  have hv := hc j hj
  have hne : b ≠ g := by
    rintro rfl
    rw [cell_of_row w b _ _ t (0, 0) hg, List.getElem?_map, List.getElem?_eq_getElem (by omega)] at hv
    simp only [Option.map_some] at hv
    generalize hq : off + j = q at hv
    match q, hv with
    | 0, hv => simp at hv; exact hx _ hv
    | 1, hv => simp at hv; exact hy _ hv
    | q + 2, hv => simp at hv
  rw [List.getElem?_map, List.getElem?_eq_getElem (by omega)] at hv ⊢
  exact k.cell hv (by simpa using hne)

theorem Bs.takeS {w : World} {x : Addr} {k c n : Nat} {l : List Int} (h : Bs w (some x) k c l) (hn : n ≤ k) : Bs w (some x) n n (l.take n) := by
  have hl := h.length
  refine ⟨by simp; omega, Nat.le_refl _, Nat.le_trans (Nat.le_trans hn h.le) h.cap, fun e => (by cases e), fun h0 => ?_⟩
  obtain ⟨b, off, ha, hc⟩ := Sl.cells h (by omega)
  refine ⟨b, off, ha, fun j hj => ?_⟩
  rw [hc j (by omega)]
  simp only [List.getElem?_map, List.getElem?_take]
  rw [if_pos (by omega)]
theorem Bs.dropA {w : World} {x : Addr} {k c n : Nat} {l : List Int} (h : Bs w (some x) k c l) (hn : n ≤ k) : Bs w (some (x.add n)) (k - n) (c - n) (l.drop n) := by
  have hl := h.length
  have := h.le
  have := h.cap
  refine ⟨by simp; omega, by omega, by omega, fun e => (by cases e), fun h0 => ?_⟩
  obtain ⟨b, off, ha, hc⟩ := Sl.cells h (by omega)
  cases ha
  refine ⟨b, off + n, by unfold Addr.add; split <;> simp_all, fun j hj => ?_⟩
  rw [show off + n + j = off + (n + j) from by omega, hc (n + j) (by omega)]
  simp only [List.getElem?_map, List.getElem?_drop]
theorem Bs.none_of {w : World} {a : Option Addr} {k c : Nat} (hk : k = 0) (hc : c ≤ maxLen) (ha : a = none → c = 0) : Bs w a k c [] := by
  subst hk
  exact ⟨by simp, Nat.zero_le _, hc, ha, fun h => absurd h (by omega)⟩

theorem fail_any (H g : Nat) (s : Rd) (w : World) (h : RdAt w H g s) :
    Calls Try.prog 60 #[.pointer (some ⟨g, 0, none⟩)] w fun e w' => e = .returned (.tuple #[]) ∧ w.grownBy w' (some g) ∧ RdAt w' H g none := by
  obtain ⟨a, n, c, b, hb⟩ := h.cells
  obtain ⟨hc, hf, hg⟩ := blk_cell hb
  have c0 := hc 0; have c1 := hc 1; have f0 := hf 0; have f1 := hf 1
  simp at c0 c1
  have HB := Lib.hid hb
  clear hc hf hb h
  go_enter Try.func60, Try.ntmps60
  go_wp2
  go_end0
  exact ⟨rfl, grown_trans (grown_set _ _ _ _) (grown_set _ _ _ _), rd_set1 (rd_set0 HB.out)⟩

/-- So many bytes aren't there. -/
theorem take_no (H g : Nat) (s : Rd) (n : Int) (w : World) (h : RdAt w H g s) (hn : ∀ l, s = some l → (l.length : Int) < n) :
    Calls Try.prog 59 #[.pointer (some ⟨g, 0, none⟩), .int .i64 n] w fun e w' => e = .returned (.slice none 0 0) ∧ w.grownBy w' (some g) ∧ RdAt w' H g none := by
  have h0 := h
  cases s with
  | none =>
    obtain ⟨hc, hf, hg⟩ := blk_cell (show w.heap[g]? = some (.cells #[.slice none 0 0, .bool true] 104 (0, 0)) from h)
    have c0 := hc 0; have c1 := hc 1; have f0 := hf 0; have f1 := hf 1
    simp at c0 c1
    clear hc hf hn h
    go_enter Try.func59, Try.ntmps59
    go_wp2_with (go_at_call 60; refine (fail_any _ _ _ _ h0).mono ?_; rintro e w1 ⟨rfl, hgr, hrd⟩)
    go_ret
    exact ⟨rfl, hgr, hrd⟩
  | some l =>
    obtain ⟨a, k, c, hb, hs, hH⟩ := h
    obtain ⟨hc, hf, hg⟩ := blk_cell hb
    have c0 := hc 0; have c1 := hc 1; have f0 := hf 0; have f1 := hf 1
    simp at c0 c1
    have hk : (k : Int) < n := by have := hn l rfl; have := hs.length; omega
    clear hc hf hn hb hs
    go_enter Try.func59, Try.ntmps59
    go_wp2_with (go_at_call 60; refine (fail_any _ _ _ _ h0).mono ?_; rintro e w1 ⟨rfl, hgr, hrd⟩)
    go_ret
    exact ⟨rfl, hgr, hrd⟩

/-- Bytes are taken. -/
theorem take_yes (H g : Nat) (l : List Int) (n : Nat) (w : World) (h : RdAt w H g (some l)) (hn : n ≤ l.length) :
    Calls Try.prog 59 #[.pointer (some ⟨g, 0, none⟩), .int .i64 (n : Int)] w fun e w' =>
      ∃ a, e = .returned (.slice a n n) ∧ w.grownBy w' (some g) ∧ RdAt w' H g (some (l.drop n)) ∧ Bs w' a n n (l.take n) := by
  obtain ⟨a, k, c, hb, hs, hH⟩ := h
  obtain ⟨hc, hf, hg⟩ := blk_cell hb
  have c0 := hc 0; have c1 := hc 1; have f0 := hf 0; have f1 := hf 1
  simp at c0 c1
  have hk := hs.length
  have hkc := hs.le
  have hm := hs.cap
  unfold maxLen at hm
  have hnk : (n : Int) ≤ (k : Int) := by omega
  cases a with
  | none =>
    obtain rfl := hs.nil rfl
    obtain rfl : k = 0 := by omega
    obtain rfl : n = 0 := by omega
    obtain rfl : l = [] := List.eq_nil_of_length_eq_zero hk
    clear hc hf hk hkc hm
    go_enter Try.func59, Try.ntmps59
    go_wp2
    go_ret
    exact ⟨_, rfl, grown_set _ _ _ _, ⟨_, _, _, rd_set0 hb, Sl.empty _ _, fun _ e => (by cases e)⟩, Sl.empty _ _⟩
  | some x =>
    have HK := Lib.hid hk
    clear hc hf hk
    go_enter Try.func59, Try.ntmps59
    go_wp2
    · go_ret
      have hkn : k = n := by omega
      have hd : l.drop n = [] := List.drop_eq_nil_of_le (by have := HK.out; omega)
      refine ⟨_, rfl, grown_set _ _ _ _, ⟨_, _, _, rd_set0 hb, ?_, fun y hy => hH y hy⟩, ?_⟩
      · rw [hd]; exact Bs.none_of (by omega) (by unfold maxLen; omega) (fun _ => rfl)
      · exact Bs.grown (hs.takeS (by omega)) hb (by intro z; simp) (by intro z; simp) (grown_set _ _ _ _)
    · go_ret
      refine ⟨_, rfl, grown_set _ _ _ _, ⟨_, _, _, rd_set0 hb, ?_, fun y hy => by cases hy; have := hH x rfl; unfold Addr.add; split <;> simpa using this⟩, ?_⟩
      · exact Bs.grown (hs.dropA (by omega)) hb (by intro z; simp) (by intro z; simp) (grown_set _ _ _ _)
      · exact Bs.grown (hs.takeS (by omega)) hb (by intro z; simp) (by intro z; simp) (grown_set _ _ _ _)

/-- One byte is taken. -/
theorem take_one (H g : Nat) (b : Int) (l : List Int) (w : World) (h : RdAt w H g (some (b :: l))) :
    Calls Try.prog 59 #[.pointer (some ⟨g, 0, none⟩), .int .i64 1] w fun e w' =>
      ∃ q o, e = .returned (.slice (some ⟨q, o, none⟩) 1 1) ∧ w.grownBy w' (some g) ∧ RdAt w' H g (some l) ∧ w'.cell? ⟨q, o, none⟩ = some (.int .u8 b) := by
  refine (take_yes H g (b :: l) 1 w h (by simp)).mono ?_
  rintro e w' ⟨a, rfl, hg, hr, hs⟩
  obtain ⟨q, o, rfl, hc⟩ := Sl.cells hs (by omega)
  exact ⟨q, o, rfl, hg, hr, by simpa using hc 0 (by omega)⟩

theorem rnum_nil (most : Int) (i acc : Nat) : rnum most i acc [] = none := by cases i <;> rfl

end

section
open Go.RowKit

/-- What is handed back behind a reading. -/
def fin (r : Option (Int × List Int)) : Int × Rd := match r with | none => (0, none) | some (n, r) => (n, some r)
theorem getNum_some (most : Int) (l : List Int) : getNum most (some l) = fin (rnum most 0 0 l) := by
  unfold getNum fin
  simp only []
  cases rnum most 0 0 l <;> rfl

def NumPost (w : World) (H g : Nat) (x : Int × Rd) (e : Ending) (w' : World) : Prop := e = .returned (.int .i64 x.1) ∧ w.grownBy w' (some g) ∧ RdAt w' H g x.2

theorem rnum_long (most : Int) (i acc : Nat) (b : Int) (r : List Int) (h : 128 ≤ b) (hi : i < 8) : rnum most i acc (b :: r) = rnum most (i + 1) (acc + (b % 128).toNat * 128 ^ i) r := by
  rw [rnum.eq_def]; simp only []; rw [if_neg (by omega), if_pos hi]
theorem rnum_last (most : Int) (acc : Nat) (b : Int) (r : List Int) (h : 128 ≤ b) : rnum most 8 acc (b :: r) = none := by
  rw [rnum.eq_def]; simp only []; rw [if_neg (by omega), if_neg (by omega)]
theorem rnum_bad (most : Int) (i acc : Nat) (b : Int) (r : List Int) (h : b < 128) (hb : b = 0 ∧ 0 < i ∨ 4611686018427387904 < acc + (b % 128).toNat * 128 ^ i ∨ most < (acc + (b % 128).toNat * 128 ^ i : Nat)) :
    rnum most i acc (b :: r) = none := by
  rw [rnum.eq_def]; simp only []; rw [if_pos h, if_pos hb]
theorem rnum_end (most : Int) (i acc : Nat) (b : Int) (r : List Int) (h : b < 128) (hb : ¬ (b = 0 ∧ 0 < i ∨ 4611686018427387904 < acc + (b % 128).toNat * 128 ^ i ∨ most < (acc + (b % 128).toNat * 128 ^ i : Nat))) :
    rnum most i acc (b :: r) = some (((acc + (b % 128).toNat * 128 ^ i : Nat) : Int), r) := by
  rw [rnum.eq_def]; simp only []; rw [if_pos h, if_neg hb]

set_option maxRecDepth 100000 in
theorem rdnum_some (H g : Nat) (l : List Int) (most : Int) (w : World) (h : RdAt w H g (some l)) (hl : IsBytes l) :
    Calls Try.prog 37 #[.pointer (some ⟨g, 0, none⟩), .int .i64 most] w (NumPost w H g (getNum most (some l))) := by
  go_enter Try.func37, Try.ntmps37
  go_wp2_with fail
  go_loopw [5, 6] (fun u sh wr => ∃ (i acc : Nat) (r : List Int), u = .int .u64 (acc : Int) ∧ sh = .int .i64 (7 * (i : Int)) ∧ acc < 128 ^ i ∧ IsBytes r ∧ RdAt wr H g (some r) ∧ w.grownBy wr (some g) ∧
    (i ≤ 8 ∧ rnum most 0 0 l = rnum most i acc r ∨ i = 9 ∧ rnum most 0 0 l = none)) (fun _ sh _ => (63 - intOf sh).toNat)
  case atStart => exact ⟨0, 0, l, rfl, rfl, by decide, hl, h, grown_refl _ _, .inl ⟨by omega, rfl⟩⟩
  case round =>
    obtain ⟨i, acc, r, rfl, rfl, ha, hb, hr, hg, hi⟩ := hrel
    rcases hi with ⟨hi, he⟩ | ⟨rfl, he⟩
    · have HE := Lib.hid he; clear he h hl
      cases r with
      | nil =>
        clear ha
        go_wp2_with (go_at_call 59; refine (take_no _ _ _ 1 _ hr (by intro l hl; cases hl; simp)).mono ?_; rintro e w1 ⟨rfl, hgr, hrd⟩)
        go_ret
        rw [getNum_some, HE.out, rnum_nil]
        exact ⟨rfl, grown_trans hg hgr, hrd⟩
      | cons b r =>
        obtain ⟨hb0, hb1⟩ := hb b (List.mem_cons_self ..)
        have hbr : IsBytes r := fun x hx => hb x (List.mem_cons_of_mem _ hx)
        have hand := and_127 b hb0 hb1
        have hor := or_shl acc i (b % 128) hi ha (by omega) (by omega)
        have hpi : (128 : Nat) ^ i ≤ 72057594037927936 := Nat.le_trans (Nat.pow_le_pow_right (by omega) hi) (by decide)
        have hprod : (b % 128).toNat * 128 ^ i ≤ 127 * 128 ^ i := Nat.mul_le_mul_right _ (by omega)
        obtain ⟨N, hN⟩ : ∃ N, N = acc + (b % 128).toNat * 128 ^ i := ⟨_, rfl⟩
        have hN1 : N < 128 ^ (i + 1) := by rw [hN, Nat.pow_succ]; omega
        have hNb : (N : Int) ≤ 9223372036854775807 := by omega
        rw [← hN] at hor
        have HN := Lib.hid hN; have HN1 := Lib.hid hN1; clear hN hN1 hprod hpi ha hb
        by_cases hlong : b < 128
        · by_cases h1 : (4611686018427387904 : Int) < N
          · skip
            go_wp2_with (first | (go_at_call 59; refine (take_one _ _ _ _ _ hr).mono ?_; rintro e w1 ⟨q, o, rfl, hgr, hrd, hcell⟩) | (go_at_call 60; refine (fail_any _ _ _ _ (by assumption)).mono ?_; rintro e w2 ⟨rfl, hgr2, hrd2⟩))
            go_ret
            rw [getNum_some, HE.out, rnum_bad _ _ _ _ _ hlong (by have := HN.out; omega)]
            exact ⟨rfl, grown_trans hg (grown_trans hgr hgr2), hrd2⟩
          · by_cases h2 : most < (N : Int)
            · skip
              go_wp2_with (first | (go_at_call 59; refine (take_one _ _ _ _ _ hr).mono ?_; rintro e w1 ⟨q, o, rfl, hgr, hrd, hcell⟩) | (go_at_call 60; refine (fail_any _ _ _ _ (by assumption)).mono ?_; rintro e w2 ⟨rfl, hgr2, hrd2⟩))
              go_ret
              rw [getNum_some, HE.out, rnum_bad _ _ _ _ _ hlong (by have := HN.out; omega)]
              exact ⟨rfl, grown_trans hg (grown_trans hgr hgr2), hrd2⟩
            · by_cases h3 : b = 0
              · by_cases h4 : i = 0
                · have hor0 : bits .or .u64 (acc : Int) (b % 128) = N := by
                    have e := hor
                    rw [h4, show b % 128 * 2 ^ (7 * 0) = b % 128 from by omega, IntWalk.u64_in _ ⟨by omega, by omega⟩] at e
                    exact e
                  have hi0 : 7 * (i : Int) ≤ 0 := by omega
                  have H4 := Lib.hid h4; clear h4
                  have hz : (b == 0) = true := by simp [h3]
                  clear h3
                  go_wp2_with (first | (go_at_call 59; refine (take_one _ _ _ _ _ hr).mono ?_; rintro e w1 ⟨q, o, rfl, hgr, hrd, hcell⟩) | (go_at_call 60; refine (fail_any _ _ _ _ (by assumption)).mono ?_; rintro e w2 ⟨rfl, hgr2, hrd2⟩))
                  go_ret
                  have hq := rnum_end most i acc b r hlong (by have := HN.out; have := WalkArith.int_eq hz; have := H4.out; omega)
                  rw [← HN.out] at hq
                  rw [getNum_some, HE.out, hq]
                  exact ⟨rfl, grown_trans hg hgr, hrd⟩
                · have hz : (b == 0) = true := by simp [h3]
                  have hi0 : (0 : Int) < 7 * (i : Int) := by omega
                  clear h3
                  go_wp2_with (first | (go_at_call 59; refine (take_one _ _ _ _ _ hr).mono ?_; rintro e w1 ⟨q, o, rfl, hgr, hrd, hcell⟩) | (go_at_call 60; refine (fail_any _ _ _ _ (by assumption)).mono ?_; rintro e w2 ⟨rfl, hgr2, hrd2⟩))
                  go_ret
                  rw [getNum_some, HE.out, rnum_bad _ _ _ _ _ hlong (by have := HN.out; have := WalkArith.int_eq hz; omega)]
                  exact ⟨rfl, grown_trans hg (grown_trans hgr hgr2), hrd2⟩
              · have hz : (b == 0) = false := by simpa using h3
                clear h3
                go_wp2_with (first | (go_at_call 59; refine (take_one _ _ _ _ _ hr).mono ?_; rintro e w1 ⟨q, o, rfl, hgr, hrd, hcell⟩) | (go_at_call 60; refine (fail_any _ _ _ _ (by assumption)).mono ?_; rintro e w2 ⟨rfl, hgr2, hrd2⟩))
                go_ret
                have hq := rnum_end most i acc b r hlong (by have := HN.out; have := WalkArith.int_ne hz; omega)
                rw [← HN.out] at hq
                rw [getNum_some, HE.out, hq]
                exact ⟨rfl, grown_trans hg hgr, hrd⟩
        · go_wp2_with (go_at_call 59; refine (take_one _ _ _ _ _ hr).mono ?_; rintro e w1 ⟨q, o, rfl, hgr, hrd, hcell⟩)
          go_roundw
          case rel =>
            refine ⟨i + 1, N, r, rfl, by go_num, HN1.out, hbr, hrd, grown_trans hg hgr, ?_⟩
            by_cases h8 : i = 8
            · right
              refine ⟨by omega, ?_⟩
              rw [HE.out, h8, rnum_last _ _ _ _ (by omega)]
            · left
              refine ⟨by omega, ?_⟩
              rw [HE.out, rnum_long _ _ _ _ _ (by omega) (by omega), ← HN.out]
          case measure => simp [intOf]; omega
    · have HE := Lib.hid he; clear he ha hb h hl
      go_wp2_with (go_at_call 60; refine (fail_any _ _ _ _ (by assumption)).mono ?_; rintro e w2 ⟨rfl, hgr2, hrd2⟩)
      go_ret
      rw [getNum_some, HE.out]
      exact ⟨rfl, grown_trans hg hgr2, hrd2⟩

set_option maxRecDepth 100000 in
theorem rdnum_none (H g : Nat) (most : Int) (w : World) (h : RdAt w H g none) :
    Calls Try.prog 37 #[.pointer (some ⟨g, 0, none⟩), .int .i64 most] w (NumPost w H g (getNum most none)) := by
  go_enter Try.func37, Try.ntmps37
  go_wp2_with fail
  refine wp_loop_rounds 1 ?_
  rw [rounds_succ]
  go_wp2_with (go_at_call 59; refine (take_no _ _ _ 1 _ h (by intro l hl; cases hl)).mono ?_; rintro e w1 ⟨rfl, hgr, hrd⟩)
  go_ret
  exact ⟨rfl, hgr, hrd⟩

def RdBytes (s : Rd) : Prop := ∀ l, s = some l → IsBytes l
theorem RdBytes.getNum {s : Rd} (h : RdBytes s) (most : Int) : RdBytes (getNum most s).2 := by
  cases s with
  | none => exact h
  | some l =>
    rw [getNum_some]
    suffices H : ∀ (l : List Int) (i acc : Nat), IsBytes l → ∀ n r, rnum most i acc l = some (n, r) → IsBytes r by
      intro m hm
      cases hr : rnum most 0 0 l with
      | none => rw [hr] at hm; cases hm
      | some x => rw [hr] at hm; cases hm; exact H l 0 0 (h l rfl) x.1 x.2 hr
    intro l
    induction l with
    | nil => intro i acc _ n r hr; rw [rnum_nil] at hr; cases hr
    | cons b t ih =>
      intro i acc hb n r hr
      have ht : IsBytes t := fun x hx => hb x (List.mem_cons_of_mem _ hx)
      rw [rnum.eq_def] at hr
      simp only [] at hr
      split at hr
      · split at hr
        · cases hr
        · cases hr; exact ht
      · split at hr
        · exact ih _ _ ht _ _ hr
        · cases hr

theorem rdnum_any (H g : Nat) (s : Rd) (most : Int) (w : World) (h : RdAt w H g s) (hs : RdBytes s) :
    Calls Try.prog 37 #[.pointer (some ⟨g, 0, none⟩), .int .i64 most] w (NumPost w H g (getNum most s)) := by
  cases s with
  | none => exact rdnum_none H g most w h
  | some l => exact rdnum_some H g l most w h (hs l rfl)

end

section
open Go.RowKit

theorem rnum_nonneg (most : Int) (l : List Int) : ∀ (i acc : Nat) (n : Int) (r : List Int), rnum most i acc l = some (n, r) → 0 ≤ n ∧ n ≤ most := by
  induction l with
  | nil => intro i acc n r h; rw [rnum_nil] at h; cases h
  | cons b t ih =>
    intro i acc n r h
    rw [rnum.eq_def] at h
    simp only [] at h
    split at h
    · split at h
      · cases h
      · cases h; omega
    · split at h
      · exact ih _ _ _ _ h
      · cases h
theorem getNum_nonneg (most : Int) (s : Rd) : 0 ≤ (getNum most s).1 := by
  cases s with
  | none => exact Int.le_refl _
  | some l =>
    rw [getNum_some]
    cases h : rnum most 0 0 l with
    | none => exact Int.le_refl _
    | some x => exact (rnum_nonneg most l 0 0 x.1 x.2 h).1

def TextPost (w : World) (H g : Nat) (x : List Int × Rd) (e : Ending) (w' : World) : Prop := e = .returned (.string (toS x.1)) ∧ w.grownBy w' (some g) ∧ RdAt w' H g x.2

set_option maxRecDepth 100000 in
theorem rdtext_any (H g : Nat) (s : Rd) (most : Int) (w : World) (h : RdAt w H g s) (hs : RdBytes s) :
    Calls Try.prog 38 #[.pointer (some ⟨g, 0, none⟩), .int .i64 most] w (TextPost w H g (getText most s)) := by
  have hnn := getNum_nonneg most s
  obtain ⟨x, hx⟩ : ∃ x, getNum most s = x := ⟨_, rfl⟩
  have hc0 := rdnum_any H g s most w h hs
  have hT : getText most s = textOf x := by unfold getText; rw [hx]
  have HT := Lib.hid hT
  rw [hx] at hnn hc0
  clear hT hx
  obtain ⟨n, st⟩ := x
  obtain ⟨k, rfl⟩ := Int.eq_ofNat_of_zero_le hnn
  clear hnn
  go_enter Try.func38, Try.ntmps38
  go_wp2_with fail
  refine hc0.mono ?_
  rintro e w1 ⟨rfl, hgr, hrd⟩
  by_cases hok : ∃ l, st = some l ∧ k ≤ l.length
  · obtain ⟨l, rfl, hkl⟩ := hok
    go_wp2_with (go_at_call 59; refine (take_yes H g l k _ hrd hkl).mono ?_; rintro e w2 ⟨a2, rfl, hgr2, hrd2, hbs2⟩; have hcv := conv_bs hbs2)
    go_ret
    rw [HT.out]
    simp only [textOf, Int.toNat_natCast, if_pos hkl]
    exact ⟨rfl, grown_trans hgr hgr2, hrd2⟩
  · have hno : ∀ l, st = some l → (l.length : Int) < (k : Int) := fun l hl => by
      have : ¬ k ≤ l.length := fun h => hok ⟨l, hl, h⟩
      omega
    have hcv : ∀ w, (convert 26 9 (.slice none 0 0)).run Try.prog w = .ok (.string (toS [])) w := fun w => conv_bs (Sl.empty w 1)
    have HN := Lib.hid hno; have HK := Lib.hid hok; clear hno hok
    go_wp2_with (go_at_call 59; refine (take_no H g st (k : Int) _ hrd HN.out).mono ?_; rintro e w2 ⟨rfl, hgr2, hrd2⟩)
    go_ret
    rw [HT.out]
    cases st with
    | none => exact ⟨rfl, grown_trans hgr hgr2, hrd2⟩
    | some l =>
      have : ¬ k ≤ l.length := fun h => HK.out ⟨l, rfl, h⟩
      simp only [textOf, Int.toNat_natCast, if_neg this]
      exact ⟨rfl, grown_trans hgr hgr2, hrd2⟩

def doneB (s : Rd) : Bool := match s with | some [] => true | _ => false
theorem rddone_any (H g : Nat) (s : Rd) (w : World) (h : RdAt w H g s) :
    Calls Try.prog 41 #[.pointer (some ⟨g, 0, none⟩)] w fun e w' => e = .returned (.bool (doneB s)) ∧ w = w' := by
  cases s with
  | none =>
    obtain ⟨hc, hf, hg⟩ := blk_cell (show w.heap[g]? = some (.cells #[.slice none 0 0, .bool true] 104 (0, 0)) from h)
    have c0 := hc 0; have c1 := hc 1
    simp at c0 c1
    go_enter Try.func41, Try.ntmps41
    go_wp2
    go_ret
    exact ⟨rfl, rfl⟩
  | some l =>
    obtain ⟨a, n, c, hb, hs, _⟩ := h
    obtain ⟨hc, hf, hg⟩ := blk_cell hb
    have c0 := hc 0; have c1 := hc 1
    simp at c0 c1
    have hl := Bs.length hs
    cases l with
    | nil =>
      obtain rfl : 0 = n := hl
      go_enter Try.func41, Try.ntmps41
      go_wp2
      go_ret
      exact ⟨rfl, rfl⟩
    | cons x t =>
      have h0 : ((n : Int) == 0) = false := by simp at hl; simp; omega
      clear hl
      go_enter Try.func41, Try.ntmps41
      go_wp2
      go_ret
      exact ⟨rfl, rfl⟩


end

section
open Go.RowKit

theorem cells_id (d : List Int) : ∀ v ∈ (idC d).toList, v.oneCell' = true := fun v hv => by
  simp [idC] at hv; obtain ⟨y, _, rfl⟩ := hv; rfl

@[go_sem ↓ high] theorem alloc_id (w : World) : (Instr.alloc 25 true (.tuple #[])).run Try.prog w = .ok (.pointer (some ⟨w.heap.size, 0, none⟩)) (w.alloc (.cells (idC zero32) 25)) := by kernel_rfl
@[go_sem ↓ high] theorem build_id (w : World) : (Instr.build 25 #[]).run Try.prog w = .ok (.agg (idC zero32)) w := by kernel_rfl
theorem size_id : (Try.prog.info? 25).map (·.size) = some 32 := by kernel_rfl

def IdPost (w : World) (H g : Nat) (x : List Int × Rd) (e : Ending) (w' : World) : Prop := e = .returned (.agg (idC x.1)) ∧ w.grownBy w' (some g) ∧ RdAt w' H g x.2

theorem RdAt.alloc {w : World} {H g : Nat} {s : Rd} (h : RdAt w H g s) (hH : H ≤ w.heap.size) (o : Obj) : RdAt (w.alloc o) H g s := by
  obtain ⟨a, n, c, b, hb⟩ := h.cells
  exact h.kept (Below.heap_alloc w o g (blk_cell hb).2.2) (fun k hk _ => Below.heap_alloc w o k (by omega))
theorem RdAt.drew {w : World} {H g : Nat} {s : Rd} (h : RdAt w H g s) : RdAt w.drew H g s := h.kept rfl (fun _ _ _ => rfl)
theorem RdAt.lt {w : World} {H g : Nat} {s : Rd} (h : RdAt w H g s) : g < w.heap.size := by
  obtain ⟨a, n, c, b, hb⟩ := h.cells
  exact (blk_cell hb).2.2

/-- 'copy(id[:], b)' of 32 bytes. -/
theorem step_copy32 {ops : Array Oper} {o : Oper} {a : Act} {w : World} {K : Act → World → Prop} {Q : Exit → Act → World → Prop} {E : Prop} (hgd : o.guard = none) (d s : Operand)
    (ho : o.op = .call { callee := .builtin .copy, args := #[d, s], argTypes := #[26, 26] }) (q : Nat) (sp : Option Addr) (l : List Int)
    (hd : a.eval d = .slice (some ⟨q, 0, none⟩) 32 32) (hs : a.eval s = .slice sp 32 32) (cur : Array Value) (t : TypeId) (hg : w.heap[q]? = some (.cells cur t (0, 0))) (hc : cur.size = 32) (hb : Bs w sp 32 32 l)
    (h : ∀ w', w'.heap[q]? = some (.cells (idC l) t (0, 0)) → w.grownBy w' (some q) → w'.heap.size = w.heap.size → K (a.put o.dst (goInt 32)) w') :
    if Region.wanted o (yielded ops a.tmps) = true then Oper.wp Try.prog o a w K Q else E := by
  have hl := hb.length
  obtain ⟨b, off, rfl, hcells⟩ := Sl.cells hb (by omega)
  have hrun := run_copy_row (P := Try.prog) w 26 26 o.type 5 q 0 32 32 ⟨b, off, none⟩ 32 32 cur t (l.map (Value.int .u8)) Try.underlying26 (by kernel_rfl) hg (by simp [hl])
    (fun j v hv => by
      have hj : j < 32 := by
        rcases Nat.lt_or_ge j 32 with h | h
        · exact h
        · rw [List.getElem?_eq_none (by simp; omega)] at hv; cases hv
      have e : (⟨b, off, none⟩ : Addr).add j = ⟨b, off + j, none⟩ := by unfold Addr.add; split <;> simp_all
      rw [e, hcells j (by omega), hv]) (by simp; omega) (fun v hv => by simp at hv; obtain ⟨y, _, rfl⟩ := hv; rfl)
  have hdrop : cur.toList.drop 32 = [] := List.drop_eq_nil_of_le (by simp; omega)
  simp [hl, hdrop] at hrun
  have hK := h (w.setRow q (idC l)) (setRow_heap w q cur _ t _ hg) ⟨rfl, rfl, rfl, by simp, fun k _ hk => setRow_other w q k _ (fun e => hk (by rw [e]))⟩ (by simp)
  refine step_of_wp hgd ?_
  unfold Oper.wp
  simp [execOp, ho, resolve, invoke, builtin, hd, hs, hrun, Result.andThen]
  exact hK
/-- 'copy(id[:], nil)'. -/
theorem step_copy0 {ops : Array Oper} {o : Oper} {a : Act} {w : World} {K : Act → World → Prop} {Q : Exit → Act → World → Prop} {E : Prop} (hgd : o.guard = none) (d s : Operand)
    (ho : o.op = .call { callee := .builtin .copy, args := #[d, s], argTypes := #[26, 26] }) (dp : Option Addr) (n c : Nat)
    (hd : a.eval d = .slice dp n c) (hs : a.eval s = .slice none 0 0) (h : K (a.put o.dst (goInt 0)) w) :
    if Region.wanted o (yielded ops a.tmps) = true then Oper.wp Try.prog o a w K Q else E := by
  have hrun := run_copy_none (P := Try.prog) w 26 26 o.type 5 dp none n c 0 0 Try.underlying26 (by kernel_rfl) (by simp)
  refine step_of_wp hgd ?_
  unfold Oper.wp
  simp [execOp, ho, resolve, invoke, builtin, hd, hs, hrun, Result.andThen]
  exact h

theorem grown_at {w w' : World} {g q : Nat} {c : Array Value} {t : TypeId} (h : w.grownBy w' (some g)) (hq : w.heap[q]? = some (.cells c t (0, 0))) (hne : q ≠ g) : w'.heap[q]? = some (.cells c t (0, 0)) :=
  (h.block q (blk_cell hq).2.2 (by simpa using hne)).trans hq
theorem RdAt.grown' {w w' : World} {H g q : Nat} {s : Rd} (h : RdAt w H g s) (k : w.grownBy w' (some q)) (hg : q ≠ g) (hq : H ≤ q) (hH : H ≤ w.heap.size) : RdAt w' H g s := by
  obtain ⟨a, n, c, b, hb⟩ := h.cells
  exact h.kept (k.block g (blk_cell hb).2.2 (by simpa using Ne.symm hg)) (fun j hj _ => k.block j (by omega) (by simp; omega))
theorem id_len {s : Rd} (h : RdBytes s) : (getId s).1.length = 32 := by
  cases s with
  | none => simp [getId, zero32]
  | some l =>
    unfold getId
    simp only []
    split
    · simp; omega
    · simp [zero32]

set_option maxRecDepth 100000 in
theorem rdid_any (H g : Nat) (s : Rd) (w : World) (h : RdAt w H g s) (hH : H ≤ w.heap.size) :
    Calls Try.prog 39 #[.pointer (some ⟨g, 0, none⟩)] w (IdPost w H g (getId s)) := by
  have hA := (h.alloc hH (.cells (idC zero32) 25)).drew
  have hg := h.lt
  have hq0 : (w.alloc (.cells (idC zero32) 25)).drew.heap[w.heap.size]? = some (.cells (idC zero32) 25 (0, 0)) := heap_alloc_new w _
  have hgr0 : w.grownBy (w.alloc (.cells (idC zero32) 25)).drew (some g) := grown_below (((Below.refl _ _).alloc (Nat.le_refl _) _).drew)
  have hne : w.heap.size ≠ g := by omega
  by_cases hok : ∃ l, s = some l ∧ 32 ≤ l.length
  · obtain ⟨l, rfl, hl⟩ := hok
    have hsz : (idC (l.take 32)).size = 32 := by simp [idC]; omega
    have hex : (idC (l.take 32)).extract 0 (0 + 32) = idC (l.take 32) := by apply Array.ext (by simp; omega); intro i h1 h2; simp
    have hput : put (idC (l.take 32)) 0 (idC (l.take 32)) = idC (l.take 32) := put_whole _ _ rfl
    have hcs := cells_id (l.take 32)
    have hi32 : (Try.prog.info? 25).map (·.size) = some (idC (l.take 32)).size := by rw [hsz]; exact size_id
    go_enter Try.func39, Try.ntmps39
    go_wp2_with fail
    go_region_law (first
      | (refine step_copy32 rfl _ _ rfl w.heap.size _ (l.take 32) rfl rfl (idC zero32) 25 (by assumption) rfl (by assumption) ?_; intro w2 hq2 hgr2 hsz2)
      | (go_simp; go_at_call 59; refine (take_yes H g l 32 _ hA hl).mono ?_; rintro e w1 ⟨a1, rfl, hgr, hrd, hbs⟩; have hq1 := grown_at hgr hq0 hne))
    have HH := Lib.hid hsz; have HX := Lib.hid hex; have HP := Lib.hid hput; have HI := Lib.hid hi32; clear hsz hex hput hi32
    go_wp2_with (first
      | (with_reducible show wpList _ _ _ _ _ _; refine wpList_load_seg rfl 25 _ rfl w.heap.size 0 rfl 25 (idC (l.take 32)) (0, 0) _ 32 hq2 (by rw [HH.out]; omega) Try.underlying25 rfl size_id (idC (l.take 32)) HX.out ?_)
      | (with_reducible show wpList _ _ _ _ _ _; refine wpList_store_seg rfl 25 _ _ rfl rfl w.heap.size 0 rfl (idC (l.take 32)) rfl 25 (idC (l.take 32)) hq2 (by omega) HI.out hcs _ HP.out ?_; intro w3 hq3 hgr3 hsz3))
    refine bodyPost_ret (results_cell_row rfl _ _ _ 25 _ (0, 0) _ rfl hq3 Try.underlying25 rfl HI.out) rfl ?_
    have hgb : w.grownBy w3 (some g) := by
      have h1 := grown_trans hgr0 hgr
      refine ⟨hgr3.os.trans (hgr2.os.trans h1.os), hgr3.tape.trans (hgr2.tape.trans h1.tape), hgr3.output.trans (hgr2.output.trans h1.output), Nat.le_trans h1.size (Nat.le_trans hgr2.size hgr3.size), fun k hk hkg => ?_⟩
      have hkq : some k ≠ some w.heap.size := by simp; omega
      have hk1 : k < w1.heap.size := Nat.lt_of_lt_of_le hk h1.size
      exact (hgr3.block k (Nat.lt_of_lt_of_le hk1 hgr2.size) hkq).trans ((hgr2.block k hk1 hkq).trans (h1.block k hk hkg))
    have hgs : getId (some l) = (l.take 32, some (l.drop 32)) := by simp [getId, hl]
    rw [hgs]
    have s1 := hgr.size
    have s2 := hgr2.size
    simp at s1
    exact ⟨rfl, hgb, (hrd.grown' hgr2 hne hH (by omega)).grown' hgr3 hne hH (by omega)⟩
  · have hno : ∀ l, s = some l → (l.length : Int) < 32 := fun l hl => by
      have : ¬ 32 ≤ l.length := fun h => hok ⟨l, hl, h⟩
      omega
    have hgs : getId s = (zero32, none) := by
      cases s with
      | none => rfl
      | some l => have := hno l rfl; simp [getId]; omega
    have HN := Lib.hid hno; have HK := Lib.hid hok; have HG := Lib.hid hgs; clear hno hok hgs
    have hsz : (idC zero32).size = 32 := rfl
    have hex : (idC zero32).extract 0 (0 + 32) = idC zero32 := rfl
    have hput : put (idC zero32) 0 (idC zero32) = idC zero32 := put_whole _ _ rfl
    have hcs := cells_id zero32
    have hi32 : (Try.prog.info? 25).map (·.size) = some (idC zero32).size := by rw [hsz]; exact size_id
    have HH := Lib.hid hsz; have HX := Lib.hid hex; have HP := Lib.hid hput; have HI := Lib.hid hi32; clear hsz hex hput hi32
    go_enter Try.func39, Try.ntmps39
    go_wp2_with fail
    go_region_law (first
      | (refine step_copy0 rfl _ _ rfl _ 32 32 rfl rfl ?_)
      | (go_simp; go_at_call 59; refine (take_no H g s 32 _ hA HN.out).mono ?_; rintro e w1 ⟨rfl, hgr, hrd⟩; have hq1 := grown_at hgr hq0 hne))
    go_wp2_with (first
      | (with_reducible show wpList _ _ _ _ _ _; refine wpList_load_seg rfl 25 _ rfl w.heap.size 0 rfl 25 (idC zero32) (0, 0) _ 32 hq1 (by rw [HH.out]; omega) Try.underlying25 rfl size_id (idC zero32) HX.out ?_)
      | (with_reducible show wpList _ _ _ _ _ _; refine wpList_store_seg rfl 25 _ _ rfl rfl w.heap.size 0 rfl (idC zero32) rfl 25 (idC zero32) hq1 (by omega) HI.out hcs _ HP.out ?_; intro w3 hq3 hgr3 hsz3))
    refine bodyPost_ret (results_cell_row rfl _ _ _ 25 _ (0, 0) _ rfl hq3 Try.underlying25 rfl HI.out) rfl ?_
    have hgb : w.grownBy w3 (some g) := by
      have h1 := grown_trans hgr0 hgr
      refine ⟨hgr3.os.trans h1.os, hgr3.tape.trans h1.tape, hgr3.output.trans h1.output, Nat.le_trans h1.size hgr3.size, fun k hk hkg => ?_⟩
      have hkq : some k ≠ some w.heap.size := by simp; omega
      exact (hgr3.block k (Nat.lt_of_lt_of_le hk h1.size) hkq).trans (h1.block k hk hkg)
    have s1 := hgr.size
    simp at s1
    rw [HG.out]
    exact ⟨rfl, hgb, hrd.grown' hgr3 hne hH (by omega)⟩

end

section
open Go.RowKit

/-- A reader of new bytes at block g. -/
def NewRd (w : World) (l : List Int) (e : Ending) (w' : World) : Prop :=
  ∃ g, e = .returned (.pointer (some ⟨g, 0, none⟩)) ∧ Below w.heap.size w w' ∧ RdAt w' g g (some l) ∧ w.heap.size ≤ g ∧ g < w'.heap.size

set_option maxRecDepth 100000 in
theorem read_any (a : Option Addr) (n c : Nat) (l : List Int) (w : World) (h : Bs w a n c l) (hl : l.length ≤ 140737488355328) :
    Calls Try.prog 35 #[.slice a n c] w (NewRd w l) := by
  go_enter Try.func35, Try.ntmps35
  go_wp2_with (go_at_call 55; refine (clone_bytes _ _ _ _ _ h hl).mono ?_; rintro e w1 ⟨a1, k1, c1, rfl, hb, hown⟩)
  go_ret
  have hs := own_bs hown
  have hlt := World.ownsRow.lt hown
  refine ⟨w1.heap.size, rfl, hb.alloc hb.size _, ⟨a1, k1, c1, heap_alloc_new w1 _, Sl.alloc hs _, fun x hx => ?_⟩, hb.size, by simp⟩
  subst hx
  exact (hlt x.block rfl).2

theorem set2 {w : World} {q : Nat} {x y u v : Value} {t : TypeId} (h : w.heap[q]? = some (.cells #[x, y] t (0, 0))) : ((w.setCell ⟨q, 0, none⟩ u).setCell ⟨q, 1, none⟩ v).heap[q]? = some (.cells #[u, v] t (0, 0)) :=
  (heap_setCell_same _ q 1 _ _ v ((heap_setCell_same w q 0 _ _ u h).trans rfl)).trans rfl

end

section
end

end Go.Proofs.Ytfjbmgfkfeehnaa
