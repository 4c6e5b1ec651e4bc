/- A reader of bytes: what its methods do to it. -/
import Derived.Test.YtfjbmgfkfeehnaaEncW
namespace Go.Proofs.Ytfjbmgfkfeehnaa
open Go.RowKit

/-- At block g lies a reader in this state; its bytes lie in a block below H. -/
def RdAt (w : World) (H g : Nat) : Rd → Prop
  | none => w.heap[g]? = some (.cells #[.slice none 0 0, .bool true] 104 (0, 0))
  | some l => ∃ a n c, w.heap[g]? = some (.cells #[.slice a n c, .bool false] 104 (0, 0)) ∧ Bs w a n c l ∧ ∀ x, a = some x → x.block < H

theorem RdAt.cells {w : World} {H g : Nat} {s : Rd} (h : RdAt w H g s) : ∃ a n c b, w.heap[g]? = some (.cells #[.slice a n c, .bool b] 104 (0, 0)) := by
  cases s with
  | none => exact ⟨_, _, _, _, h⟩
  | some l => obtain ⟨a, n, c, h, _⟩ := h; exact ⟨_, _, _, _, h⟩

/-- What lies below H, and the reader's own block, are as they were. -/
theorem RdAt.kept {w w' : World} {H g : Nat} {s : Rd} (h : RdAt w H g s) (hg : w'.heap[g]? = w.heap[g]?) (hb : ∀ k, k < H → k ≠ g → w'.heap[k]? = w.heap[k]?) : RdAt w' H g s := by
  cases s with
  | none => exact hg.trans h
  | some l =>
    obtain ⟨a, n, c, hc, hs, hx⟩ := h
    refine ⟨a, n, c, hg.trans hc, ?_, hx⟩
    refine ⟨hs.len, hs.le, hs.cap, hs.nil, fun hn => ?_⟩
    obtain ⟨b, off, ha, hcc⟩ := Sl.cells hs hn
    refine ⟨b, off, ha, fun j hj => ?_⟩
    rw [← hcc j hj]
    refine World.cell?_of_block (w := w) (w' := w') (a := ⟨b, off + j, none⟩) ?_
    by_cases e : b = g
    · subst e; exact hg
    · exact hb b (hx _ ha) e

theorem blk_cell {w : World} {g : Nat} {cs : Array Value} {t : TypeId} (h : w.heap[g]? = some (.cells cs t (0, 0))) :
    (∀ j, w.cell? ⟨g, j, none⟩ = cs[j]?) ∧ (∀ j, w.frozen? ⟨g, j, none⟩ = false) ∧ g < w.heap.size :=
  ⟨fun j => cell_of_row w g j cs t (0, 0) h, fun j => frozen_of_row w g j cs t h, by
    rcases Nat.lt_or_ge g w.heap.size with hh | hh
    · exact hh
    · rw [Array.getElem?_eq_none hh] at h; cases h⟩

/-- Two stores into a reader's block. -/
theorem rd_set0 {w : World} {g : Nat} {x y u : Value} (h : w.heap[g]? = some (.cells #[x, y] 104 (0, 0))) : (w.setCell ⟨g, 0, none⟩ u).heap[g]? = some (.cells #[u, y] 104 (0, 0)) :=
  (heap_setCell_same w g 0 _ _ u h).trans rfl
theorem rd_set1 {w : World} {g : Nat} {x y u : Value} (h : w.heap[g]? = some (.cells #[x, y] 104 (0, 0))) : (w.setCell ⟨g, 1, none⟩ u).heap[g]? = some (.cells #[x, u] 104 (0, 0)) :=
  (heap_setCell_same w g 1 _ _ u h).trans rfl

theorem grown_refl (w : World) (r : Option Nat) : w.grownBy w r := ⟨rfl, rfl, rfl, Nat.le_refl _, fun _ _ _ => rfl⟩
theorem grown_trans {a b c : World} {r : Option Nat} (h : a.grownBy b r) (k : b.grownBy c r) : a.grownBy c r :=
  ⟨k.os.trans h.os, k.tape.trans h.tape, k.output.trans h.output, Nat.le_trans h.size k.size, fun i hi hr => (k.block i (Nat.lt_of_lt_of_le hi h.size) hr).trans (h.block i hi hr)⟩
theorem grown_set (w : World) (g o : Nat) (u : Value) : w.grownBy (w.setCell ⟨g, o, none⟩ u) (some g) :=
  ⟨rfl, rfl, rfl, by simp [World.setCell], fun k _ hk => Below.heap_setCell _ _ _ _ (fun e => hk (by rw [e]))⟩
theorem grown_below {a b : World} {r : Option Nat} (h : Below a.heap.size a b) : a.grownBy b r := ⟨h.os, h.tape, h.output, h.size, fun k hk _ => h.block k hk⟩
theorem below_grown {w a b : World} {g : Nat} (h : Below w.heap.size w a) (k : a.grownBy b (some g)) (hg : w.heap.size ≤ g) : Below w.heap.size w b :=
  h.grown k h.size (fun j hj => by cases hj; exact hg)

/-- Bytes do not lie in a reader's block: they stay. -/
theorem Bs.grown {w w' : World} {g : Nat} {a : Option Addr} {n c : Nat} {l : List Int} {x y : Value} {t : TypeId} (h : Bs w a n c l) (hg : w.heap[g]? = some (.cells #[x, y] t (0, 0)))
    (hx : ∀ z, x ≠ .int .u8 z) (hy : ∀ z, y ≠ .int .u8 z) (k : w.grownBy w' (some g)) : Bs w' a n c l := by
  refine ⟨h.len, h.le, h.cap, h.nil, fun hn => ?_⟩
  obtain ⟨b, off, ha, hc⟩ := Sl.cells h hn
  refine ⟨b, off, ha, fun j hj => ?_⟩
  have hl := h.length
  have hv := hc j hj
  have hne : b ≠ g := by
    rintro rfl
    rw [cell_of_row w b _ _ t (0, 0) hg, List.getElem?_map, List.getElem?_eq_getElem (by omega)] at hv
    simp only [Option.map_some] at hv
    generalize hq : off + j = q at hv
    match q, hv with
    | 0, hv => simp at hv; exact hx _ hv
    | 1, hv => simp at hv; exact hy _ hv
    | q + 2, hv => simp at hv
  rw [List.getElem?_map, List.getElem?_eq_getElem (by omega)] at hv ⊢
  exact k.cell hv (by simpa using hne)

theorem Bs.takeS {w : World} {x : Addr} {k c n : Nat} {l : List Int} (h : Bs w (some x) k c l) (hn : n ≤ k) : Bs w (some x) n n (l.take n) := by
  have hl := h.length
  refine ⟨by simp; omega, Nat.le_refl _, Nat.le_trans (Nat.le_trans hn h.le) h.cap, fun e => (by cases e), fun h0 => ?_⟩
  obtain ⟨b, off, ha, hc⟩ := Sl.cells h (by omega)
  refine ⟨b, off, ha, fun j hj => ?_⟩
  rw [hc j (by omega)]
  simp only [List.getElem?_map, List.getElem?_take]
  rw [if_pos (by omega)]
theorem Bs.dropA {w : World} {x : Addr} {k c n : Nat} {l : List Int} (h : Bs w (some x) k c l) (hn : n ≤ k) : Bs w (some (x.add n)) (k - n) (c - n) (l.drop n) := by
  have hl := h.length
  have := h.le
  have := h.cap
  refine ⟨by simp; omega, by omega, by omega, fun e => (by cases e), fun h0 => ?_⟩
  obtain ⟨b, off, ha, hc⟩ := Sl.cells h (by omega)
  cases ha
  refine ⟨b, off + n, by unfold Addr.add; split <;> simp_all, fun j hj => ?_⟩
  rw [show off + n + j = off + (n + j) from by omega, hc (n + j) (by omega)]
  simp only [List.getElem?_map, List.getElem?_drop]
theorem Bs.none_of {w : World} {a : Option Addr} {k c : Nat} (hk : k = 0) (hc : c ≤ maxLen) (ha : a = none → c = 0) : Bs w a k c [] := by
  subst hk
  exact ⟨by simp, Nat.zero_le _, hc, ha, fun h => absurd h (by omega)⟩

theorem fail_any (H g : Nat) (s : Rd) (w : World) (h : RdAt w H g s) :
    Calls Try.prog 60 #[.pointer (some ⟨g, 0, none⟩)] w fun e w' => e = .returned (.tuple #[]) ∧ w.grownBy w' (some g) ∧ RdAt w' H g none := by
  obtain ⟨a, n, c, b, hb⟩ := h.cells
  obtain ⟨hc, hf, hg⟩ := blk_cell hb
  have c0 := hc 0; have c1 := hc 1; have f0 := hf 0; have f1 := hf 1
  simp at c0 c1
  have HB := Lib.hid hb
  clear hc hf hb h
  go_enter Try.func60, Try.ntmps60
  go_wp2
  go_end0
  exact ⟨rfl, grown_trans (grown_set _ _ _ _) (grown_set _ _ _ _), rd_set1 (rd_set0 HB.out)⟩

/-- So many bytes aren't there. -/
theorem take_no (H g : Nat) (s : Rd) (n : Int) (w : World) (h : RdAt w H g s) (hn : ∀ l, s = some l → (l.length : Int) < n) :
    Calls Try.prog 59 #[.pointer (some ⟨g, 0, none⟩), .int .i64 n] w fun e w' => e = .returned (.slice none 0 0) ∧ w.grownBy w' (some g) ∧ RdAt w' H g none := by
  have h0 := h
  cases s with
  | none =>
    obtain ⟨hc, hf, hg⟩ := blk_cell (show w.heap[g]? = some (.cells #[.slice none 0 0, .bool true] 104 (0, 0)) from h)
    have c0 := hc 0; have c1 := hc 1; have f0 := hf 0; have f1 := hf 1
    simp at c0 c1
    clear hc hf hn h
    go_enter Try.func59, Try.ntmps59
    go_wp2_with (go_at_call 60; refine (fail_any _ _ _ _ h0).mono ?_; rintro e w1 ⟨rfl, hgr, hrd⟩)
    go_ret
    exact ⟨rfl, hgr, hrd⟩
  | some l =>
    obtain ⟨a, k, c, hb, hs, hH⟩ := h
    obtain ⟨hc, hf, hg⟩ := blk_cell hb
    have c0 := hc 0; have c1 := hc 1; have f0 := hf 0; have f1 := hf 1
    simp at c0 c1
    have hk : (k : Int) < n := by have := hn l rfl; have := hs.length; omega
    clear hc hf hn hb hs
    go_enter Try.func59, Try.ntmps59
    go_wp2_with (go_at_call 60; refine (fail_any _ _ _ _ h0).mono ?_; rintro e w1 ⟨rfl, hgr, hrd⟩)
    go_ret
    exact ⟨rfl, hgr, hrd⟩

/-- Bytes are taken. -/
theorem take_yes (H g : Nat) (l : List Int) (n : Nat) (w : World) (h : RdAt w H g (some l)) (hn : n ≤ l.length) :
    Calls Try.prog 59 #[.pointer (some ⟨g, 0, none⟩), .int .i64 (n : Int)] w fun e w' =>
      ∃ a, e = .returned (.slice a n n) ∧ w.grownBy w' (some g) ∧ RdAt w' H g (some (l.drop n)) ∧ Bs w' a n n (l.take n) := by
  obtain ⟨a, k, c, hb, hs, hH⟩ := h
  obtain ⟨hc, hf, hg⟩ := blk_cell hb
  have c0 := hc 0; have c1 := hc 1; have f0 := hf 0; have f1 := hf 1
  simp at c0 c1
  have hk := hs.length
  have hkc := hs.le
  have hm := hs.cap
  unfold maxLen at hm
  have hnk : (n : Int) ≤ (k : Int) := by omega
  cases a with
  | none =>
    obtain rfl := hs.nil rfl
    obtain rfl : k = 0 := by omega
    obtain rfl : n = 0 := by omega
    obtain rfl : l = [] := List.eq_nil_of_length_eq_zero hk
    clear hc hf hk hkc hm
    go_enter Try.func59, Try.ntmps59
    go_wp2
    go_ret
    exact ⟨_, rfl, grown_set _ _ _ _, ⟨_, _, _, rd_set0 hb, Sl.empty _ _, fun _ e => (by cases e)⟩, Sl.empty _ _⟩
  | some x =>
    have HK := Lib.hid hk
    clear hc hf hk
    go_enter Try.func59, Try.ntmps59
    go_wp2
    · go_ret
      have hkn : k = n := by omega
      have hd : l.drop n = [] := List.drop_eq_nil_of_le (by have := HK.out; omega)
      refine ⟨_, rfl, grown_set _ _ _ _, ⟨_, _, _, rd_set0 hb, ?_, fun y hy => hH y hy⟩, ?_⟩
      · rw [hd]; exact Bs.none_of (by omega) (by unfold maxLen; omega) (fun _ => rfl)
      · exact Bs.grown (hs.takeS (by omega)) hb (by intro z; simp) (by intro z; simp) (grown_set _ _ _ _)
    · go_ret
      refine ⟨_, rfl, grown_set _ _ _ _, ⟨_, _, _, rd_set0 hb, ?_, fun y hy => by cases hy; have := hH x rfl; unfold Addr.add; split <;> simpa using this⟩, ?_⟩
      · exact Bs.grown (hs.dropA (by omega)) hb (by intro z; simp) (by intro z; simp) (grown_set _ _ _ _)
      · exact Bs.grown (hs.takeS (by omega)) hb (by intro z; simp) (by intro z; simp) (grown_set _ _ _ _)

/-- One byte is taken. -/
theorem take_one (H g : Nat) (b : Int) (l : List Int) (w : World) (h : RdAt w H g (some (b :: l))) :
    Calls Try.prog 59 #[.pointer (some ⟨g, 0, none⟩), .int .i64 1] w fun e w' =>
      ∃ q o, e = .returned (.slice (some ⟨q, o, none⟩) 1 1) ∧ w.grownBy w' (some g) ∧ RdAt w' H g (some l) ∧ w'.cell? ⟨q, o, none⟩ = some (.int .u8 b) := by
  refine (take_yes H g (b :: l) 1 w h (by simp)).mono ?_
  rintro e w' ⟨a, rfl, hg, hr, hs⟩
  obtain ⟨q, o, rfl, hc⟩ := Sl.cells hs (by omega)
  exact ⟨q, o, rfl, hg, hr, by simpa using hc 0 (by omega)⟩

theorem rnum_nil (most : Int) (i acc : Nat) : rnum most i acc [] = none := by cases i <;> rfl

end Go.Proofs.Ytfjbmgfkfeehnaa
