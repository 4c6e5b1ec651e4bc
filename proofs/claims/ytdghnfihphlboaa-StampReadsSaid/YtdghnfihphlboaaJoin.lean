/- Bytes put together, the document's way: Join, Num, Text, Id. -/
import Derived.Test.YtdghnfihphlboaaBox
namespace Go.Proofs.Ytdghnfihphlboaa
open Go.RowKit

theorem take_snoc' {l : List Int} {k : Nat} {x : Int} (h : l[k]? = some x) : l.take (k + 1) = l.take k ++ [x] := by
  obtain ⟨hk, rfl⟩ := List.getElem?_eq_some_iff.1 h
  rw [List.take_succ_eq_append_getElem hk]
theorem Bs.cellAt {w : World} {a : Option Addr} {n c : Nat} {l : List Int} (h : Bs w a n c l) {k : Nat} (hk : k < n) :
    ∃ b off x, a = some ⟨b, off, none⟩ ∧ l[k]? = some x ∧ w.cell? ⟨b, off + k, none⟩ = some (.int .u8 x) := by
  have hl := h.length
  obtain ⟨b, off, ha, hc⟩ := h.cells (by omega)
  obtain ⟨x, hx⟩ : ∃ x, l[k]? = some x := ⟨_, List.getElem?_eq_getElem (by omega)⟩
  refine ⟨b, off, x, ha, hx, ?_⟩
  rw [hc k (by omega), List.getElem?_map, hx]
  rfl

set_option maxRecDepth 100000 in
theorem join_any (a : Option Addr) (n c : Nat) (l : List Int) (a' : Option Addr) (n' c' : Nat) (l' : List Int) (w : World) (h : Bs w a n c l) (h' : Bs w a' n' c' l') (hl : l.length + l'.length ≤ 140737488355328) :
    Calls Try.prog 24 #[.slice a n c, .slice a' n' c'] w (RetB w (l ++ l')) := by
  have hle := h.le
  have hcap := h.cap
  have hle' := h'.le
  have hcap' := h'.cap
  have hl1 := h.length
  have hl2 := h'.length
  have hn : n ≤ 140737488355328 := by omega
  have hn' : n' ≤ 140737488355328 := by omega
  have HL := Lib.hid hl; have HL1 := Lib.hid hl1; have HL2 := Lib.hid hl2
  clear hl hle hcap hle' hcap' hl1 hl2
  have hown : (w.alloc (.cells #[] 5)).ownsRow w.heap.size 5 1 (.slice (some ⟨w.heap.size, 0, none⟩) 0 0) 0 [] := World.ownsRow_made _ _ _ (Nat.le_refl _) (Nat.zero_le _) rfl
  have hB0 : Below w.heap.size w (w.alloc (.cells #[] 5)) := (Below.refl _ _).alloc (Nat.le_refl _) _
  go_enter Try.func24, Try.ntmps24
  go_wp2_with fail
  go_loopw [5, 6] (fun v i wr => ∃ k : Nat, k ≤ n ∧ i = .int .i64 k ∧ wr.ownsRow w.heap.size 5 1 v k ((l.take k).map (Value.int .u8)) ∧ Below w.heap.size w wr) (fun _ i _ => n - (intOf i).toNat)
  case atStart => exact ⟨0, Nat.zero_le _, rfl, by simpa using hown, hB0⟩
  case round =>
    clear hown hB0
    obtain ⟨k, hk, rfl, hownr, hB⟩ := hrel
    have hbs := hB.size
    by_cases hkn : k < n
    · obtain ⟨b, off, x, rfl, hx, hc⟩ := h.cellAt hkn
      have g := Below.old hB (Nat.le_refl _) hc
      have hpl : k + 1 ≤ 140737488355328 := by omega
      have HX := Lib.hid hx
      clear hx hc
      go_wp2_with (at_builtin; refine app_byte rfl _ _ rfl w.heap.size _ _ _ rfl (hownr.alloc _) wr.heap.size 1 _ rfl (cell_one_new _ _ _ 0 _ rfl) hpl (by simp; omega) ?_; intro v' w1 hown' hgrow)
      go_roundw
      case rel =>
        refine ⟨k + 1, by omega, by go_num, ?_, ?_⟩
        · rw [take_snoc' HX.out, List.map_append]; exact hown'
        · exact (hB.alloc hB.size _).grown hgrow (by simp; omega) (fun k hk => ((World.ownsRow.lt hownr) k hk).1)
      case measure => simp [intOf]; omega
    · obtain rfl : k = n := by omega
      go_wp2_with fail
      go_loopw [5, 7] (fun v i wr => ∃ j : Nat, j ≤ n' ∧ i = .int .i64 j ∧ wr.ownsRow w.heap.size 5 1 v (k + j) ((l ++ l'.take j).map (Value.int .u8)) ∧ Below w.heap.size w wr) (fun _ i _ => n' - (intOf i).toNat)
      case atStart => exact ⟨0, Nat.zero_le _, rfl, by rw [List.take_zero, List.append_nil]; rw [List.take_of_length_le (by rw [HL1.out]; exact Nat.le_refl _)] at hownr; exact hownr, hB⟩
      case round =>
        clear hownr hB hbs
        obtain ⟨j, hj, rfl, hownr, hB⟩ := hrel
        have hbs := hB.size
        by_cases hjn : j < n'
        · obtain ⟨b, off, x, rfl, hx, hc⟩ := h'.cellAt hjn
          have g := Below.old hB (Nat.le_refl _) hc
          have hpl : k + j + 1 ≤ 140737488355328 := by have h1 := HL.out; have h2 := HL1.out; have h3 := HL2.out; omega
          have HX := Lib.hid hx
          clear hx hc
          go_wp2_with (at_builtin; refine app_byte rfl _ _ rfl w.heap.size _ _ _ rfl (hownr.alloc _) wr.heap.size 1 _ rfl (cell_one_new _ _ _ 0 _ rfl) hpl (by simp; omega) ?_; intro v' w1 hown' hgrow)
          go_roundw
          case rel =>
            refine ⟨j + 1, by omega, by go_num, ?_, ?_⟩
            · rw [take_snoc' HX.out, ← List.append_assoc, List.map_append, ← Nat.add_assoc]; exact hown'
            · exact (hB.alloc hB.size _).grown hgrow (by simp; omega) (fun k hk => ((World.ownsRow.lt hownr) k hk).1)
          case measure => simp [intOf]; omega
        · obtain rfl : j = n' := by omega
          go_wp2_with fail
          go_ret
          refine RetB.mk hB hownr ?_
          rw [List.take_of_length_le (by rw [HL2.out]; exact Nat.le_refl _)]

end Go.Proofs.Ytdghnfihphlboaa
