/- Letters as bytes, the document's way: num, ids. -/
import Derived.Test.YtfjbmgfkfeehnaaDocS
import Derived.Test.YtfjbmgfkfeehnaaRefA
namespace Go.Proofs.Ytfjbmgfkfeehnaa
open Go.RowKit

set_option maxRecDepth 100000 in
theorem dnum_any (a : Option Addr) (n c : Nat) (l : List Int) (x : Int) (w : World) (h : Bs w a n c l) (hl : l.length + 9 ≤ 140737488355328) :
    Calls Try.prog 42 #[.slice a n c, .int .i64 x] w (RetB w (l ++ numL x)) := by
  have hx := numL_len x
  go_enter Try.func42, Try.ntmps42
  go_wp2_with (first
    | (go_at_call 61; (with_reducible refine (wnum_any x _).mono ?_); rintro e w1 ⟨a1, k1, c1, rfl, hb, hown⟩; have hs1 := own_bs hown; have h := h.below hb)
    | (go_at_call 43; (with_reducible refine (join_any _ _ _ _ _ _ _ _ _ h hs1 (by omega)).mono ?_); rintro e w3 ⟨a3, k3, c3, rfl, hb3, hown3⟩; have hO := own_base (base' := w.heap.size) hown3 hb.size; have hB := Below.next hb hb3))
  go_ret
  exact RetB.mk hB hO rfl

set_option maxRecDepth 100000 in
set_option maxHeartbeats 1000000 in
theorem dids_any (a : Option Addr) (k c : Nat) (l : List Int) (a' : Option Addr) (n c' : Nat) (ds : List (List Int)) (w : World) (h : Bs w a k c l) (h' : Ids w a' n c' ds) (hl : l.length + 9 + n * 32 ≤ 140737488355328) :
    Calls Try.prog 46 #[.slice a k c, .slice a' n c'] w (RetB w (l ++ idsL ds)) := by
  have hn := h'.len
  have HN := Lib.hid hn; have HV := Lib.hid h'
  have HLn := Lib.hid (numL_len (n : Int))
  have hd0 : l.length + 9 ≤ 140737488355328 := by omega
  have hnn : n ≤ 140737488355328 := by omega
  have HL := Lib.hid hl
  clear hn h' hl
  go_enter Try.func46, Try.ntmps46
  go_upto_region 3 with (go_at_call 42; refine (dnum_any _ _ _ _ _ _ h hd0).mono ?_; rintro e w1 ⟨a1, k1, c1, rfl, hb, hown⟩)
  have HK := Lib.hid (retB_len hown)
  have HO := Lib.hid hown
  clear hown
  go_loopw [0, 5] (fun v i wr => ∃ (j : Nat) (xs : List Int), j ≤ n ∧ i = .int .i64 j ∧ xs = l ++ numL n ++ (ds.take j).flatten ∧ wr.ownsRow w.heap.size 5 1 v xs.length (xs.map (Value.int .u8)) ∧ Below w.heap.size w wr) (fun _ i _ => n - (intOf i).toNat)
  case atStart => exact ⟨0, l ++ numL n, Nat.zero_le _, rfl, by simp, HK.out ▸ HO.out, hb⟩
  case round =>
    clear hb
    obtain ⟨j, xs, hj, rfl, hxs, hown, hB⟩ := hrel
    have HX := Lib.hid hxs
    clear hxs
    obtain ⟨a2, c2, rfl, hs2⟩ := own_form hown
    have hb2 : Bs wr a2 xs.length c2 xs := hs2
    clear hs2
    by_cases hjn : j < n
    · obtain ⟨b, off, rfl, hc⟩ := HV.out.seg (by omega)
      obtain ⟨d, hd⟩ : ∃ d, ds[j]? = some d := ⟨_, List.getElem?_eq_getElem (by have := HN.out; omega)⟩
      have G := hc j d hd
      have hs := seg_below G.2 hB
      have HD := Lib.hid hd
      have hlen : xs.length + 32 ≤ 140737488355328 := by
        have h1 := HX.out
        have h2 := HL.out
        have h3 := HLn.out
        have h4 := flat_take_len HV.out.all j (by have := HN.out; omega)
        rw [h1, List.length_append, List.length_append, h4]
        omega
      have hd32 := G.1.1
      clear hc hd hown
      go_wp2_with (first
        | (go_at_call 45; (with_reducible refine (wid_any d _ hd32).mono ?_); rintro e w4 ⟨a4, k4, c4, rfl, hb4, hown4⟩; have hs4 := own_bs hown4; have hb2 := hb2.below hb4; have hB4 := Below.next hB hb4)
        | (go_at_call 43; (with_reducible refine (join_any _ _ _ _ _ _ _ _ _ hb2 hs4 (by omega)).mono ?_); rintro e w5 ⟨a5, k5, c5, rfl, hb5, hown5⟩))
      have HK5 := Lib.hid (retB_len hown5)
      have hO5 := own_base (base' := w.heap.size) hown5 hB4.size
      have hB5 := Below.next hB4 hb5
      clear hown5 hb5 hb4 hown4 hB
      go_roundw
      case rel => exact ⟨j + 1, xs ++ d, by omega, by go_num, by rw [HX.out, take_flat HD.out, ← List.append_assoc], HK5.out ▸ hO5, hB5⟩
      case measure => simp [intOf]; omega
    · obtain rfl : j = n := by omega
      go_wp2_with fail
      go_ret
      refine RetB.mk hB hown ?_
      rw [HX.out, List.take_of_length_le (by rw [HN.out]; exact Nat.le_refl _), idsL, HN.out, List.append_assoc]

end Go.Proofs.Ytfjbmgfkfeehnaa
