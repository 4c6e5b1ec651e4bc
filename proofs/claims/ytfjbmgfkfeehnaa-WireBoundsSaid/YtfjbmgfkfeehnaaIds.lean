/- IDs are written: the program's function. -/
import Derived.Test.YtfjbmgfkfeehnaaFour
namespace Go.Proofs.Ytfjbmgfkfeehnaa
open Go.RowKit

def idsL (l : List (List Int)) : List Int := numL l.length ++ l.flatten
theorem flat_len : ∀ (l : List (List Int)), (∀ d ∈ l, d.length = 32 ∧ IsBytes d) → l.flatten.length = l.length * 32
  | [], _ => rfl
  | d :: l, h => by
    have ih := flat_len l (fun x hx => h x (List.mem_cons_of_mem _ hx))
    have hd := (h d (List.mem_cons_self ..)).1
    simp only [List.flatten_cons, List.length_append, List.length_cons, ih, hd]
    omega
theorem take_flat {l : List (List Int)} {k : Nat} {d : List Int} (h : l[k]? = some d) : (l.take (k + 1)).flatten = (l.take k).flatten ++ d := by
  obtain ⟨hk, rfl⟩ := List.getElem?_eq_some_iff.1 h
  rw [List.take_succ_eq_append_getElem hk]
  simp only [List.flatten_append, List.flatten_cons, List.flatten_nil, List.append_nil]
theorem flat_take_len {l : List (List Int)} (h : ∀ d ∈ l, d.length = 32 ∧ IsBytes d) (k : Nat) (hk : k ≤ l.length) : (l.take k).flatten.length = k * 32 := by
  rw [flat_len _ (fun d hd => h d (List.mem_of_mem_take hd))]
  simp
  omega

set_option maxRecDepth 100000 in
set_option maxHeartbeats 1000000 in
theorem ids_any (a : Option Addr) (k c : Nat) (l : List Int) (a' : Option Addr) (n c' : Nat) (ds : List (List Int)) (w : World) (h : Bs w a k c l) (h' : Ids w a' n c' ds) (hl : l.length + 9 + n * 32 ≤ 140737488355328) :
    Calls Try.prog 22 #[.slice a k c, .slice a' n c'] w (RetB w (l ++ idsL ds)) := by
  have hn := h'.len
  have HN := Lib.hid hn; have HV := Lib.hid h'
  have HLn := Lib.hid (numL_len (n : Int))
  have hd0 : l.length + 9 ≤ 140737488355328 := by omega
  have hnn : n ≤ 140737488355328 := by omega
  have HL := Lib.hid hl
  clear hn h' hl
  go_enter Try.func22, Try.ntmps22
  go_upto_region 3 with (go_at_call 19; refine (num_any _ _ _ _ _ _ h hd0).mono ?_; rintro e w1 ⟨a1, k1, c1, rfl, hb, hown⟩)
  have HK := Lib.hid (retB_len hown)
  have HO := Lib.hid hown
  clear hown
  go_loopw [0, 13] (fun v i wr => ∃ (j : Nat) (xs : List Int), j ≤ n ∧ i = .int .i64 j ∧ xs = l ++ numL n ++ (ds.take j).flatten ∧ wr.ownsRow w.heap.size 5 1 v xs.length (xs.map (Value.int .u8)) ∧ Below w.heap.size w wr) (fun _ i _ => n - (intOf i).toNat)
  case atStart => exact ⟨0, l ++ numL n, Nat.zero_le _, rfl, by simp, HK.out ▸ HO.out, hb⟩
  case round =>
    clear hb
    obtain ⟨j, xs, hj, rfl, hxs, hown, hB⟩ := hrel
    have HX := Lib.hid hxs
    clear hxs
    by_cases hjn : j < n
    · obtain ⟨b, off, rfl, hc⟩ := HV.out.seg (by omega)
      obtain ⟨d, hd⟩ : ∃ d, ds[j]? = some d := ⟨_, List.getElem?_eq_getElem (by have := HN.out; omega)⟩
      have G := hc j d hd
      have hs := seg_below G.2 hB
      have HD := Lib.hid hd
      clear hc hd
      obtain ⟨a2, c2, rfl, hs2⟩ := own_form hown
      have hb2 : Bs wr a2 xs.length c2 xs := hs2
      clear hs2
      (repeat ((fail_if_success (with_reducible show wpList _ _ _ (Oper.mk _ (Op.store _ _ _) _ _ _ _ :: _) _ _)); first | go_values | go_skip | go_guarded | go_step | go_upon))
      have hz := blk0 wr (idC zero32) 25
      refine wpList_store_seg (w := wr.alloc (.cells (idC zero32) 25)) rfl 25 _ _ rfl rfl wr.heap.size 0 rfl (idC d) rfl 25 (idC zero32) hz (by rw [idC_size G.1.1]; decide) (size_id' G.1.1) (cells_id d) (idC d) (put_whole _ _ (by rw [idC_size G.1.1]; rfl)) ?_
      intro w3 hq3 hg3 _
      have hB3 : Below wr.heap.size wr w3 := ((Below.refl _ _).alloc (Nat.le_refl _) (.cells (idC zero32) 25)).grown hg3 (by simp) (fun k hk => by cases hk; omega)
      have hb3 := hb2.below hB3
      have hs3 := seg_id hq3 G.1.1
      have hB := Below.next hB hB3
      have hlen : xs.length + 32 ≤ 140737488355328 := by
        have h1 := HX.out
        have h2 := HL.out
        have h3 := HLn.out
        have h4 := flat_take_len HV.out.all j (by have := HN.out; omega)
        rw [h1, List.length_append, List.length_append, h4]
        omega
      clear hz hg3 hs hq3 hown hb2 hB3
      generalize wr.heap.size = q at *
      go_wp2_with (go_at_call 20; refine (id_any _ _ _ _ _ _ hb3 hlen G.1.1).mono ?_; rintro e w4 ⟨a4, k4, c4, rfl, hb4, hown4⟩)
      have HK4 := Lib.hid (retB_len hown4)
      have hO4 := own_base (base' := w.heap.size) hown4 hB.size
      have hB4 := Below.next hB hb4
      clear hown4 hB hb4
      go_roundw
      case rel => exact ⟨j + 1, xs ++ d, by omega, by go_num, by rw [HX.out, take_flat HD.out, ← List.append_assoc], HK4.out ▸ hO4, hB4⟩
      case measure => simp [intOf]; omega
    · obtain rfl : j = n := by omega
      go_wp2_with fail
      go_ret
      refine RetB.mk hB hown ?_
      rw [HX.out, List.take_of_length_le (by rw [HN.out]; exact Nat.le_refl _), idsL, HN.out, List.append_assoc]

end Go.Proofs.Ytfjbmgfkfeehnaa
