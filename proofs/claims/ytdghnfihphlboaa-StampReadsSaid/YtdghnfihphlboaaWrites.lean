/- Every operation has the bytes that are said, behind what was there; it is read from them: the walk. -/
import Derived.Test.YtdghnfihphlboaaRefP
import Derived.Test.YtdghnfihphlboaaTurns
namespace Go.Proofs.Ytdghnfihphlboaa
open Go.RowKit

theorem Bs.drop {w : World} {b off : Nat} {n c : Nat} {l : List Int} (h : Bs w (some ⟨b, off, none⟩) n c l) (k : Nat) (hk : k ≤ n) : Bs w (some ⟨b, off + k, none⟩) (n - k) (c - k) (l.drop k) := by
  have hl := h.length
  have hle := h.le
  have hcap := h.cap
  refine ⟨by simp; omega, by omega, by omega, (fun h => by cases h), fun h0 => ?_⟩
  obtain ⟨b', off', ha, hc⟩ := h.cells (by omega)
  cases ha
  refine ⟨b, off + k, rfl, fun j hj => ?_⟩
  rw [Nat.add_assoc, hc (k + j) (by omega), List.map_drop, List.getElem?_drop]

set_option maxRecDepth 100000 in
set_option maxHeartbeats 4000000 in
theorem writes_any (b : Option Addr) (k m : Nat) (l : List Int) (o : OpL) (a : Option Addr) (n c : Nat) (w : World) (hb : Bs w b k m l) (hl : l.length ≤ 140737488351232) (h : OpA w o a n c) (hby : IsBytes o.data) :
    Calls Try.prog 5 #[.slice b k m, .agg (opC o (.slice a n c))] w (Ret w (.bool true)) := by
  have hX := opC_x o (.slice a n c) h.data
  have hB0 : Below w.heap.size w (w.alloc (.cells (opC o (.slice a n c)) 33)) := (Below.refl _ _).alloc (Nat.le_refl _) _
  have hb1 := blk0 w (opC o (.slice a n c)) 33
  have g1 : ∀ W', Below w.heap.size w W' → Calls Try.prog 18 #[.agg (opC o (.slice a n c))] W' (Ret W' (.bool (goodB o))) := fun W' hb => good_any o a n c W' (h.below hb)
  have g2 : ∀ W' a' n' c', Below w.heap.size w W' → OpA W' o a' n' c' → Calls Try.prog 20 #[.agg (opC o (.slice a' n' c')), .agg (opC o (.slice a n c))] W' (Ret W' (.bool true)) := fun W' a' n' c' hb h' => by
    have := same_any o o a' n' c' a n c W' h' (h.below hb)
    rwa [show sameB o o = true by simp [sameB]] at this
  have p1 : ∀ W', Below w.heap.size w W' → Calls Try.prog 22 #[.slice b k m, .agg (opC o (.slice a n c))] W' (RetB W' (l ++ putL o)) := fun W' hw => oput_any b k m l o a n c W' (Sl.below hb hw) (by omega) (h.below hw)
  have p2 : ∀ W', Below w.heap.size w W' → Calls Try.prog 25 #[.agg (opC o (.slice a n c))] W' (RetB W' (putL o)) := fun W' hb => wput_any o a n c W' (h.below hb)
  have hsX := hX.size
  have hd := h.data
  have hkl := hb.length
  clear h hX
  generalize hXe : opC o (.slice a n c) = X at *
  go_enter Try.func5, Try.ntmps5
  go_wp2_with fail
  have hx := boxed_of hb1 hsX
  clear hb1 hsX hXe
  have G1 := Lib.hid g1; have G2 := Lib.hid g2; have P1 := Lib.hid p1; have P2 := Lib.hid p2; have HBs := Lib.hid hb
  clear g1 g2 p1 p2 hb
  go_at_call 11
  refine (alive_any _).mono ?_
  rintro e w1 ⟨rfl, hb1⟩
  dsimp only
  have hx := boxed_below hx hb1
  have hB := Below.next hB0 hb1
  clear hb1 hB0
  have hlen0 := putL_len hd
  have hLb := Lib.hid (putL_bytes hby)
  have hrd := fun r => getOp_round o r hd
  have hpos := fun h => putL_pos (o := o) h
  have hno := fun h => putL_no (o := o) h
  clear hd hby
  generalize putL o = L at *
  have HR := Lib.hid hrd
  have HP := Lib.hid hpos
  have HN := Lib.hid hno
  have hjl : l.length + L.length ≤ 140737488355328 := by omega
  clear hrd hpos hno
  have HK := Lib.hid hkl
  clear hkl
  cases hg : goodB o with
  | false =>
    rw [hg] at G1
    have hL := HN.out hg
    have HL := Lib.hid hL
    clear hL hg
    go_wp2_with (first
    | (go_at_call 22; (with_reducible refine (P1.out _ hB).mono ?_); rintro e w2 ⟨a1, k1, c1, rfl, hb, hown⟩; have hs1 := own_bs hown; obtain rfl : k = k1 := (by { have h1 := hs1.length; rw [HL.out, List.append_nil, HK.out] at h1; exact h1 }); have hx := boxed_below hx hb; have hB := Below.next hB hb)
    | (go_at_call 25; (with_reducible refine (P2.out _ hB).mono ?_); rintro e w3 ⟨a2, k2, c2, rfl, hb, hown⟩; have hs2 := own_bs hown; have hs1 := hs1.below hb; have hx := boxed_below hx hb; have hB := Below.next hB hb)
    | (go_at_call 24; (with_reducible refine (join_any _ _ _ _ _ _ _ _ _ (HBs.out.below hB) hs2 hjl).mono ?_); rintro e w4 ⟨a3, k3, c3, rfl, hb, hown⟩; have hs3 := own_bs hown; have hs1 := hs1.below hb; have hx := boxed_below hx hb; have hB := Below.next hB hb)
    | (go_at_call 23; (with_reducible refine (samebytes_any _ _ _ _ _ _ _ _ _ hs1 hs3).mono ?_); rintro e w5 ⟨rfl, hb⟩; have hs1 := hs1.below hb; have hx := boxed_below hx hb; have hB := Below.next hB hb)
    | (go_at_call 18; (with_reducible refine (G1.out _ hB).mono ?_); rintro e w6 ⟨rfl, hb⟩; have hs1 := hs1.below hb; have hx := boxed_below hx hb; have hB := Below.next hB hb))
    go_ret
    exact Ret.mk rfl hB
  | true =>
    rw [hg] at G1
    have hpos := HP.out hg
    have hr := HR.out [] hg
    rw [List.append_nil] at hr
    have HR := Lib.hid hr
    clear hg hr
    go_wp2_with (first
    | (go_at_call 22; (with_reducible refine (P1.out _ hB).mono ?_); rintro e w2 ⟨a1, k1, c1, rfl, hb, hown⟩; have hs1 := own_bs hown; have hk1 : k + L.length = k1 := (by { have h1 := hs1.length; rw [List.length_append, HK.out] at h1; exact h1 }); obtain ⟨b1, off1, rfl, _⟩ := hs1.cells (by omega); have hle1 := hs1.le; have hkI : (k : Int) ≤ (k1 : Int) := (by omega); have hk0 : (0 : Int) ≤ (k : Int) := (by omega); have hk1I : (k1 : Int) ≤ (c1 : Int) := (by omega); have hne : ¬ k = c1 := (by omega); have hne' : ¬ c1 = k := (by omega); have HK1 := Lib.hid hk1; clear hk1; have hx := boxed_below hx hb; have hB := Below.next hB hb)
    | (go_at_call 25; (with_reducible refine (P2.out _ hB).mono ?_); rintro e w3 ⟨a2, k2, c2, rfl, hb, hown⟩; have hs2 := own_bs hown; have hs1 := hs1.below hb; have hx := boxed_below hx hb; have hB := Below.next hB hb)
    | (go_at_call 24; (with_reducible refine (join_any _ _ _ _ _ _ _ _ _ (HBs.out.below hB) hs2 hjl).mono ?_); rintro e w4 ⟨a3, k3, c3, rfl, hb, hown⟩; have hs3 := own_bs hown; have hs1 := hs1.below hb; have hx := boxed_below hx hb; have hB := Below.next hB hb)
    | (go_at_call 23; (with_reducible refine (samebytes_any _ _ _ _ _ _ _ _ _ hs1 hs3).mono ?_); rintro e w5 ⟨rfl, hb⟩; have hs1 := hs1.below hb; have hx := boxed_below hx hb; have hB := Below.next hB hb)
    | (go_at_call 18; (with_reducible refine (G1.out _ hB).mono ?_); rintro e w6 ⟨rfl, hb⟩; have hs1 := hs1.below hb; have hx := boxed_below hx hb; have hB := Below.next hB hb))
    have hs2 := hs1.drop k (by omega)
    rw [show (l ++ L).drop k = L by rw [← HK.out]; simp] at hs2
    refine (read_any _ _ _ L _ hs2 (by omega)).mono ?_
    rintro e w7 ⟨g, rfl, hb7, hrd, hgl, hgs⟩
    dsimp only
    have hx := boxed_drew (boxed_below hx hb7)
    have hwg : w.heap.size < g := by have h1 := boxed_lt hx; have h2 := hB.size; have h3 : w.heap.size < w6.heap.size := boxed_lt (X := X) (by assumption); omega
    have hB := (Below.next hB hb7).drew
    have hrd := hrd.drew
    have hget := oget_any g g _ _ hrd (fun l hl => by cases hl; exact hLb.out) (Nat.le_of_lt hrd.lt)
    rw [HR.out] at hget
    have HG := Lib.hid hget
    clear hget hb7 hgl hs1 hs2
    go_wp2_with fail
    have hne := Nat.ne_of_lt hwg
    have hwg' := Nat.le_of_lt hwg
    have HH := Lib.hid hne
    clear hne
    go_region_held3 (fun w' => isBox w' w.heap.size 33 41 = true ∧ boxAt w' w.heap.size = X) (first | assumption | exact boxed_below (by assumption) (by assumption) | exact boxed_grown (by assumption) (by assumption) HH.out)
      (first
        | (go_at_call 27; (with_reducible refine HG.out.mono ?_); rintro e w8 ⟨a8, n8, c8, rfl, hg8, hrd8, ho8⟩; have hB := below_grown hB hg8 hwg')
        | (go_at_call 20; (with_reducible refine (G2.out _ _ _ _ hB ho8).mono ?_); rintro e w9 ⟨rfl, hb⟩; have hrd9 := hrd8.belowW hb (Nat.le_of_lt hrd8.lt); have hB := Below.next hB hb)
        | (go_at_call 28; (with_reducible refine (rddone_any g g (some []) _ hrd9).mono ?_); rintro e w10 ⟨rfl, rfl⟩))
    all_goals
      go_wp2_with fail
      go_ret
      exact Ret.mk rfl hB

end Go.Proofs.Ytdghnfihphlboaa
