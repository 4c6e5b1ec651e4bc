/- IDs are read: the program's function. -/
import Derived.Test.YtfjbmgfkfeehnaaWireW
import Derived.Deep.MidRow
namespace Go.Proofs.Ytfjbmgfkfeehnaa
open Go.RowKit

/-- So many IDs are read. -/
def getIdsN : Nat → Rd → List (List Int) × Rd
  | 0, s => ([], s)
  | n + 1, s => ((getIdsN n s).1 ++ [(getId (getIdsN n s).2).1], (getId (getIdsN n s).2).2)
def getIds (most : Int) (s : Rd) : List (List Int) × Rd := getIdsN (getNum most s).1.toNat (getNum most s).2

theorem RdBytes.getId {s : Rd} (h : RdBytes s) : RdBytes (getId s).2 := by
  intro l hl
  cases s with
  | none => cases hl
  | some m =>
    unfold Go.Proofs.Ytfjbmgfkfeehnaa.getId at hl
    simp only [] at hl
    split at hl
    · cases hl; exact (h m rfl).drop 32
    · cases hl
theorem getId_bytes {s : Rd} (h : RdBytes s) : (getId s).1.length = 32 ∧ IsBytes (getId s).1 := by
  refine ⟨id_len h, ?_⟩
  cases s with
  | none => exact zero32_bytes
  | some m =>
    unfold getId
    simp only []
    split
    · exact (h m rfl).take 32
    · exact zero32_bytes
theorem RdBytes.getIdsN {s : Rd} (h : RdBytes s) : ∀ n, RdBytes (getIdsN n s).2
  | 0 => h
  | n + 1 => (RdBytes.getIdsN h n).getId
theorem getIdsN_all {s : Rd} (h : RdBytes s) : ∀ n, ∀ d ∈ (getIdsN n s).1, d.length = 32 ∧ IsBytes d
  | 0, d, hd => by cases hd
  | n + 1, d, hd => by
    rcases List.mem_append.1 hd with hd | hd
    · exact getIdsN_all h n d hd
    · rw [List.mem_singleton] at hd
      subst hd
      exact getId_bytes (h.getIdsN n)
theorem getIdsN_len (s : Rd) : ∀ n, (getIdsN n s).1.length = n
  | 0 => rfl
  | n + 1 => by simp [getIdsN, getIdsN_len s n]

theorem own_grown {w w' : World} {base e k : Nat} {v : Value} {n : Nat} {xs : List Value} {b : Option Nat} (h : w.ownsRow base e k v n xs) (hg : w.grownBy w' b) (hb : ∀ j, b = some j → j < base) : w'.ownsRow base e k v n xs := by
  obtain ⟨hl, h | ⟨g, cap, cur, hv, hbg, hh, r⟩⟩ := h
  · exact ⟨hl, .inl h⟩
  · refine ⟨hl, .inr ⟨g, cap, cur, hv, hbg, ?_, r⟩⟩
    have hlt : g < w.heap.size := by
      rcases Nat.lt_or_ge g w.heap.size with h | h
      · exact h
      · rw [Array.getElem?_eq_none h] at hh; cases hh
    rw [hg.block g hlt (fun e => by have := hb g e.symm; omega)]; exact hh
theorem grown_new {w a b : World} {g : Nat} {r : Option Nat} (h : w.grownBy a (some g)) (k : a.grownBy b r) (hr : ∀ j, r = some j → w.heap.size ≤ j) : w.grownBy b (some g) :=
  ⟨k.os.trans h.os, k.tape.trans h.tape, k.output.trans h.output, Nat.le_trans h.size k.size, fun i hi hig => (k.block i (Nat.lt_of_lt_of_le hi h.size) (fun e => by have := hr i e.symm; omega)).trans (h.block i hi hig)⟩
theorem info_id3 : (Try.prog.info? 25).map (fun i => (i.zero, i.size, i.bytes)) = some (some (.agg (idC zero32)), 32, 32) := by kernel_rfl

theorem foldl_fill : ∀ (xs pre post : List Value), xs.length = post.length → Array.foldl (fun (cs : Array Value) (x : Value × Nat) => cs.setIfInBounds x.snd x.fst) (pre ++ post).toArray (xs.zipIdx pre.length).toArray = (pre ++ xs).toArray
  | [], pre, post, h => by
    obtain rfl : post = [] := List.eq_nil_of_length_eq_zero (by simpa using h.symm)
    simp
  | x :: xs, pre, [], h => by simp at h
  | x :: xs, pre, y :: post, h => by
    have ih := foldl_fill xs (pre ++ [x]) post (by simpa using h)
    simp only [List.foldl_toArray, List.zipIdx_cons, List.foldl_cons] at ih ⊢
    rw [show (pre ++ y :: post).toArray.setIfInBounds pre.length x = ((pre ++ [x]) ++ post).toArray by
      apply Array.ext'
      rw [Array.toList_setIfInBounds]
      simp [List.set_append_right]]
    simpa using ih
theorem fill_all (X Z : Array Value) (h : X.size = Z.size) : Array.foldl (fun (cs : Array Value) (x : Value × Nat) => cs.setIfInBounds x.snd x.fst) Z (X.zipIdx 0) = X := by
  have := foldl_fill X.toList [] Z.toList (by simpa using h)
  have e : X.zipIdx 0 = (X.toList.zipIdx 0).toArray := by apply Array.ext'; simp
  simp only [List.nil_append, List.length_nil, Array.toArray_toList] at this
  rw [e]
  exact this
@[go_sem] theorem fill32 (X : Array Value) (h : X.size = 32) : Array.foldl (fun (cs : Array Value) (x : Value × Nat) => cs.setIfInBounds x.snd x.fst) #[Value.int .u8 0, Value.int .u8 0, Value.int .u8 0, Value.int .u8 0, Value.int .u8 0, Value.int .u8 0, Value.int .u8 0, Value.int .u8 0, Value.int .u8 0, Value.int .u8 0, Value.int .u8 0, Value.int .u8 0, Value.int .u8 0, Value.int .u8 0, Value.int .u8 0, Value.int .u8 0, Value.int .u8 0, Value.int .u8 0, Value.int .u8 0, Value.int .u8 0, Value.int .u8 0, Value.int .u8 0, Value.int .u8 0, Value.int .u8 0, Value.int .u8 0, Value.int .u8 0, Value.int .u8 0, Value.int .u8 0, Value.int .u8 0, Value.int .u8 0, Value.int .u8 0, Value.int .u8 0] (X.zipIdx 0) 0 32 = X := by
  have := fill_all X #[Value.int .u8 0, Value.int .u8 0, Value.int .u8 0, Value.int .u8 0, Value.int .u8 0, Value.int .u8 0, Value.int .u8 0, Value.int .u8 0, Value.int .u8 0, Value.int .u8 0, Value.int .u8 0, Value.int .u8 0, Value.int .u8 0, Value.int .u8 0, Value.int .u8 0, Value.int .u8 0, Value.int .u8 0, Value.int .u8 0, Value.int .u8 0, Value.int .u8 0, Value.int .u8 0, Value.int .u8 0, Value.int .u8 0, Value.int .u8 0, Value.int .u8 0, Value.int .u8 0, Value.int .u8 0, Value.int .u8 0, Value.int .u8 0, Value.int .u8 0, Value.int .u8 0, Value.int .u8 0] (by rw [h]; rfl)
  rw [show (X.zipIdx 0).size = 32 by simpa using h] at this
  exact this

theorem grow1' (w : World) (X : Array Value) (t : TypeId) : Below w.heap.size w (w.alloc (.cells X t)) := (Below.refl _ _).alloc (Nat.le_refl _) _
/-- 'append(s, x)' of one ID, s the call's own. -/
theorem app_id {ops : Array Oper} {rest : List Oper} {o : Oper} {a : Act} {w : World} {Q : Exit → Act → World → Prop} (hgd : o.guard = none) (s x : Operand)
    (ho : o.op = .call { callee := .builtin .append, args := #[s, x], argTypes := #[23, 23] })
    (base : Nat) (v : Value) (n : Nat) (xs : List Value) (hs : a.eval s = v) (hown : w.ownsRow base 25 32 v n xs) (b c : Nat) (d : List Int) (hx : a.eval x = .slice (some ⟨b, 0, none⟩) 1 c)
    (hb : w.heap[b]? = some (.cells (idC d) 25 (0, 0))) (hd : d.length = 32) (hn : n + 1 ≤ 4398046511104) (hbase : base ≤ w.heap.size)
    (h : ∀ v' w', w'.ownsRow base 25 32 v' (n + 1) (xs ++ idF d) → w.grownBy w' v.ownBlock → wpList Try.prog ops Q rest (a.put o.dst v') w') : wpList Try.prog ops Q (o :: rest) a w := by
  obtain ⟨i0, hi, hz0, hz1, hz2⟩ := info_parts info_id3
  refine wpList_append_own w hgd s x 23 ho base 25 i0 _ 32 32 Try.underlying23 hi hz0 hz1 hz2 rfl (by decide) v n xs hs hown ⟨b, 0, none⟩ 1 c (idF d) hx (by rw [idF_len hd])
    (fun j y hj => ?_) (fun y hy => cells_id d y (by simpa [idC, idF] using hy)) (by unfold maxLen; omega) (by omega) hbase fun v' w' h1 h2 _ => h v' w' h1 h2
  rw [Addr.add_mid, Nat.zero_add, (blk_cell hb).1 j]
  simpa [idC, idF] using hj

/-- What reading IDs leaves. -/
def GIPost (w : World) (H g : Nat) (x : List (List Int) × Rd) (e : Ending) (w' : World) : Prop :=
  ∃ a n c, e = .returned (.slice a n c) ∧ w.grownBy w' (some g) ∧ RdAt w' H g x.2 ∧ w'.ownsRow w.heap.size 25 32 (.slice a n c) n (rowC 32 idF x.1)

set_option maxRecDepth 100000 in
set_option maxHeartbeats 1000000 in
theorem getids_any (H g : Nat) (s : Rd) (most : Int) (w : World) (h : RdAt w H g s) (hs : RdBytes s) (hm0 : 0 ≤ most) (hm : most ≤ 200) (hH : H ≤ w.heap.size) :
    Calls Try.prog 40 #[.pointer (some ⟨g, 0, none⟩), .int .i64 most] w (GIPost w H g (getIds most s)) := by
  have hnn := getNum_nonneg most s
  have hnl : (getNum most s).1 ≤ most := by
    cases s with
    | none => exact hm0
    | some l =>
      rw [getNum_some]
      cases h : rnum most 0 0 l with
      | none => exact hm0
      | some x => exact (rnum_nonneg most l 0 0 x.1 x.2 h).2
  have hgl := h.lt
  have hsb := hs.getNum most
  have hc := rdnum_any H g s most w h hs
  unfold getIds
  obtain ⟨n, S⟩ : ∃ x, x = getNum most s := ⟨_, rfl⟩
  revert hnn hnl hsb hc
  generalize getNum most s = x
  obtain ⟨n, S⟩ := x
  intro hnn hnl hsb hc
  obtain ⟨k, rfl⟩ := Int.eq_ofNat_of_zero_le hnn
  simp only [Int.toNat_natCast] at *
  have HSb := Lib.hid hsb
  clear hs hsb hnn h
  have hk2 : k ≤ 200 := by omega
  clear hnl hm hm0
  go_enter Try.func40, Try.ntmps40
  go_upto_region 3 with (go_at_call 37; refine hc.mono ?_; rintro e w1 ⟨rfl, hgr, hrd⟩)
  go_loopw [5, 9] (fun v i wr => ∃ j : Nat, j ≤ k ∧ i = .int .i64 j ∧ w.grownBy wr (some g) ∧ RdAt wr H g (getIdsN j S).2 ∧ wr.ownsRow w.heap.size 25 32 v j (rowC 32 idF (getIdsN j S).1)) (fun _ i _ => k - (intOf i).toNat)
  case atStart => exact ⟨0, Nat.zero_le _, rfl, hgr, hrd, World.ownsRow_nil _ _ _ _⟩
  case round =>
    clear hgr hrd
    obtain ⟨j, hj, rfl, hgr, hrd, hown⟩ := hrel
    by_cases hjk : j < k
    · have hbs := getId_bytes (HSb.out.getIdsN j)
      have hid := rdid_any H g _ _ hrd (Nat.le_trans hH hgr.size)
      have hbb := Lib.hid (getId_bytes (HSb.out.getIdsN j))
      have HG := Lib.hid (show getIdsN (j + 1) S = ((getIdsN j S).1 ++ [(getId (getIdsN j S).2).1], (getId (getIdsN j S).2).2) from rfl)
      have hsz := idC_size hbs.1
      clear hbs
      revert hid hbb HG hsz
      generalize getId (getIdsN j S).2 = y
      intro hid hbb HG hsz
      repeat (first
        | (go_at_call 39; refine hid.mono ?_; rintro e w4 ⟨rfl, hgr4, hrd4⟩; dsimp only)
        | ((fail_if_success at_builtin); first | go_values | go_skip | go_guarded | go_step | go_upon))
      have hszg := hgr.size
      have hsz4 := hgr4.size
      have hown4 := own_grown hown hgr4 (fun i hi => by cases hi; exact hgl)
      have hgr5 := grown_trans hgr hgr4
      at_builtin
      refine app_id rfl _ _ rfl w.heap.size _ _ _ rfl (own_below hown4 (grow1' w4 (idC y.1) 25)) w4.heap.size 1 y.1 rfl (blk0 w4 (idC y.1) 25) hbb.out.1 (by omega) (by simp; omega) ?_
      intro v' w5 hown5 hgr6
      have hg6 := grown_new (grown_trans hgr5 (grown_below (grow1' w4 (idC y.1) 25))) hgr6 (fun i hi => ((World.ownsRow.lt hown4) i hi).1)
      have hrd5 : RdAt w5 H g y.2 := by
        have hw4 : H ≤ w4.heap.size := by omega
        refine (hrd4.alloc hw4 (.cells (idC y.1) 25)).kept (hgr6.block g (by simp; omega) (fun e => ?_)) (fun i hi hig => hgr6.block i (by simp; omega) (fun e => ?_))
        · have := ((World.ownsRow.lt hown4) g e.symm).1
          omega
        · have := ((World.ownsRow.lt hown4) i e.symm).1
          omega
      clear hgr6 hgr5 hgr4 hrd4 hown4 hown hrd hgr
      go_wp2_with fail
      go_roundw
      case rel =>
        refine ⟨j + 1, by omega, by go_num, hg6, ?_, ?_⟩
        · rw [HG.out]; exact hrd5
        · rw [HG.out, rowC_snoc]; exact hown5
      case measure => simp [intOf]; omega
    · obtain rfl : j = k := by omega
      have hf := own_form hown
      obtain ⟨a2, c2, rfl, _⟩ := hf
      go_wp2_with fail
      go_ret
      exact ⟨a2, j, c2, rfl, hgr, hrd, hown⟩

end Go.Proofs.Ytfjbmgfkfeehnaa
