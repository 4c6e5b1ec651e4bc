/- IDs one behind the other: the program's comparing, the document's. -/
import Derived.Test.YtfjbmgfkfeehnaaSame
import Derived.Laws.Externs
namespace Go.Proofs.Ytfjbmgfkfeehnaa
open Go.RowKit

/-- As texts are ordered. -/
def lexC : List Int → List Int → Int
  | [], [] => 0
  | [], _ :: _ => -1
  | _ :: _, [] => 1
  | x :: l, y :: m => if x < y then -1 else if y < x then 1 else lexC l m
theorem lexC_self : ∀ l : List Int, lexC l l = 0
  | [] => rfl
  | x :: l => by simp [lexC, lexC_self l]
theorem lexC_vals : ∀ l m : List Int, lexC l m = -1 ∨ lexC l m = 0 ∨ lexC l m = 1
  | [], [] => .inr (.inl rfl)
  | [], _ :: _ => .inl rfl
  | _ :: _, [] => .inr (.inr rfl)
  | x :: l, y :: m => by
    simp only [lexC]
    split
    · exact .inl rfl
    · split
      · exact .inr (.inr rfl)
      · exact lexC_vals l m
theorem lexC_zero : ∀ l m : List Int, lexC l m = 0 → l = m
  | [], [], _ => rfl
  | [], _ :: _, h => by simp [lexC] at h
  | _ :: _, [], h => by simp [lexC] at h
  | x :: l, y :: m, h => by
    simp only [lexC] at h
    split at h
    · cases h
    · split at h
      · cases h
      · rw [lexC_zero l m h]
        congr 1
        omega
/-- Where two of the same length part. -/
theorem lexC_at : ∀ (l m : List Int) (i : Nat) (x y : Int), l[i]? = some x → m[i]? = some y → (∀ j, j < i → l[j]? = m[j]?) → x ≠ y → lexC l m = if x < y then -1 else 1
  | [], _, i, x, y, h, _, _, _ => by simp at h
  | _, [], i, x, y, _, h, _, _ => by simp at h
  | a :: l, b :: m, 0, x, y, h, h', _, hne => by
    simp at h h'
    subst h; subst h'
    simp only [lexC]
    split
    · rfl
    · rw [if_pos (by omega)]
  | a :: l, b :: m, i + 1, x, y, h, h', hall, hne => by
    have h0 := hall 0 (by omega)
    simp at h0
    subst h0
    have := lexC_at l m i x y (by simpa using h) (by simpa using h') (fun j hj => by have := hall (j + 1) (by omega); simpa using this) hne
    simp only [lexC]
    rw [if_neg (by omega), if_neg (by omega), this]
theorem lexC_same {l m : List Int} (h : ∀ j, j < l.length → l[j]? = m[j]?) (hl : l.length = m.length) : l = m := by
  apply List.ext_getElem?
  intro j
  rcases Nat.lt_or_ge j l.length with hj | hj
  · exact h j hj
  · rw [List.getElem?_eq_none hj, List.getElem?_eq_none (by omega)]

theorem toS_size (l : List Int) : (toS l).size = l.length := strOfNums_size _
theorem toS_get (l : List Int) (i : Nat) (x : Int) (h : l[i]? = some x) : (toS l)[i]! = UInt8.ofNat x.toNat := by
  obtain ⟨hi, rfl⟩ := List.getElem?_eq_some_iff.1 h
  have hs : i < (toS l).size := by rw [toS_size]; exact hi
  rw [getElem!_pos (toS l) i hs]
  show (strOfNums l).data[i]'_ = _
  simp [strOfNums]
theorem u8_lt {x y : Int} (hx : 0 ≤ x ∧ x < 256) (hy : 0 ≤ y ∧ y < 256) : (UInt8.ofNat x.toNat < UInt8.ofNat y.toNat) ↔ x < y := by
  rw [UInt8.lt_iff_toNat_lt]
  simp
  omega
theorem u8_eq {x y : Int} (hx : 0 ≤ x ∧ x < 256) (hy : 0 ≤ y ∧ y < 256) : (UInt8.ofNat x.toNat = UInt8.ofNat y.toNat) ↔ x = y := by
  rw [← UInt8.toNat_inj]
  simp
  omega
theorem cmp_toS {l m : List Int} (hl : IsBytes l) (hm : IsBytes m) (hn : l.length = m.length) : Extern.BytealgCompare.cmp (toS l) (toS m) = lexC l m := by
  have hp : ∀ i, i < l.length → (((toS l)[i]! != (toS m)[i]!) = true ↔ l[i]? ≠ m[i]?) := fun i hi => by
    rw [toS_get l i _ (List.getElem?_eq_getElem hi), toS_get m i _ (List.getElem?_eq_getElem (by omega)), bne_iff_ne, ne_eq, u8_eq (hl _ (List.getElem_mem hi)) (hm _ (List.getElem_mem (by omega)))]
    rw [List.getElem?_eq_getElem hi, List.getElem?_eq_getElem (show i < m.length by omega)]
    simp
  unfold Extern.BytealgCompare.cmp
  rw [toS_size, toS_size, ← hn, Nat.min_self]
  cases hf : (List.range l.length).find? (fun i => (toS l)[i]! != (toS m)[i]!) with
  | none =>
    rw [List.find?_eq_none] at hf
    have : l = m := lexC_same (fun j hj => by
      have := hf j (by simpa using hj)
      rw [hp j hj] at this
      exact Classical.not_not.1 this) hn
    subst this
    simp [lexC_self]
  | some i =>
    have hi0 := List.mem_of_find?_eq_some hf
    have hi : i < l.length := by simpa using hi0
    have h1 := List.find?_some hf
    rw [hp i hi] at h1
    have hall : ∀ j, j < i → l[j]? = m[j]? := fun j hj => by
      have := List.find?_range_eq_some.1 hf
      have h3 := this.2.2 j hj
      exact Classical.not_not.1 (fun hne => by
        have h4 := (hp j (by omega)).2 hne
        simp [h4] at h3)
    have e1 : l[i]? = some l[i] := List.getElem?_eq_getElem hi
    have him : i < m.length := by omega
    have e2 : m[i]? = some m[i] := List.getElem?_eq_getElem him
    rw [lexC_at l m i _ _ e1 e2 hall (fun e => h1 (by rw [e1, e2, e]))]
    simp only []
    rw [toS_get l i _ e1, toS_get m i _ e2]
    simp only [u8_lt (hl _ (List.getElem_mem hi)) (hm _ (List.getElem_mem him))]

/-- Bytes are loaded. -/
theorem loadBytes_run {P : Program} (w : World) (b : Nat) : ∀ (l : List Int) (off : Nat) (acc : ByteArray), (∀ j x, l[j]? = some x → w.cell? ⟨b, off + j, none⟩ = some (.int .u8 x)) →
    (Extern.Bytes.loadBytes ⟨b, off, none⟩ l.length acc).run P w = .ok ⟨acc.data ++ (toS l).data⟩ w
  | [], off, acc, _ => by
    simp [Extern.Bytes.loadBytes, toS, strOfNums]
  | x :: l, off, acc, h => by
    have h0 := h 0 x rfl
    have ih := loadBytes_run (P := P) w b l (off + 1) (acc.push x.toNat.toUInt8) (fun j y hy => by
      have := h (j + 1) y (by simpa using hy)
      rw [show off + 1 + j = off + (j + 1) by omega]
      exact this)
    have hld : (load ⟨b, off, none⟩).run P w = .ok (.int .u8 x) w := by
      simp only [Nat.add_zero] at h0
      simp [go_sem, h0]
    simp only [List.length_cons, Extern.Bytes.loadBytes, Sem.run_bind, hld, Result.andThen_ok]
    rw [show (⟨b, off, none⟩ : Addr).add 1 = ⟨b, off + 1, none⟩ from by unfold Addr.add; split <;> simp_all]
    rw [ih]
    simp [toS, strOfNums]
theorem bytesOf_run {P : Program} {w : World} {a : Option Addr} {n c : Nat} {l : List Int} (h : Bs w a n c l) : (Extern.Bytes.bytesOf (.slice a n c)).run P w = .ok (toS l) w := by
  have hl := h.length
  by_cases hn : n = 0
  · subst hn
    obtain rfl : l = [] := List.eq_nil_of_length_eq_zero hl
    cases a with
    | none => rfl
    | some x => rfl
  · obtain ⟨b, off, rfl, hc⟩ := h.cells (by omega)
    have := loadBytes_run (P := P) w b l off .empty (fun j x hj => by
      obtain ⟨hjl, rfl⟩ := List.getElem?_eq_some_iff.1 hj
      rw [hc j (by omega), List.getElem?_map, hj]
      rfl)
    rw [hl] at this
    have e : (⟨ByteArray.empty.data ++ (toS l).data⟩ : ByteArray) = toS l := by
      generalize toS l = x
      obtain ⟨x⟩ := x
      simp [ByteArray.empty, ByteArray.emptyWithCapacity]
      try rfl
    rw [e] at this
    exact this
theorem compare_run {P : Program} {w : World} {a a' : Option Addr} {n c n' c' : Nat} {l l' : List Int} (h : Bs w a n c l) (h' : Bs w a' n' c' l') (hb : IsBytes l) (hb' : IsBytes l') (hn : l.length = l'.length) :
    (Extern.BytealgCompare.compare #[.slice a n c, .slice a' n' c']).run P w = .ok (.int .i64 (lexC l l')) w := by
  change Sem.run P (do
    let x ← Extern.Bytes.bytesOf (.slice a n c)
    let y ← Extern.Bytes.bytesOf (.slice a' n' c')
    pure (goInt (Extern.BytealgCompare.cmp x y))) w = _
  simp only [Sem.run_bind, bytesOf_run h, bytesOf_run h', Result.andThen_ok, Sem.run_pure, cmp_toS hb hb' hn, goInt]
@[go_sem] theorem call_compare (args : Array Value) (w : World) : (callFunc 66 args).run Try.prog w = ((Extern.BytealgCompare.compare args).run Try.prog w).andThen fun v w' => .ok (.value v) w' :=
  run_callFunc_extern Try.func66 (by kernel_rfl) (by kernel_rfl) (by kernel_rfl) (by kernel_rfl) args w

theorem compare_any (a : Option Addr) (n c : Nat) (l : List Int) (a' : Option Addr) (n' c' : Nat) (l' : List Int) (w : World) (h : Bs w a n c l) (h' : Bs w a' n' c' l') (hb : IsBytes l) (hb' : IsBytes l') (hn : l.length = l'.length) :
    Calls Try.prog 64 #[.slice a n c, .slice a' n' c'] w (Ret w (.int .i64 (lexC l l'))) := by
  have hc := compare_run (P := Try.prog) h h' hb hb' hn
  clear hn
  go_enter Try.func64, Try.ntmps64
  go_wp2_with fail
  go_ret
  exact Ret.mk rfl (Below.refl _ _)

theorem idBs (w : World) (g : Nat) (d : List Int) (t : TypeId) (h : w.heap[g]? = some (.cells (idC d) t (0, 0))) (hd : d.length = 32) : Bs w (some ⟨g, 0, none⟩) 32 32 d := by
  have := Sl.row h 1 32 (by simp [idC, hd]) (by simp [maxLen])
  simpa [idC, Bs] using this

set_option maxRecDepth 100000 in
theorem cmp_any (d d' : List Int) (w : World) (hd : d.length = 32) (hd' : d'.length = 32) (hb : IsBytes d) (hb' : IsBytes d') :
    Calls Try.prog 58 #[.agg (idC d), .agg (idC d')] w (Ret w (.int .i64 (lexC d d'))) := by
  have hx : ((w.alloc (.cells (idC d) 25)).alloc (.cells (idC d') 25)).heap[w.heap.size]? = some (.cells (idC d) 25 (0, 0)) := (Below.heap_alloc _ _ _ (by simp)).trans (blk0 w _ _)
  have hy : ((w.alloc (.cells (idC d) 25)).alloc (.cells (idC d') 25)).heap[w.heap.size + 1]? = some (.cells (idC d') 25 (0, 0)) := by have := blk0 (w.alloc (.cells (idC d) 25)) (idC d') 25; simpa using this
  have hB0 : Below w.heap.size w ((w.alloc (.cells (idC d) 25)).alloc (.cells (idC d') 25)) := ((Below.refl _ _).alloc (Nat.le_refl _) _).alloc (by simp) _
  have A1 := fun (q : Nat) (os : Array Obj) => Calls.regrown_of (compare_any _ _ _ _ _ _ _ _ (Sort.grow (redrawn _ q) os) ((idBs _ _ d _ hx hd).below (below_regrown _ _ _)) ((idBs _ _ d' _ hy hd').below (below_regrown _ _ _)) hb hb' (by omega))
  have hsx : (idC d).size = 32 := by simp [idC, hd]
  have hsy : (idC d').size = 32 := by simp [idC, hd']
  clear hx hy
  go_enter Try.func58, Try.ntmps58
  go_wp2_with fail
  (refine wp_region_quiet_below (by kernel_rfl) (by kernel_rfl) ?_; (repeat (go_big_quiet_step ((with_reducible exact A1 _ _)))); refine wpQuiet_nil ?_; intro _ hw'; obtain ⟨⟨dq, osq⟩, hw''⟩ := hw'; subst hw'')
  go_wp2_with fail
  go_ret
  exact Ret.mk rfl (Below.next hB0 (below_regrown _ _ _))

set_option maxRecDepth 100000 in
theorem rcmp_any (d d' : List Int) (w : World) (hd : d.length = 32) (hd' : d'.length = 32) :
    Calls Try.prog 56 #[.agg (idC d), .agg (idC d')] w (Ret w (.int .i64 (lexC d d'))) := by
  have hx : ((w.alloc (.cells (idC d) 24)).alloc (.cells (idC d') 24)).heap[w.heap.size]? = some (.cells (idC d) 24 (0, 0)) := (Below.heap_alloc _ _ _ (by simp)).trans (blk0 w _ _)
  have hy : ((w.alloc (.cells (idC d) 24)).alloc (.cells (idC d') 24)).heap[w.heap.size + 1]? = some (.cells (idC d') 24 (0, 0)) := by have := blk0 (w.alloc (.cells (idC d) 24)) (idC d') 24; simpa using this
  have hB0 : Below w.heap.size w ((w.alloc (.cells (idC d) 24)).alloc (.cells (idC d') 24)) := ((Below.refl _ _).alloc (Nat.le_refl _) _).alloc (by simp) _
  have HX := Lib.hid (idBs _ _ d _ hx hd)
  have HY := Lib.hid (idBs _ _ d' _ hy hd')
  have HD := Lib.hid hd
  have HD' := Lib.hid hd'
  clear hx hy hd hd'
  go_enter Try.func56, Try.ntmps56
  go_upto_region 2 with fail
  generalize hW : (w.alloc (.cells (idC d) 24)).alloc (.cells (idC d') 24) = W at *
  clear hW
  go_loopw [5] (fun i wr => ∃ k : Nat, k ≤ 32 ∧ i = .int .i64 k ∧ (∀ j, j < k → d[j]? = d'[j]?) ∧ Below W.heap.size W wr) (fun i _ => 32 - (intOf i).toNat)
  case atStart => exact ⟨0, Nat.zero_le _, rfl, fun j h => absurd h (by omega), Below.refl _ _⟩
  case round =>
    obtain ⟨k, hk, rfl, hall, hB⟩ := hrel
    by_cases hkn : k < 32
    · obtain ⟨x, hx⟩ : ∃ x, d[k]? = some x := ⟨_, List.getElem?_eq_getElem (by have := HD.out; omega)⟩
      obtain ⟨y, hy⟩ : ∃ y, d'[k]? = some y := ⟨_, List.getElem?_eq_getElem (by have := HD'.out; omega)⟩
      obtain ⟨b, off, e, hc⟩ := HX.out.cells (by omega)
      cases e
      obtain ⟨b, off, e, hc'⟩ := HY.out.cells (by omega)
      cases e
      have g1 := hc k (by omega)
      have g2 := hc' k (by omega)
      rw [List.getElem?_map, hx] at g1
      rw [List.getElem?_map, hy] at g2
      simp only [Nat.zero_add, Option.map_some] at g1 g2
      have k3 := cell_regrown (Below.old hB (Nat.le_refl _) g1)
      have k4 := cell_regrown (Below.old hB (Nat.le_refl _) g2)
      have HA := Lib.hid hall; have H1 := Lib.hid hx; have H2 := Lib.hid hy
      have hlt := hB.size
      clear hc hc' hall hx hy g1 g2
      by_cases hq : x < y
      · have HQ := Lib.hid hq
        have hq' : decide (x < y) = true := decide_eq_true hq
        clear hq
        go_upto_region 4 with fail
        (refine wp_region_quiet_below (by kernel_rfl) (by kernel_rfl) ?_; (repeat (go_big_quiet_step (fail))); refine wpQuiet_nil ?_; intro _ hw'; obtain ⟨⟨dq, osq⟩, hw''⟩ := hw'; subst hw'')
        go_wp2_with fail
        go_ret
        refine Ret.mk (congrArg (Value.int .i64) ?_) (Below.next hB0 (Below.next hB (below_regrown _ _ _)))
        rw [lexC_at d d' k x y H1.out H2.out HA.out (by have := HQ.out; omega), if_pos HQ.out]
      · have hq' : decide (x < y) = false := decide_eq_false hq
        by_cases hp : y < x
        · have HQ := Lib.hid hq
          have HP := Lib.hid hp
          have hp' : decide (y < x) = true := decide_eq_true hp
          clear hq hp
          go_upto_region 4 with fail
          (refine wp_region_quiet_below (by kernel_rfl) (by kernel_rfl) ?_; (repeat (go_big_quiet_step (fail))); refine wpQuiet_nil ?_; intro _ hw'; obtain ⟨⟨dq, osq⟩, hw''⟩ := hw'; subst hw'')
          go_upto_region 6 with fail
          have k3 := cell_regrown (k3 dq osq)
          have k4 := cell_regrown (k4 dq osq)
          (refine wp_region_quiet_below (by kernel_rfl) (by kernel_rfl) ?_; (repeat (go_big_quiet_step (fail))); refine wpQuiet_nil ?_; intro _ hw'; obtain ⟨⟨dq, osq⟩, hw''⟩ := hw'; subst hw'')
          go_wp2_with fail
          go_ret
          refine Ret.mk (congrArg (Value.int .i64) ?_) (Below.next hB0 (Below.next hB (Below.next (below_regrown _ _ _) (below_regrown _ _ _))))
          rw [lexC_at d d' k x y H1.out H2.out HA.out (by have := HP.out; omega), if_neg (by have := HQ.out; omega)]
        · have HQ := Lib.hid (show x = y by omega)
          have hp' : decide (y < x) = false := decide_eq_false hp
          clear hq hp
          go_upto_region 4 with fail
          (refine wp_region_quiet_below (by kernel_rfl) (by kernel_rfl) ?_; (repeat (go_big_quiet_step (fail))); refine wpQuiet_nil ?_; intro _ hw'; obtain ⟨⟨dq, osq⟩, hw''⟩ := hw'; subst hw'')
          go_upto_region 6 with fail
          have k3 := cell_regrown (k3 dq osq)
          have k4 := cell_regrown (k4 dq osq)
          (refine wp_region_quiet_below (by kernel_rfl) (by kernel_rfl) ?_; (repeat (go_big_quiet_step (fail))); refine wpQuiet_nil ?_; intro _ hw'; obtain ⟨⟨dq, osq⟩, hw''⟩ := hw'; subst hw'')
          go_wp2_with fail
          go_roundw
          case rel =>
            refine ⟨k + 1, by omega, by go_num, fun j hj => ?_, Below.next hB (Below.next (below_regrown _ _ _) (below_regrown _ _ _))⟩
            rcases Nat.lt_succ_iff_lt_or_eq.1 hj with hj | rfl
            · exact HA.out j hj
            · rw [H1.out, H2.out, HQ.out]
          case measure => simp [intOf]; omega
    · obtain rfl : k = 32 := by omega
      go_wp2_with fail
      go_ret
      refine Ret.mk (congrArg (Value.int .i64) ?_) (Below.next hB0 hB)
      have e : d = d' := lexC_same (fun j hj => hall j (by have := HD.out; omega)) (by have := HD.out; have := HD'.out; omega)
      rw [e, lexC_self]

end Go.Proofs.Ytfjbmgfkfeehnaa
