/- The document's reader: stamps, texts, IDs. The document's reader: texts. A [32]byte in a block of its own: it is loaded and stored as a whole. The document's reader: IDs. -/
import Derived.Test.YtfjbmgfkfeehnaaRefR
import Derived.Test.YtfjbmgfkfeehnaaOpen
import Derived.Deep.RegionLaw
namespace Go.Proofs.Ytfjbmgfkfeehnaa
section
open Go.RowKit

/-- A reader as cells. -/
def InC (w : World) (s : Rd) (a : Option Addr) (n c : Nat) (b : Bool) : Prop :=
  match s with
  | none => a = none ∧ n = 0 ∧ c = 0 ∧ b = true
  | some l => b = false ∧ Bs w a n c l
/-- A value and a reader are handed back. -/
def RetC (w0 w : World) (v : Value) (s : Rd) (e : Ending) (w' : World) : Prop :=
  ∃ a n c b, e = .returned (.tuple #[v, .agg #[.slice a n c, .bool b]]) ∧ Below w.heap.size w w' ∧ InC w0 s a n c b
theorem InC.below {w w' : World} {s : Rd} {a : Option Addr} {n c : Nat} {b : Bool} (h : InC w s a n c b) (hb : Below w.heap.size w w') : InC w' s a n c b := by
  cases s with
  | none => exact h
  | some l => exact ⟨h.1, h.2.below hb⟩
theorem InC.bad {w : World} {s : Rd} {a : Option Addr} {n c : Nat} {b : Bool} (h : InC w s a n c b) : b = !s.isSome := by
  cases s with
  | none => exact h.2.2.2
  | some l => exact h.1
theorem InC.len {w : World} {s : Rd} {a : Option Addr} {n c : Nat} {b : Bool} (h : InC w s a n c b) : n = (s.getD []).length := by
  cases s with
  | none => exact h.2.1
  | some l => exact h.2.length.symm
theorem RetIn.toC {w0 w : World} {v : Value} {s : Rd} {e : Ending} {w' : World} (h : RetIn w0 w v s e w') : RetC w0 w v s e w' := by
  obtain ⟨u, he, hb, hi⟩ := h
  cases s with
  | none =>
    obtain rfl : u = _ := hi
    exact ⟨_, _, _, _, he, hb, rfl, rfl, rfl, rfl⟩
  | some l =>
    obtain ⟨a, n, c, rfl, hs⟩ := hi
    exact ⟨_, _, _, _, he, hb, rfl, hs⟩
theorem rgnum_any (most : Int) (s : Rd) (a : Option Addr) (n c : Nat) (b : Bool) (w0 w : World) (hb : Below w0.heap.size w0 w) (h : InC w0 s a n c b) (hby : RdBytes s) :
    Calls Try.prog 50 #[.agg #[.slice a n c, .bool b], .int .i64 most] w (RetC w0 w (.int .i64 (getNum most s).1) (getNum most s).2) := by
  cases s with
  | none =>
    obtain ⟨rfl, rfl, rfl, rfl⟩ := h
    exact (rgnum_none most w0 w).mono fun _ _ h => RetIn.toC h
  | some l =>
    obtain ⟨rfl, h⟩ := h
    exact (rgnum_some most a n c l w0 w hb h (hby l rfl)).mono fun _ _ h => RetIn.toC h

end

section
open Go.RowKit

theorem Bs.dropG {w : World} {a : Option Addr} {n c : Nat} {l : List Int} (h : Bs w a n c l) (k : Nat) (hk : k ≤ n) : Bs w (a.map (fun x => x.add k)) (n - k) (c - k) (l.drop k) := by
  have hl := h.length
  have hle := h.le
  have hcap := h.cap
  refine ⟨by simp; omega, by omega, by omega, fun h0 => ?_, fun h0 => ?_⟩
  · have := h.nil (by simpa using h0)
    omega
  · obtain ⟨b, off, rfl, _⟩ := h.cells (by omega)
    have := (h.drop k hk).cells h0
    simpa [addr_add] using this
theorem Bs.dropE {w : World} {a : Option Addr} {n k : Nat} {l : List Int} (h : Bs w a n k l) (hk : k ≤ n) : Bs w a 0 0 (l.drop k) := by
  have hl := h.length
  have hle := h.le
  exact ⟨by simp; omega, Nat.le_refl _, by unfold maxLen; omega, fun _ => rfl, fun h0 => absurd h0 (by omega)⟩
set_option maxRecDepth 100000 in
set_option maxHeartbeats 2000000 in
theorem rgtext_any (most : Int) (s : Rd) (a : Option Addr) (n c : Nat) (b : Bool) (w0 w : World) (hbw : Below w0.heap.size w0 w) (h : InC w0 s a n c b) (hby : RdBytes s) :
    Calls Try.prog 51 #[.agg #[.slice a n c, .bool b], .int .i64 most] w (RetC w0 w (.string (toS (getText most s).1)) (getText most s).2) := by
  obtain ⟨W0, hW0⟩ : ∃ W0, W0 = (w.alloc (.cells #[.slice a n c, .bool b] 86)).alloc (.cells #[.slice none 0 0, .bool false] 86) := ⟨_, rfl⟩
  have hB0 : Below w.heap.size w W0 := by rw [hW0]; exact ((Below.refl _ _).alloc (Nat.le_refl _) _).alloc (by simp) _
  have hr : W0.heap[w.heap.size + 1]? = some (.cells #[.slice none 0 0, .bool false] 86 (0, 0)) := by
    have := blk0 (w.alloc (.cells #[.slice a n c, .bool b] 86)) #[.slice none 0 0, .bool false] 86
    rw [hW0]
    simpa using this
  have hc1 := rgnum_any most s a n c b w0 W0 (Below.next hbw hB0) h hby
  have hby1 := hby.getNum most
  have hnn := getNum_nonneg most s
  have HR := Lib.hid hr
  have HC1 := Lib.hid hc1
  unfold getText
  clear hr hc1 h hby
  generalize getNum most s = x at *
  obtain ⟨m, s1⟩ := x
  simp only at hby1 hnn ⊢
  obtain ⟨k, rfl⟩ : ∃ k : Nat, m = k := ⟨m.toNat, by omega⟩
  clear hnn
  obtain ⟨tx, s2, hx⟩ : ∃ tx s2, textOf ((k : Int), s1) = (tx, s2) := ⟨_, _, rfl⟩
  rw [hx]
  have HX := Lib.hid hx
  clear hx
  simp only
  go_enter Try.func51, Try.ntmps51
  go_wp2_with fail
  rw [← hW0]
  clear hW0
  refine HC1.out.mono ?_
  rintro e w1 ⟨a1, n1, c1, b1, rfl, hb1, hi1⟩
  dsimp only
  have hB1 : Below w.heap.size w w1 := Below.next hB0 hb1
  have hr := (hb1.block _ (blk_cell HR.out).2.2).trans HR.out
  clear HR HC1 hB0 hb1
  have hlt := (blk_cell hr).2.2
  have hA1 : Below w1.heap.size w1 (w1.alloc (.cells #[.slice a1 n1 c1, .bool b1] 86)) := (Below.refl _ _).alloc (Nat.le_refl _) _
  have hr := (hA1.block _ (blk_cell hr).2.2).trans hr
  have hB1 := Below.next hB1 hA1
  have hq := blk0 w1 #[.slice a1 n1 c1, .bool b1] 86
  have HR := Lib.hid hr
  cases s1 with
  | none =>
    obtain ⟨rfl, rfl, rfl, rfl⟩ := hi1
    have hx := HX.out
    rw [show textOf ((k : Int), none) = ([], none) from rfl] at hx
    cases hx
    clear HX
    clear hr hlt hq
    go_upto_region 3 with fail
    generalize w1.alloc (.cells #[.slice none 0 0, .bool true] 86) = W1 at *
    (repeat ((fail_if_success (with_reducible show wpList _ _ _ (Oper.mk _ (Op.store _ _ _) _ _ _ _ :: _) _ _)); first | go_values | go_skip | go_guarded | go_step | go_upon))
    go_at_call 62
    refine (failed_any _).mono ?_
    rintro e w2 ⟨rfl, hb⟩
    dsimp only
    have hr := (hb.block _ (blk_cell HR.out).2.2).trans HR.out
    (repeat ((fail_if_success (with_reducible show wpList _ _ _ (Oper.mk _ (Op.store _ _ _) _ _ _ _ :: _) _ _)); first | go_values | go_skip | go_guarded | go_step | go_upon))
    refine wpList_store_seg (w := w2) rfl 86 _ _ rfl rfl (w.heap.size + 1) 0 rfl #[.slice none 0 0, .bool true] rfl 86 #[.slice none 0 0, .bool false] hr (by simp) info_in one_in #[.slice none 0 0, .bool true] rfl ?_
    intro w3 hq hk2 _
    have hc := (blk_cell hq).1
    have hc0 := hc 0
    have hc1 := hc 1
    clear hc
    go_wp2_with fail
    exact bodyPost_ret (v := .tuple #[.string ⟨#[]⟩, .agg #[.slice none 0 0, .bool true]]) (by simp [results, Try.results51, go_sem, hc0, hc1]) rfl ⟨_, _, _, _, rfl, (Below.next hB1 hb).grown hk2 (Below.next hB1 hb).size (fun k hk => by cases hk; omega), rfl, rfl, rfl, rfl⟩
  | some l =>
    obtain ⟨rfl, hs1⟩ := hi1
    have hln := hs1.length
    by_cases hkl : k ≤ l.length
    · have hE : textOf ((k : Int), some l) = (l.take k, some (l.drop k)) := by simp [textOf, hkl]
      have hx := HX.out
      rw [hE] at hx
      cases hx
      clear HX
      have hkn : k ≤ n1 := by omega
      have hkI : ¬ (n1 : Int) < (k : Int) := by omega
      have hkd : decide ((n1 : Int) < (k : Int)) = false := by simp; omega
      have hkd2 : decide (n1 < k) = false := by simp; omega
      have hk0 : (0 : Int) ≤ (k : Int) := by omega
      have hk1 : (k : Int) ≤ (n1 : Int) := by omega
      have hle := hs1.le
      have hk2 : (k : Int) ≤ (c1 : Int) := by omega
      have hn2 : (n1 : Int) ≤ (c1 : Int) := by omega
      have hcv : ∀ w', Below w0.heap.size w0 w' → (convert 26 9 (.slice a1 k c1)).run Try.prog w' = .ok (.string (toS (l.take k))) w' := fun w' hb => conv_bs ((hs1.take k hkn).below hb)
      have HS := Lib.hid hs1
      clear hs1 hln hkl hE
      have hbW := Below.next hbw hB1
      have hww : w0.heap.size ≤ w.heap.size := hbw.size
      go_upto_region 4 with fail
      generalize hW3 : w1.alloc (.cells #[.slice a1 n1 c1, .bool false] 86) = W3 at *
      generalize w1.heap.size = q at *
      clear hW3
      have k20 := (blk_cell hr).1 0
      have k21 := (blk_cell hr).1 1
      have kq0 := (blk_cell hq).1 0
      have f20 := (blk_cell hr).2.1 0
      have f21 := (blk_cell hr).2.1 1
      simp only [List.getElem?_toArray, List.getElem?_cons_zero, List.getElem?_cons_succ] at k20 k21 kq0
      have hne2 : ¬ q = w.heap.size + 1 := by omega
      have hne2' : ¬ w.heap.size + 1 = q := by omega
      have hS : W3.drew.cell? ⟨q, 0, none⟩ = some (.slice a1 n1 c1) ∧ Below w0.heap.size w0 W3.drew := ⟨by simp [go_sem, kq0], hbW.drew⟩
      clear hr hq hbw
      by_cases hcc : c1 = k
      · subst hcc
        obtain rfl : n1 = c1 := by omega
        go_region_held3 (fun w' : World => w'.cell? ⟨q, 0, none⟩ = some (.slice a1 n1 n1) ∧ Below w0.heap.size w0 w') (first | assumption | exact ⟨by simp [go_sem, *], (Below.setCell (p := ⟨w.heap.size + 1, 1, none⟩) (Below.setCell (p := ⟨w.heap.size + 1, 0, none⟩) hbW (by simp; omega) _) (by simp; omega) _).drew⟩) (fail)
        all_goals
          go_wp2_with fail
          refine bodyPost_ret (v := .tuple #[.string (toS (l.take n1)), .agg #[.slice a1 0 0, .bool false]]) (by simp [results, Try.results51, go_sem, k20, k21]) rfl ⟨_, _, _, _, rfl, ?_, rfl, HS.out.dropE (Nat.le_refl _)⟩
          exact ((hB1.setCell (p := ⟨w.heap.size + 1, 0, none⟩) (by simp) _).setCell (p := ⟨w.heap.size + 1, 1, none⟩) (by simp) _).drew
      · go_region_held3 (fun w' : World => w'.cell? ⟨q, 0, none⟩ = some (.slice a1 n1 c1) ∧ Below w0.heap.size w0 w') (first | assumption | exact ⟨by simp [go_sem, *], (Below.setCell (p := ⟨w.heap.size + 1, 1, none⟩) (Below.setCell (p := ⟨w.heap.size + 1, 0, none⟩) hbW (by simp; omega) _) (by simp; omega) _).drew⟩) (fail)
        all_goals
          go_wp2_with fail
          refine bodyPost_ret (v := .tuple #[.string (toS (l.take k)), .agg #[.slice (Option.map (fun x => x.add k) a1) (n1 - k) (c1 - k), .bool false]]) (by simp [results, Try.results51, go_sem, k20, k21]) rfl ⟨_, _, _, _, rfl, ?_, rfl, HS.out.dropG k hkn⟩
          exact ((hB1.setCell (p := ⟨w.heap.size + 1, 0, none⟩) (by simp) _).setCell (p := ⟨w.heap.size + 1, 1, none⟩) (by simp) _).drew
    · have hE : textOf ((k : Int), some l) = ([], none) := by simp [textOf]; omega
      have hx := HX.out
      rw [hE] at hx
      cases hx
      clear HX hr hlt hq
      have hkI : (n1 : Int) < (k : Int) := by omega
      have hkN : n1 < k := by omega
      clear hs1 hln hE hkl
      go_upto_region 3 with fail
      generalize w1.alloc (.cells #[.slice a1 n1 c1, .bool false] 86) = W1 at *
      (repeat ((fail_if_success (with_reducible show wpList _ _ _ (Oper.mk _ (Op.store _ _ _) _ _ _ _ :: _) _ _)); first | go_values | go_skip | go_guarded | go_step | go_upon))
      go_at_call 62
      refine (failed_any _).mono ?_
      rintro e w2 ⟨rfl, hb⟩
      dsimp only
      have hr := (hb.block _ (blk_cell HR.out).2.2).trans HR.out
      (repeat ((fail_if_success (with_reducible show wpList _ _ _ (Oper.mk _ (Op.store _ _ _) _ _ _ _ :: _) _ _)); first | go_values | go_skip | go_guarded | go_step | go_upon))
      refine wpList_store_seg (w := w2) rfl 86 _ _ rfl rfl (w.heap.size + 1) 0 rfl #[.slice none 0 0, .bool true] rfl 86 #[.slice none 0 0, .bool false] hr (by simp) info_in one_in #[.slice none 0 0, .bool true] rfl ?_
      intro w3 hq hk2 _
      have hc := (blk_cell hq).1
      have hc0 := hc 0
      have hc1 := hc 1
      clear hc
      go_wp2_with fail
      exact bodyPost_ret (v := .tuple #[.string ⟨#[]⟩, .agg #[.slice none 0 0, .bool true]]) (by simp [results, Try.results51, go_sem, hc0, hc1]) rfl ⟨_, _, _, _, rfl, (Below.next hB1 hb).grown hk2 (Below.next hB1 hb).size (fun k hk => by cases hk; omega), rfl, rfl, rfl, rfl⟩

end

section
open Go.RowKit

def boxAt (w : World) (g : Nat) : Array Value := match w.heap[g]? with
  | some (.cells cs _ _) => cs
  | _ => #[]
/-- The block g holds a value of type t, n cells, none of them frozen. -/
def isBoxW (w : World) (g : Nat) (t : TypeId) (n : Nat) : Bool := match w.heap[g]? with
  | some (.cells cs t' fr) => t' == t && cs.size == n && fr == (0, 0)
  | _ => false
theorem boxW_of {w : World} {g : Nat} {t : TypeId} {X : Array Value} {n : Nat} (h : w.heap[g]? = some (.cells X t (0, 0))) (hn : X.size = n) : isBoxW w g t n = true ∧ boxAt w g = X := by
  unfold isBoxW boxAt
  rw [h]
  simp [hn]
theorem of_boxW {w : World} {g : Nat} {t : TypeId} {n : Nat} (h : isBoxW w g t n = true) : w.heap[g]? = some (.cells (boxAt w g) t (0, 0)) ∧ (boxAt w g).size = n := by
  unfold isBoxW at h
  split at h
  · rename_i cs t' fr hc
    simp only [Bool.and_eq_true, beq_iff_eq] at h
    obtain ⟨⟨rfl, hs⟩, rfl⟩ := h
    have e : boxAt w g = cs := by unfold boxAt; rw [hc]
    rw [e]
    exact ⟨hc, hs⟩
  · cases h
theorem boxW_kept {W W' : World} {g : Nat} {t : TypeId} {n : Nat} {X : Array Value} (h : isBoxW W g t n = true ∧ boxAt W g = X) (hb : W'.heap[g]? = W.heap[g]?) : isBoxW W' g t n = true ∧ boxAt W' g = X := by
  unfold isBoxW boxAt at *
  rw [hb]
  exact h
theorem boxW_lt {W : World} {g : Nat} {t : TypeId} {n : Nat} {X : Array Value} (h : isBoxW W g t n = true ∧ boxAt W g = X) : g < W.heap.size := (blk_cell (of_boxW h.1).1).2.2
theorem boxW_below {W W' : World} {g : Nat} {t : TypeId} {n : Nat} {X : Array Value} (h : isBoxW W g t n = true ∧ boxAt W g = X) (hb : Below W.heap.size W W') : isBoxW W' g t n = true ∧ boxAt W' g = X :=
  boxW_kept h (hb.block _ (boxW_lt h))
@[go_sem] theorem isBoxW_drew (w : World) (g : Nat) (t : TypeId) (n : Nat) : isBoxW w.drew g t n = isBoxW w g t n := rfl
@[go_sem] theorem boxAt_drew (w : World) (g : Nat) : boxAt w.drew g = boxAt w g := rfl
@[go_sem] theorem isBoxW_setRow (w : World) (q g : Nat) (cs : Array Value) (t : TypeId) (n : Nat) (h : ¬ g = q) : isBoxW (w.setRow q cs) g t n = isBoxW w g t n := by
  unfold isBoxW
  rw [setRow_other w q g cs h]
@[go_sem] theorem boxAt_setRow (w : World) (q g : Nat) (cs : Array Value) (h : ¬ g = q) : boxAt (w.setRow q cs) g = boxAt w g := by
  unfold boxAt
  rw [setRow_other w q g cs h]
@[go_sem] theorem cell_setRow (w : World) (q g o : Nat) (cs : Array Value) (h : ¬ g = q) : (w.setRow q cs).cell? ⟨g, o, none⟩ = w.cell? ⟨g, o, none⟩ := by
  unfold World.cell?
  rw [setRow_other w q g cs h]
@[go_sem] theorem frozen_setRow (w : World) (q g o : Nat) (cs : Array Value) (h : ¬ g = q) : (w.setRow q cs).frozen? ⟨g, o, none⟩ = w.frozen? ⟨g, o, none⟩ := by
  unfold World.frozen?
  rw [setRow_other w q g cs h]

def storeBoxA (p v : Value) : Sem Unit := Instr.storeAt 24 p v
@[go_sem ↓ high] theorem storeAt_boxA (p v : Value) : Instr.storeAt 24 p v = storeBoxA p v := rfl
@[go_sem] theorem run_load_arr (w : World) (g : Nat) (h : isBoxW w g 24 32 = true) : (loadArr (.pointer (some ⟨g, 0, none⟩))).run Try.prog w = .ok (.agg (boxAt w g)) w := by
  obtain ⟨h1, h2⟩ := of_boxW h
  have := run_loadVar_seg (P := Try.prog) w g 0 24 24 (boxAt w g) (0, 0) _ 32 h1 (by omega) Try.underlying24 rfl size_arr
  rw [show (boxAt w g).extract 0 (0 + 32) = boxAt w g by simp [← h2]] at this
  simp only [loadArr, Instr.loadAt, Instr.sureAddr, Sem.run_bind, Sem.run_pure, Result.andThen_ok, this]
@[go_sem] theorem run_store_arr (w : World) (g : Nat) (cs : Array Value) (h : isBoxW w g 24 32 = true) (hn : cs.size = 32) (h1 : ones cs = true) :
    (storeBoxA (.pointer (some ⟨g, 0, none⟩)) (.agg cs)).run Try.prog w = .ok () (w.setRow g cs) := by
  obtain ⟨hb, h2⟩ := of_boxW h
  have hst := run_storeCells_at Try.prog g 0 24 cs.toList 0 (boxAt w g) w hb (by simp; omega) (fun v hv => by
    unfold ones at h1
    rw [Array.all_eq_true_iff_forall_mem] at h1
    exact h1 v (by simpa using hv))
  have hp := put_whole (boxAt w g) cs (by omega)
  unfold put at hp
  cases hq : Try.prog.info? 24 with
  | none => have := size_arr; simp [hq] at this
  | some i =>
    have hs : i.size = cs.size := by have := size_arr; simp [hq] at this; omega
    simp only [Nat.add_zero, Array.length_toList, List.take_zero, List.nil_append] at hst hp
    simp only [Nat.zero_add] at hp
    have hrun : (storeVar 24 ⟨g, 0, none⟩ (.agg cs)).run Try.prog w = .ok () (w.setRow g cs) := by
      simp [storeVar, Value.cells, sizeOf, typeInfo, hq, hs, hst, hp]
    simp only [storeBoxA, Instr.storeAt, Instr.sureAddr, Sem.run_bind, Sem.run_pure, Result.andThen_ok, hrun]

theorem results_cells2 {P : Program} {fn : Func} {p p' : Tmp} {ty ty' : TypeId} (h : fn.results = #[.cell p ty, .cell p' ty']) (tmps : Array Value) (w : World) (g g' : Nat) (t t' : TypeId) (cs cs' : Array Value) (fr fr' : Nat × Nat) (d d' : TypeDesc)
    (hp : tmps.getD p undef = .pointer (some ⟨g, 0, none⟩)) (hp' : tmps.getD p' undef = .pointer (some ⟨g', 0, none⟩)) (hg : w.heap[g]? = some (.cells cs t fr)) (hg' : w.heap[g']? = some (.cells cs' t' fr'))
    (hu : P.underlying ty = some d) (hd : (match d with | .struct _ | .array _ _ => true | _ => false) = true) (hi : (P.info? ty).map (·.size) = some cs.size)
    (hu' : P.underlying ty' = some d') (hd' : (match d' with | .struct _ | .array _ _ => true | _ => false) = true) (hi' : (P.info? ty').map (·.size) = some cs'.size) :
    (results fn tmps).run P w = .ok (.tuple #[.agg cs, .agg cs']) w := by
  have hq : tmps[p]?.getD undef = .pointer (some ⟨g, 0, none⟩) := by simpa using hp
  have hq' : tmps[p']?.getD undef = .pointer (some ⟨g', 0, none⟩) := by simpa using hp'
  simp [results, h, hq, hq', asAddr, run_loadVar_row w g t ty cs fr d hg hu hd hi, run_loadVar_row w g' t' ty' cs' fr' d' hg' hu' hd' hi']
theorem heap_setCell_other (w : World) (g o k : Nat) (u : Value) (h : k ≠ g) : (w.setCell ⟨g, o, none⟩ u).heap[k]? = w.heap[k]? := by
  simp [World.setCell, Array.getElem?_modify, Ne.symm h]

theorem grown_setRow (w : World) (g : Nat) (cs : Array Value) : w.grownBy (w.setRow g cs) (some g) := ⟨rfl, rfl, rfl, by simp, fun k _ hk => setRow_other w g k _ (fun e => hk (by rw [e]))⟩
/-- A box, then a reader are stored: what lies there. -/
theorem fin_heap {W : World} {q2 q3 : Nat} {cur cs : Array Value} {t t' : TypeId} {u v x y : Value} (h2 : W.heap[q2]? = some (.cells cur t (0, 0))) (h3 : W.heap[q3]? = some (.cells #[u, v] t' (0, 0))) (hne : q2 ≠ q3) :
    (((W.setRow q2 cs).setCell ⟨q3, 0, none⟩ x).setCell ⟨q3, 1, none⟩ y).heap[q2]? = some (.cells cs t (0, 0)) ∧
    (((W.setRow q2 cs).setCell ⟨q3, 0, none⟩ x).setCell ⟨q3, 1, none⟩ y).heap[q3]? = some (.cells #[x, y] t' (0, 0)) := by
  refine ⟨?_, set2 ((setRow_other W q2 q3 cs (Ne.symm hne)).trans h3)⟩
  rw [Below.heap_setCell _ _ _ _ hne, Below.heap_setCell _ _ _ _ hne]
  exact setRow_heap W q2 cur cs t (0, 0) h2
theorem fin_below {w W : World} {q2 q3 : Nat} {cs : Array Value} {x y : Value} (hb : Below w.heap.size w W) (h2 : w.heap.size ≤ q2) (h3 : w.heap.size ≤ q3) :
    Below w.heap.size w (((W.setRow q2 cs).setCell ⟨q3, 0, none⟩ x).setCell ⟨q3, 1, none⟩ y) :=
  ((hb.grown (grown_setRow W q2 cs) hb.size (fun k hk => by cases hk; exact h2)).setCell (p := ⟨q3, 0, none⟩) h3 x).setCell (p := ⟨q3, 1, none⟩) h3 y

end

section
open Go.RowKit

def litZ : Array Value := #[.int .u8 0, .int .u8 0, .int .u8 0, .int .u8 0, .int .u8 0, .int .u8 0, .int .u8 0, .int .u8 0, .int .u8 0, .int .u8 0, .int .u8 0, .int .u8 0, .int .u8 0, .int .u8 0, .int .u8 0, .int .u8 0, .int .u8 0, .int .u8 0, .int .u8 0, .int .u8 0, .int .u8 0, .int .u8 0, .int .u8 0, .int .u8 0, .int .u8 0, .int .u8 0, .int .u8 0, .int .u8 0, .int .u8 0, .int .u8 0, .int .u8 0, .int .u8 0]
theorem zero32_at {k : Nat} (h : k < 32) : zero32[k]? = some 0 := by unfold zero32; rw [List.getElem?_replicate, if_pos h]
theorem zero32_drop {k : Nat} (h : k < 32) : zero32.drop k = 0 :: zero32.drop (k + 1) := by
  have hl : k < zero32.length := h
  rw [List.drop_eq_getElem_cons hl]
  have := zero32_at h
  rw [List.getElem?_eq_getElem hl] at this
  rw [Option.some.inj this]
theorem id_at {l : List Int} {k n : Nat} (h : k < 32) (hl : l.length = n) (hk : k < n) : (idC (l.take k ++ zero32.drop k))[k]? = some (.int .u8 0) := by
  have h1 : (l.take k).length = k := by rw [List.length_take]; omega
  rw [zero32_drop h]
  simp only [idC, List.getElem?_toArray, List.getElem?_map]
  rw [List.getElem?_append_right (by omega), h1, Nat.sub_self]
  rfl
theorem id_step {l : List Int} {k : Nat} {x : Int} (h : k < 32) (hx : l[k]? = some x) : (idC (l.take k ++ zero32.drop k)).setIfInBounds k (.int .u8 x) = idC (l.take (k + 1) ++ zero32.drop (k + 1)) := by
  obtain ⟨hk, _⟩ := List.getElem?_eq_some_iff.1 hx
  have h1 : ((l.take k).map (Value.int .u8)).length = k := by rw [List.length_map, List.length_take]; omega
  rw [take_snoc' hx, zero32_drop h]
  apply Array.ext'
  simp only [idC, List.setIfInBounds_toArray, List.map_append, List.map_cons]
  rw [List.set_append_right _ _ (by omega), h1, Nat.sub_self, List.set_cons_zero]
  simp

set_option maxRecDepth 100000 in
set_option maxHeartbeats 2000000 in
theorem rgid_any (s : Rd) (a : Option Addr) (n c : Nat) (b : Bool) (w0 w : World) (hbw : Below w0.heap.size w0 w) (h : InC w0 s a n c b) :
    Calls Try.prog 52 #[.agg #[.slice a n c, .bool b]] w (RetC w0 w (.agg (idC (getId s).1)) (getId s).2) := by
  obtain ⟨d, s1, hx⟩ : ∃ d s1, getId s = (d, s1) := ⟨_, _, rfl⟩
  rw [hx]
  have HX := Lib.hid hx
  have HI := Lib.hid h
  clear hx h
  simp only
  go_enter Try.func52, Try.ntmps52
  go_upto_region 1 with fail
  obtain ⟨W0, hW0⟩ : ∃ W0, W0 = ((w.alloc (.cells #[.slice a n c, .bool b] 86)).alloc (.cells litZ 24)).alloc (.cells #[.slice none 0 0, .bool false] 86) := ⟨_, rfl⟩
  have hB0 : Below w.heap.size w W0 := by rw [hW0]; exact (((Below.refl _ _).alloc (Nat.le_refl _) _).alloc (by simp) _).alloc (by simp; omega) _
  have hb1 : W0.heap[w.heap.size]? = some (.cells #[.slice a n c, .bool b] 86 (0, 0)) := by
    rw [hW0, Below.heap_alloc _ _ _ (by simp; omega), Below.heap_alloc _ _ _ (by simp)]
    exact blk0 w _ _
  have hb2 : W0.heap[w.heap.size + 1]? = some (.cells litZ 24 (0, 0)) := by
    have := blk0 (w.alloc (.cells #[.slice a n c, .bool b] 86)) litZ 24
    rw [hW0, Below.heap_alloc _ _ _ (by simp)]
    simpa using this
  have hb3 : W0.heap[w.heap.size + 2]? = some (.cells #[.slice none 0 0, .bool false] 86 (0, 0)) := by
    have := blk0 ((w.alloc (.cells #[.slice a n c, .bool b] 86)).alloc (.cells litZ 24)) #[.slice none 0 0, .bool false] 86
    rw [hW0]
    simpa using this
  have hsz : W0.heap.size = w.heap.size + 3 := by rw [hW0]; simp
  unfold litZ at hW0
  rw [← hW0]
  clear hW0
  have hz := blk0 W0 litZ 24
  have hA : Below W0.heap.size W0 (W0.alloc (.cells litZ 24)) := (Below.refl _ _).alloc (Nat.le_refl _) _
  have hb1 := (hA.block _ (blk_cell hb1).2.2).trans hb1
  have hb2 := (hA.block _ (blk_cell hb2).2.2).trans hb2
  have hb3 := (hA.block _ (blk_cell hb3).2.2).trans hb3
  have hB0 := Below.next hB0 hA
  rw [hsz] at hz
  have hx1 := boxW_of hb2 (n := 32) rfl
  have hx2 := boxW_of hz (n := 32) rfl
  have hc10 := (blk_cell hb1).1 0
  have hc11 := (blk_cell hb1).1 1
  have HB3 := Lib.hid hb3
  have HB2 := Lib.hid hb2
  have HB1 := Lib.hid hb1
  simp only [List.getElem?_toArray, List.getElem?_cons_zero, List.getElem?_cons_succ] at hc10 hc11
  clear hA hb1 hb2 hb3
  (repeat ((fail_if_success (with_reducible show wpList _ _ _ (Oper.mk _ (Op.store _ _ _) _ _ _ _ :: _) _ _)); first | go_values | go_skip | go_guarded | go_step | go_upon))
  refine wpList_store_idle (w := W0.alloc (.cells litZ 24)) rfl 24 _ _ rfl rfl (w.heap.size + 3) rfl litZ rfl 24 hz size_arr (cells_id zero32) ?_
  generalize W0.alloc (.cells litZ 24) = W1 at *
  clear hz
  by_cases hbad : b = true ∨ n < 32
  · have hE : d = zero32 ∧ s1 = none := by
      have hx := HX.out
      have hi := HI.out
      cases s with
      | none => cases hx; exact ⟨rfl, rfl⟩
      | some l =>
        have hb : b = false := hi.1
        have hl : l.length = n := hi.2.length
        unfold getId at hx
        simp only at hx
        rw [if_neg (by rcases hbad with h | h; (rw [h] at hb; cases hb); omega)] at hx
        cases hx
        exact ⟨rfl, rfl⟩
    obtain ⟨rfl, rfl⟩ := hE
    have hcond : b = true ∨ (b = false ∧ (n : Int) < 32) := by
      rcases hbad with h | h
      · exact .inl h
      · cases b
        · exact .inr ⟨rfl, by omega⟩
        · exact .inl rfl
    clear hbad HX
    have hz1 : litZ.size = 32 := rfl
    have hz2 : ones litZ = true := ones_id zero32
    rcases hcond with rfl | ⟨rfl, hn32⟩
    all_goals
      go_upto_region 3 with fail
      go_region_law (go_simp; go_at_call 62; refine (failed_any _).mono ?_; rintro e w2 ⟨rfl, hb⟩; have hb := Below.next ((Below.refl W1.heap.size W1).drew) hb; have hx1 := boxW_below hx1 hb; have hx2 := boxW_below hx2 hb; have hr := (hb.block _ (blk_cell HB3.out).2.2).trans HB3.out; have hr0 := (blk_cell hr).1 0; have hr1 := (blk_cell hr).1 1; have hf0 := (blk_cell hr).2.1 0; have hf1 := (blk_cell hr).2.1 1; simp only [List.getElem?_toArray, List.getElem?_cons_zero, List.getElem?_cons_succ] at hr0 hr1)
      all_goals
        go_wp2_with fail
        have hF := fin_heap (cs := litZ) (x := .slice none 0 0) (y := .bool true) (of_boxW hx1.1).1 hr (by omega)
        refine bodyPost_ret (results_cells2 rfl _ _ (w.heap.size + 1) (w.heap.size + 2) 24 86 litZ #[.slice none 0 0, .bool true] (0, 0) (0, 0) _ _ rfl rfl hF.1 hF.2 Try.underlying24 rfl size_arr Try.underlying86 rfl info_in) rfl ?_
        exact ⟨_, _, _, _, rfl, fin_below (Below.next hB0 hb) (by omega) (by omega), rfl, rfl, rfl, rfl⟩
  · obtain ⟨l, rfl⟩ : ∃ l, s = some l := by
      have hi := HI.out
      cases s with
      | none => exact absurd (.inl hi.2.2.2) hbad
      | some l => exact ⟨l, rfl⟩
    obtain ⟨rfl, hs0⟩ := HI.out
    have hln := hs0.length
    have hn32 : 32 ≤ n := by
      rcases Nat.lt_or_ge n 32 with h | h
      · exact absurd (.inr h) hbad
      · exact h
    have hx := HX.out
    unfold getId at hx
    simp only at hx
    rw [if_pos (by omega)] at hx
    cases hx
    have hnI : ¬ (n : Int) < 32 := by omega
    have hnd : decide ((n : Int) < 32) = false := by simp; omega
    have hnN : ¬ n < 32 := by omega
    have hnNd : decide (n < 32) = false := by simp; omega
    clear hbad HX
    have hr4 := (of_boxW hx2.1).1
    rw [hx2.2] at hr4
    have hr2 := HB2.out
    have hr3 := HB3.out
    have hr1 : W1.heap[w.heap.size]? = some (.cells #[.slice a n c, .bool false] 86 (0, 0)) := HB1.out
    go_upto_region 5 with fail
    clear hc10 hc11
    have HLN := Lib.hid hln
    clear hln hx1 hx2 HB1 HB2 HB3 hsz
    go_loopw [5] (fun i wr => ∃ k : Nat, k ≤ 32 ∧ i = .int .i64 k ∧ Below w.heap.size w wr ∧ wr.heap[w.heap.size]? = some (.cells #[.slice a n c, .bool false] 86 (0, 0)) ∧ wr.heap[w.heap.size + 1]? = some (.cells litZ 24 (0, 0)) ∧
      wr.heap[w.heap.size + 2]? = some (.cells #[.slice none 0 0, .bool false] 86 (0, 0)) ∧ wr.heap[w.heap.size + 3]? = some (.cells (idC (l.take k ++ zero32.drop k)) 24 (0, 0))) (fun i _ => 32 - (intOf i).toNat)
    case atStart => exact ⟨0, Nat.zero_le _, rfl, hB0, hr1, hr2, hr3, hr4⟩
    case round =>
      clear hr1 hr2 hr3 hr4 hB0
      obtain ⟨k, hk, rfl, hB, hr1, hr2, hr3, hr4⟩ := hrel
      have hBw := Below.next hbw hB
      have hc10 := (blk_cell hr1).1 0
      simp only [List.getElem?_toArray, List.getElem?_cons_zero] at hc10
      by_cases hk32 : k < 32
      · obtain ⟨b, off, x, rfl, hx, hc⟩ := (hs0.below hBw).cellAt (k := k) (by omega)
        have hcs := id_at (l := l) hk32 HLN.out (by omega)
        have hc4 := (blk_cell hr4).1 k
        rw [hcs] at hc4
        have hf4 := (blk_cell hr4).2.1 k
        have hsame := heap_setCell_same wr (w.heap.size + 3) k _ _ (.int .u8 x) hr4
        have HX := Lib.hid hx
        have HS := Lib.hid hsame
        have hkn : (k : Int) < (n : Int) := by omega
        have hk0 : (0 : Int) ≤ (k : Int) := by omega
        have hk3 : (k : Int) < 32 := by omega
        have R1 := Lib.hid hr1; have R2 := Lib.hid hr2; have R3 := Lib.hid hr3
        clear hx hcs hsame hr1 hr2 hr3 hr4
        go_wp2_with fail
        go_roundw
        case rel =>
          refine ⟨k + 1, by omega, by go_num, hB.setCell (p := ⟨w.heap.size + 3, k, none⟩) (by simp) _, ?_, ?_, ?_, ?_⟩
          · rw [Below.heap_setCell _ _ _ _ (by simp)]; exact R1.out
          · rw [Below.heap_setCell _ _ _ _ (by simp)]; exact R2.out
          · rw [Below.heap_setCell _ _ _ _ (by simp)]; exact R3.out
          · rw [HS.out]
            rw [id_step hk32 HX.out]
        case measure => simp [intOf]; omega
      · obtain rfl : k = 32 := by omega
        have hd : idC (l.take 32 ++ zero32.drop 32) = idC (l.take 32) := by rw [show zero32.drop 32 = [] from rfl, List.append_nil]
        rw [hd] at hr4
        have hDs : (idC (l.take 32)).size = 32 := by simp [idC, HLN.out]; omega
        have hDo := ones_id (l.take 32)
        clear hd hk
        generalize hDe : idC (l.take 32) = D at *
        have hx4 := boxW_of hr4 hDs
        have hx2 := boxW_of hr2 (n := 32) rfl
        have k30 := (blk_cell hr3).1 0
        have k31 := (blk_cell hr3).1 1
        have f30 := (blk_cell hr3).2.1 0
        have f31 := (blk_cell hr3).2.1 1
        simp only [List.getElem?_toArray, List.getElem?_cons_zero, List.getElem?_cons_succ] at k30 k31
        have R2 := Lib.hid hr2; have R3 := Lib.hid hr3
        clear hr1 hr2 hr3 hr4 hBw
        have h32n : (32 : Int) ≤ (n : Int) := by omega
        have hle := hs0.le
        have h32c : (32 : Int) ≤ (c : Int) := by omega
        have hnc : (n : Int) ≤ (c : Int) := by omega
        have HS0 := Lib.hid hs0
        by_cases hcc : c = 32
        · subst hcc
          obtain rfl : n = 32 := by omega
          clear hs0 hle hnN hnI hnNd hnd h32n h32c hnc hn32
          go_upto_region 8 with fail
          go_region_law (fail)
          all_goals
            go_wp2_with fail
            have hF := fin_heap (W := wr.drew) (cs := D) (x := .slice a 0 0) (y := .bool false) R2.out R3.out (by omega)
            refine bodyPost_ret (results_cells2 rfl _ _ (w.heap.size + 1) (w.heap.size + 2) 24 86 D #[.slice a 0 0, .bool false] (0, 0) (0, 0) _ _ rfl rfl hF.1 hF.2 Try.underlying24 rfl (by rw [hDs]; exact size_arr) Try.underlying86 rfl info_in) rfl ?_
            rw [← hDe]
            exact ⟨_, _, _, _, rfl, fin_below hB.drew (by omega) (by omega), rfl, HS0.out.dropE (Nat.le_refl _)⟩
        · obtain ⟨b0, off0, rfl, _⟩ := hs0.cells (by omega)
          clear hs0 hle
          go_upto_region 8 with fail
          go_region_law (fail)
          all_goals
            go_wp2_with fail
            have hF := fin_heap (W := wr.drew) (cs := D) (x := .slice (some ⟨b0, off0 + 32, none⟩) (n - 32) (c - 32)) (y := .bool false) R2.out R3.out (by omega)
            refine bodyPost_ret (results_cells2 rfl _ _ (w.heap.size + 1) (w.heap.size + 2) 24 86 D #[.slice (some ⟨b0, off0 + 32, none⟩) (n - 32) (c - 32), .bool false] (0, 0) (0, 0) _ _ rfl rfl hF.1 hF.2 Try.underlying24 rfl (by rw [hDs]; exact size_arr) Try.underlying86 rfl info_in) rfl ?_
            rw [← hDe]
            exact ⟨_, _, _, _, rfl, fin_below hB.drew (by omega) (by omega), rfl, HS0.out.drop 32 (by omega)⟩

end

end Go.Proofs.Ytfjbmgfkfeehnaa
