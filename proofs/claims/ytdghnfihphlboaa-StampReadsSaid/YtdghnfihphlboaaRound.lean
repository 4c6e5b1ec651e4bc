/- What is written is read again; a beginning of it is not: plain laws. -/
import Derived.Test.YtdghnfihphlboaaAlive
namespace Go.Proofs.Ytdghnfihphlboaa

theorem rnum_round (most : Int) (r : List Int) (n : Nat) : ∀ (i acc : Nat), acc < 128 ^ i → (n ≠ 0 ∨ i = 0) → ((acc + n * 128 ^ i : Nat) : Int) ≤ most → acc + n * 128 ^ i ≤ 4611686018427387904 →
    rnum most i acc (numB n ++ r) = some (((acc + n * 128 ^ i : Nat) : Int), r) := by
  induction n using Nat.strongRecOn with
  | ind n ih =>
    intro i acc hacc hn hm hb
    by_cases h : n < 128
    · rw [numB_lt h, List.singleton_append, rnum.eq_def]
      simp only []
      have e : ((n : Int) % 128).toNat = n := by omega
      rw [if_pos (by omega), e, if_neg (by omega)]
    · rw [numB_ge h, List.cons_append, rnum.eq_def]
      simp only []
      have hpos : 0 < 128 ^ i := Nat.pow_pos (by omega)
      have hi : i < 8 := by
        rcases Nat.lt_or_ge i 8 with h8 | h8
        · exact h8
        · have h9 : (128 : Nat) ^ 8 ≤ 128 ^ i := Nat.pow_le_pow_right (by omega) h8
          have h10 : 128 * 128 ^ i ≤ n * 128 ^ i := Nat.mul_le_mul_right _ (by omega)
          have h11 : (128 : Nat) ^ 8 = 72057594037927936 := by decide
          omega
      have e : (((n % 128 + 128 : Nat) : Int) % 128).toNat = n % 128 := by omega
      have hsplit : acc + n % 128 * 128 ^ i + n / 128 * 128 ^ (i + 1) = acc + n * 128 ^ i := by
        rw [Nat.pow_succ, Nat.mul_comm (128 ^ i) 128, ← Nat.mul_assoc, Nat.add_assoc, ← Nat.add_mul]
        congr 2
        omega
      rw [if_neg (by omega), if_pos hi, e, ih (n / 128) (by omega) (i + 1) (acc + n % 128 * 128 ^ i) ?_ (.inl (by omega)) (by rw [hsplit]; exact hm) (by rw [hsplit]; exact hb), hsplit]
      have : n % 128 * 128 ^ i ≤ 127 * 128 ^ i := Nat.mul_le_mul_right _ (by omega)
      rw [Nat.pow_succ]
      omega

theorem getNum_round (most n : Int) (r : List Int) (h0 : 0 ≤ n) (hm : n ≤ most) (hb : n ≤ 4611686018427387904) : getNum most (some (numL n ++ r)) = (n, some r) := by
  unfold getNum numL
  simp only []
  rw [clampN_of h0 hb, rnum_round most r n.toNat 0 0 (by simp) (.inr rfl) (by simp; omega) (by simp; omega)]
  simp
  omega
theorem getSt_round (s : St) (r : List Int) (h0 : 0 ≤ s.t) (h1 : s.t ≤ 1099511627776) (h2 : 0 ≤ s.r) (h3 : s.r ≤ 65536) : getSt (some (stL s ++ r)) = (s, some r) := by
  unfold getSt stL
  rw [List.append_assoc, getNum_round _ _ _ h0 h1 (by omega)]
  simp only []
  rw [getNum_round _ _ _ h2 h3 (by omega)]
theorem stRight_bd {s : St} (h : stRight s = true) : 0 ≤ s.t ∧ s.t ≤ 1099511627776 ∧ 0 ≤ s.r ∧ s.r ≤ 65536 := by
  simp only [stRight, decide_eq_true_eq] at h
  omega
theorem getSt_right (s : St) (r : List Int) (h : stRight s = true) : getSt (some (stL s ++ r)) = (s, some r) := by
  have := stRight_bd h
  exact getSt_round s r this.1 this.2.1 this.2.2.1 this.2.2.2
theorem getText_round (s : ByteArray) (r : List Int) (h : s.size ≤ 60) : getText 60 (some (textL s ++ r)) = (strB s, some r) := by
  unfold getText textL
  rw [List.append_assoc, getNum_round _ _ _ (by omega) (by omega) (by omega)]
  have hl := strB_len s
  unfold textOf
  simp only []
  rw [if_pos (by simp [hl])]
  simp [← hl]
theorem toS_strB (s : ByteArray) : toS (strB s) = s := by
  unfold toS strB strOfNums
  have : (s.data.toList.map fun b => (b.toNat : Int)).map (fun n => UInt8.ofNat n.toNat) = s.data.toList := by
    rw [List.map_map]
    conv => rhs; rw [← List.map_id s.data.toList]
    apply List.map_congr_left
    intro b _
    simp
  rw [this]
theorem getId_round (d r : List Int) (h : d.length = 32) : getId (some (d ++ r)) = (d, some r) := by
  unfold getId
  simp only []
  rw [if_pos (by simp; omega), ← h]
  simp
theorem getSts_round (r : List Int) : ∀ (l : List St), (∀ s ∈ l, stRight s = true) → getSts l.length (some (oversL l ++ r)) = (l, some r)
  | [], _ => rfl
  | s :: l, h => by
    have ih := getSts_round r l (fun x hx => h x (by simp [hx]))
    have hs : getSt (some (oversL (s :: l) ++ r)) = (s, some (oversL l ++ r)) := by
      unfold oversL
      rw [List.flatMap_cons, List.append_assoc]
      exact getSt_right s _ (h s (by simp))
    rw [List.length_cons, getSts, hs, ih]

theorem name_inj {a b : ByteArray} (h : (a.toList == b.toList) = true) : a = b := by
  rw [beq_iff_eq, ByteArray.toList_eq, ByteArray.toList_eq] at h
  cases a
  cases b
  congr
  exact Array.toList_inj.1 h
theorem sameB_iff (a b : OpL) : sameB a b = true ↔ a = b := by
  constructor
  · intro h
    simp only [sameB, Bool.and_eq_true, decide_eq_true_eq] at h
    obtain ⟨⟨⟨⟨⟨⟨h1, h2⟩, h3⟩, h4⟩, h5⟩, h6⟩, h7⟩ := h
    have h5 := name_inj h5
    cases a; cases b
    simp_all
  · intro h
    subst h
    simp [sameB]
theorem name_nil {s : ByteArray} (h : (s.toList == []) = true) : s = ⟨#[]⟩ := name_inj (by simpa [ByteArray.toList_eq] using h)
theorem over_right {o : OpL} (h : overOk o.at_ o.over = true) : ∀ s ∈ o.over, stRight s = true := by
  intro s hs
  obtain ⟨k, hk⟩ := List.getElem?_of_mem hs
  have hlt := (List.getElem?_eq_some_iff.1 hk).1
  have := (overOk_iff _ _).1 h k hlt
  unfold overAt at this
  rw [hk] at this
  simp only [Bool.and_eq_true] at this
  exact this.1.1

theorem getRaw_round (o : OpL) (r : List Int) (hd : o.data.length = 32) (h : goodB o = true) : getRaw (some (putL o ++ r)) = (o, some r) := by
  have hg := h
  simp only [goodB, Bool.and_eq_true] at h
  obtain ⟨⟨h1, h2⟩, h3⟩ := h
  have hp : putL o ++ r = numL o.kind ++ (stL o.at_ ++ (stL o.node ++ (tailL o ++ r))) := by rw [putL, if_pos hg]; simp only [List.append_assoc]
  rw [hp]
  by_cases hk : o.kind = 1
  · rw [if_pos hk] at h3
    simp only [moveB, Bool.and_eq_true, Bool.or_eq_true, decide_eq_true_eq] at h3
    obtain ⟨⟨⟨⟨h4, h5⟩, h6⟩, h7⟩, h8⟩ := h3
    have e1 : ∀ l, getNum 2 (some (numL o.kind ++ l)) = (o.kind, some l) := fun l => getNum_round 2 o.kind l (by omega) (by omega) (by omega)
    have e4 : ∀ l, getSt (some (stL o.parent ++ l)) = (o.parent, some l) := fun l => by
      rcases h5 with h5 | h5
      · exact getSt_right _ _ h5
      · simp only [stFixed, decide_eq_true_eq] at h5
        exact getSt_round _ _ (by omega) (by omega) (by omega) (by omega)
    have e5 : ∀ l, getText 60 (some (textL o.name ++ l)) = (strB o.name, some l) := fun l => getText_round _ _ (by simp only [nameB, Bool.and_eq_true, decide_eq_true_eq] at h6; omega)
    have et : tailL o ++ r = stL o.parent ++ (textL o.name ++ r) := by rw [tailL, if_pos hk, List.append_assoc]
    unfold getRaw
    simp only [e1, getSt_right _ _ h1, getSt_right _ _ h2, et, e4, e5, toS_strB]
    rw [if_pos hk, ← h7]
    have : o.over = [] := List.eq_nil_of_length_eq_zero h8
    rw [← this]
  · rw [if_neg hk] at h3
    by_cases hk2 : o.kind = 2
    · rw [if_pos hk2] at h3
      simp only [editB, editH, Bool.and_eq_true, decide_eq_true_eq] at h3
      obtain ⟨⟨⟨⟨⟨h4, h5⟩, h6⟩, h7⟩, h8⟩, h9⟩ := h3
      have e1 : ∀ l, getNum 2 (some (numL o.kind ++ l)) = (o.kind, some l) := fun l => getNum_round 2 o.kind l (by omega) (by omega) (by omega)
      have e4 : ∀ l, getId (some (o.data ++ l)) = (o.data, some l) := fun l => getId_round _ _ hd
      have e5 : ∀ l, getNum 64 (some (numL o.over.length ++ l)) = ((o.over.length : Int), some l) := fun l => getNum_round _ _ _ (by omega) (by omega) (by omega)
      have e6 : getSts o.over.length (some (oversL o.over ++ r)) = (o.over, some r) := getSts_round r o.over (over_right h9)
      have et : tailL o ++ r = o.data ++ (numL o.over.length ++ (oversL o.over ++ r)) := by rw [tailL, if_neg hk]; simp only [List.append_assoc]
      unfold getRaw
      simp only [e1, getSt_right _ _ h1, getSt_right _ _ h2, et, e4, e5, Int.toNat_natCast, e6]
      rw [if_neg hk]
      have hpar : o.parent = ⟨0, 0⟩ := by
        have := (stEq_iff o.parent ⟨0, 0⟩).symm.trans h5
        simpa using this
      rw [← hpar, ← name_nil h6]
    · rw [if_neg hk2] at h3
      cases h3
theorem getOp_round (o : OpL) (r : List Int) (hd : o.data.length = 32) (h : goodB o = true) : getOp (some (putL o ++ r)) = (o, some r) := getOp_good (getRaw_round o r hd h) h

/-! What is read of bytes is read of these with more behind, too. -/
theorem rnum_ext (most : Int) (m : List Int) : ∀ (l : List Int) (i acc : Nat) (n : Int) (r : List Int), rnum most i acc l = some (n, r) → rnum most i acc (l ++ m) = some (n, r ++ m)
  | [], i, acc, n, r, h => by rw [rnum_nil] at h; cases h
  | b :: l, i, acc, n, r, h => by
    rw [List.cons_append, rnum.eq_def]
    rw [rnum.eq_def] at h
    simp only [] at h ⊢
    split at h
    · rename_i h1
      rw [if_pos h1]
      split at h
      · cases h
      · rename_i h2
        rw [if_neg h2]
        injection h with h
        injection h with h3 h4
        rw [h3, h4]
    · rename_i h1
      rw [if_neg h1]
      split at h
      · rename_i h2
        rw [if_pos h2]
        exact rnum_ext most m l _ _ n r h
      · cases h
/-- A reader's step: what it reads of bytes it reads of these with more behind; of a failed reader nothing. -/
structure Ext {α : Type} (f : Rd → α × Rd) : Prop where
  more : ∀ (l m r : List Int), (f (some l)).2 = some r → f (some (l ++ m)) = ((f (some l)).1, some (r ++ m))
  none : (f none).2 = none
theorem Ext.get {α : Type} {f : Rd → α × Rd} (h : Ext f) {s s' : Rd} {l : List Int} (m : List Int) (hs : ∀ l, s = some l → s' = some (l ++ m)) (hf : (f s).2 = some l) : (f s').1 = (f s).1 ∧ (f s').2 = some (l ++ m) := by
  cases s with
  | none => rw [h.none] at hf; cases hf
  | some k =>
    rw [hs k rfl, h.more k m l hf]
    exact ⟨rfl, rfl⟩
theorem Ext.some' {α : Type} {f : Rd → α × Rd} (h : Ext f) {s : Rd} {l : List Int} (hf : (f s).2 = some l) : ∃ k, s = some k := by
  cases s with
  | none => rw [h.none] at hf; cases hf
  | some k => exact ⟨k, rfl⟩
theorem getNum_ext (most : Int) : Ext (getNum most) := by
  refine ⟨fun l m r h => ?_, rfl⟩
  unfold getNum at h ⊢
  simp only [] at h ⊢
  cases hq : rnum most 0 0 l with
  | none => rw [hq] at h; cases h
  | some x =>
    obtain ⟨n, r'⟩ := x
    rw [hq] at h
    injection h with h
    subst h
    rw [rnum_ext most m l 0 0 n r' hq]
theorem textOf_ext (n : Int) : Ext (fun s => textOf (n, s)) := by
  refine ⟨fun l m r h => ?_, rfl⟩
  simp only [textOf] at h ⊢
  split at h
  · rename_i hl
    injection h with h
    subst h
    rw [if_pos (by simp; omega), List.take_append_of_le_length hl, List.drop_append_of_le_length hl, if_pos hl]
  · cases h
theorem getId_ext : Ext getId := by
  refine ⟨fun l m r h => ?_, rfl⟩
  unfold getId at h ⊢
  simp only [] at h ⊢
  split at h
  · rename_i hl
    injection h with h
    subst h
    rw [if_pos (by simp; omega), List.take_append_of_le_length hl, List.drop_append_of_le_length hl, if_pos hl]
  · cases h
theorem Ext.then {α β γ : Type} {f : Rd → α × Rd} {g : α → Rd → β × Rd} (h : Ext f) (hg : ∀ a, Ext (g a)) (c : α → β → γ) : Ext (fun s => (c (f s).1 (g (f s).1 (f s).2).1, (g (f s).1 (f s).2).2)) := by
  refine ⟨fun l m r hr => ?_, ?_⟩
  · simp only at hr ⊢
    obtain ⟨k, hk⟩ := (hg (f (some l)).1).some' hr
    have e := h.more l m k hk
    rw [e]
    simp only
    rw [hk] at hr ⊢
    rw [(hg (f (some l)).1).more k m r hr]
  · simp only [h.none]
    exact (hg _).none
theorem getSt_ext : Ext getSt := (getNum_ext 1099511627776).then (fun _ => getNum_ext 65536) St.mk
theorem getText_ext (most : Int) : Ext (getText most) := (getNum_ext most).then textOf_ext (fun _ t => t)
theorem getSts_ext : ∀ n, Ext (getSts n)
  | 0 => ⟨fun l m r h => by simp only [getSts] at h ⊢; cases h; rfl, rfl⟩
  | n + 1 => getSt_ext.then (fun _ => getSts_ext n) List.cons
theorem getRaw_ext : Ext getRaw := by
  have hm : ∀ (k : Int) (a n : St), Ext (fun s => ((⟨k, a, n, (getSt s).1, toS (getText 60 (getSt s).2).1, zero32, []⟩ : OpL), (getText 60 (getSt s).2).2)) := fun k a n =>
    getSt_ext.then (fun _ => getText_ext 60) (fun p t => (⟨k, a, n, p, toS t, zero32, []⟩ : OpL))
  have he : ∀ (k : Int) (a n : St), Ext (fun s => ((⟨k, a, n, ⟨0, 0⟩, ⟨#[]⟩, (getId s).1, (getSts (getNum 64 (getId s).2).1.toNat (getNum 64 (getId s).2).2).1⟩ : OpL), (getSts (getNum 64 (getId s).2).1.toNat (getNum 64 (getId s).2).2).2)) := fun k a n =>
    getId_ext.then (fun _ => (getNum_ext 64).then (fun x => getSts_ext x.toNat) (fun _ v => v)) (fun d v => (⟨k, a, n, ⟨0, 0⟩, ⟨#[]⟩, d, v⟩ : OpL))
  have hb : ∀ (k : Int) (a n : St), Ext (fun s => if k = 1 then ((⟨k, a, n, (getSt s).1, toS (getText 60 (getSt s).2).1, zero32, []⟩ : OpL), (getText 60 (getSt s).2).2) else
      ((⟨k, a, n, ⟨0, 0⟩, ⟨#[]⟩, (getId s).1, (getSts (getNum 64 (getId s).2).1.toNat (getNum 64 (getId s).2).2).1⟩ : OpL), (getSts (getNum 64 (getId s).2).1.toNat (getNum 64 (getId s).2).2).2)) := by
    intro k a n
    by_cases hk : k = 1
    · simp only [if_pos hk]; exact hm k a n
    · simp only [if_neg hk]; exact he k a n
  exact (getNum_ext 2).then (fun k => getSt_ext.then (fun a => getSt_ext.then (fun n => hb k a n) (fun _ y => y)) (fun _ y => y)) (fun _ y => y)
theorem getOp_some {s : Rd} {l : List Int} (h : (getOp s).2 = some l) : (getRaw s).2 = some l ∧ goodB (getRaw s).1 = true ∧ getOp s = getRaw s := by
  unfold getOp at h ⊢
  split at h
  · rename_i hc
    simp only [Bool.and_eq_true] at hc
    exact ⟨h, hc.2, by rw [if_pos (by simp [hc])]⟩
  · cases h
/-- A proper beginning of an operation's bytes is no operation. -/
theorem getOp_part (o : OpL) (k : Nat) (hd : o.data.length = 32) (h : goodB o = true) (hk : k < (putL o).length) : getOp (some ((putL o).take k)) = (zop, none) := by
  cases hq : (getOp (some ((putL o).take k))).2 with
  | none =>
    unfold getOp at hq ⊢
    split at hq
    · rename_i hc
      simp only [Bool.and_eq_true] at hc
      rw [hq] at hc
      simp at hc
    · rename_i hc
      rw [if_neg hc]
  | some r =>
    obtain ⟨h1, h2, h3⟩ := getOp_some hq
    have h4 := getRaw_ext.more _ ((putL o).drop k) r h1
    rw [List.take_append_drop] at h4
    have h5 := getRaw_round o [] hd h
    rw [List.append_nil, h4] at h5
    have h6 := congrArg Prod.snd h5
    simp only [Option.some.injEq, List.append_eq_nil_iff] at h6
    have h7 := congrArg List.length h6.2
    rw [List.length_drop, List.length_nil] at h7
    omega

end Go.Proofs.Ytdghnfihphlboaa
