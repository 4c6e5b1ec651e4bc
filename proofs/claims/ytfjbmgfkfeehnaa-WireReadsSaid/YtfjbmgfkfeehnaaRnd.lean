/- What is written of a letter is read again: plain laws. A right letter is read from its bytes: plain laws. What is read as a letter are the bytes of that letter: plain laws. -/
import Derived.Test.YtfjbmgfkfeehnaaWireR
namespace Go.Proofs.Ytfjbmgfkfeehnaa
section

theorem rnum_round (most : Int) (r : List Int) (n : Nat) : ∀ (i acc : Nat), acc < 128 ^ i → (n ≠ 0 ∨ i = 0) → ((acc + n * 128 ^ i : Nat) : Int) ≤ most → acc + n * 128 ^ i ≤ 4611686018427387904 →
    rnum most i acc (numB n ++ r) = some (((acc + n * 128 ^ i : Nat) : Int), r) := by
  induction n using Nat.strongRecOn with
  | ind n ih =>
    intro i acc hacc hn hm hb
    by_cases h : n < 128
    · rw [numB_lt h, List.singleton_append, rnum.eq_def]
      simp only []
      have e : ((n : Int) % 128).toNat = n := by omega
      rw [if_pos (by omega), e, if_neg (by omega)]
    · rw [numB_ge h, List.cons_append, rnum.eq_def]
      simp only []
      have hpos : 0 < 128 ^ i := Nat.pow_pos (by omega)
      have hi : i < 8 := by
        rcases Nat.lt_or_ge i 8 with h8 | h8
        · exact h8
        · have h9 : (128 : Nat) ^ 8 ≤ 128 ^ i := Nat.pow_le_pow_right (by omega) h8
          have h10 : 128 * 128 ^ i ≤ n * 128 ^ i := Nat.mul_le_mul_right _ (by omega)
          have h11 : (128 : Nat) ^ 8 = 72057594037927936 := by decide
          omega
      have e : (((n % 128 + 128 : Nat) : Int) % 128).toNat = n % 128 := by omega
      have hsplit : acc + n % 128 * 128 ^ i + n / 128 * 128 ^ (i + 1) = acc + n * 128 ^ i := by
        rw [Nat.pow_succ, Nat.mul_comm (128 ^ i) 128, ← Nat.mul_assoc, Nat.add_assoc, ← Nat.add_mul]
        congr 2
        omega
      rw [if_neg (by omega), if_pos hi, e, ih (n / 128) (by omega) (i + 1) (acc + n % 128 * 128 ^ i) ?_ (.inl (by omega)) (by rw [hsplit]; exact hm) (by rw [hsplit]; exact hb), hsplit]
      have : n % 128 * 128 ^ i ≤ 127 * 128 ^ i := Nat.mul_le_mul_right _ (by omega)
      rw [Nat.pow_succ]
      omega

theorem getNum_round (most n : Int) (r : List Int) (h0 : 0 ≤ n) (hm : n ≤ most) (hb : n ≤ 4611686018427387904) : getNum most (some (numL n ++ r)) = (n, some r) := by
  unfold getNum numL
  simp only []
  rw [clampN_of h0 hb, rnum_round most r n.toNat 0 0 (by simp) (.inr rfl) (by simp; omega) (by simp; omega)]
  simp
  omega
theorem toS_strB (s : ByteArray) : toS (strB s) = s := by
  unfold toS strB strOfNums
  have : (s.data.toList.map fun b => (b.toNat : Int)).map (fun n => UInt8.ofNat n.toNat) = s.data.toList := by
    rw [List.map_map]
    conv => rhs; rw [← List.map_id s.data.toList]
    apply List.map_congr_left
    intro b _
    simp
  rw [this]
theorem getText_roundM (most : Int) (s : ByteArray) (r : List Int) (h : (s.size : Int) ≤ most) (hm : (s.size : Int) ≤ 4611686018427387904) : getText most (some (textL s ++ r)) = (strB s, some r) := by
  unfold getText textL
  rw [List.append_assoc, getNum_round _ _ _ (by omega) h hm]
  have hl := strB_len s
  unfold textOf
  simp only []
  rw [if_pos (by simp [hl])]
  simp [← hl]
theorem getId_round (d r : List Int) (h : d.length = 32) : getId (some (d ++ r)) = (d, some r) := by
  unfold getId
  simp only []
  rw [if_pos (by simp; omega), ← h]
  simp
theorem snoc_cases {α : Type} {P : List α → Prop} (h0 : P []) (h1 : ∀ l x, P l → P (l ++ [x])) (l : List α) : P l := by
  have : ∀ n (l : List α), l.length = n → P l := by
    intro n
    induction n with
    | zero => intro l hl; obtain rfl := List.eq_nil_of_length_eq_zero hl; exact h0
    | succ n ih =>
      intro l hl
      have hne : l ≠ [] := fun e => by rw [e] at hl; simp at hl
      rw [← List.dropLast_concat_getLast hne]
      exact h1 _ _ (ih _ (by simp; omega))
  exact this _ l rfl
theorem getIdsN_round (l : List (List Int)) : ∀ (r : List Int), (∀ d ∈ l, d.length = 32) → getIdsN l.length (some (l.flatten ++ r)) = (l, some r) := by
  induction l using snoc_cases with
  | h0 => intro r _; rfl
  | h1 l d ih =>
    intro r h
    have e := ih (d ++ r) (fun x hx => h x (List.mem_append_left _ hx))
    simp only [List.length_append, List.length_cons, List.length_nil, Nat.zero_add, getIdsN, List.flatten_append, List.flatten_cons, List.flatten_nil, List.append_nil, List.append_assoc]
    rw [e]
    simp only [getId_round d r (h d (by simp))]
theorem getIds_round (most : Int) (l : List (List Int)) (r : List Int) (h : ∀ d ∈ l, d.length = 32) (hl : (l.length : Int) ≤ most) (hm : (l.length : Int) ≤ 4611686018427387904) : getIds most (some (idsL l ++ r)) = (l, some r) := by
  unfold getIds idsL
  rw [List.append_assoc, getNum_round _ _ _ (by omega) hl hm]
  simp only [Int.toNat_natCast]
  exact getIdsN_round l r h
theorem getRefsN_round (l : List RfL) : ∀ (r : List Int), (∀ x ∈ l, x.id.length = 32) → (∀ x ∈ l, x.name.size ≤ 60) → getRefsN l.length (some (l.flatMap refB ++ r)) = (l, some r) := by
  induction l using snoc_cases with
  | h0 => intro r _ _; rfl
  | h1 l d ih =>
    intro r h h'
    have e := ih (refB d ++ r) (fun x hx => h x (List.mem_append_left _ hx)) (fun x hx => h' x (List.mem_append_left _ hx))
    have hs := h' d (by simp)
    simp only [List.length_append, List.length_cons, List.length_nil, Nat.zero_add, getRefsN, List.flatMap_append, List.flatMap_cons, List.flatMap_nil, List.append_nil, List.append_assoc]
    rw [e]
    have e2 : getRef (some (refB d ++ r)) = (d, some r) := by
      unfold getRef refB
      rw [List.append_assoc, getText_roundM 60 d.name _ (by omega) (by omega)]
      simp only [getId_round d.id r (h d (by simp)), toS_strB]
    simp only [e2]
theorem getRefs_round (l : List RfL) (r : List Int) (h : ∀ x ∈ l, x.id.length = 32) (h' : ∀ x ∈ l, x.name.size ≤ 60) (hl : l.length ≤ 100) : getRefs (some (rfsL l ++ r)) = (l, some r) := by
  unfold getRefs rfsL
  rw [List.append_assoc, getNum_round _ _ _ (by omega) (by omega) (by omega)]
  simp only [Int.toNat_natCast]
  exact getRefsN_round l r h h'

end

section

theorem right_head {l : LetL} (h : rightB l = true) : (1 ≤ l.from_ ∧ l.from_ ≤ 65536) ∧ (1 ≤ l.to_ ∧ l.to_ ≤ 65536) ∧ (1 ≤ l.session ∧ l.session ≤ 1099511627776) ∧ l = bareL l := by
  simp only [rightB, headB, Bool.and_eq_true, decide_eq_true_eq, Bool.not_eq_true', decide_eq_false_iff_not] at h
  obtain ⟨⟨⟨⟨⟨⟨h1, h2⟩, h3⟩, h4⟩, h5⟩, h6⟩, _⟩ := h
  exact ⟨h1, h2, ⟨by omega, by omega⟩, h6⟩
theorem right_vals {l : LetL} (h : rightB l = true) : l.kind = 1 ∨ l.kind = 2 ∨ l.kind = 3 ∨ l.kind = 4 := by
  have := right_kind h
  unfold kindB at this
  by_cases h1 : l.kind = 1
  · exact .inl h1
  · by_cases h2 : l.kind = 2
    · exact .inr (.inl h2)
    · by_cases h3 : l.kind = 3
      · exact .inr (.inr (.inl h3))
      · by_cases h4 : l.kind = 4
        · exact .inr (.inr (.inr h4))
        · rw [if_neg h1, if_neg h2, if_neg h3, if_neg h4] at this
          cases this
theorem tail_round {l : LetL} (h : rightB l = true) (ho : LetOk l) : readTail (mk0 l.kind l.from_ l.to_ l.session) (some (tailL l)) = (l, some []) := by
  obtain ⟨_, _, _, hb⟩ := right_head h
  rcases right_vals h with hk | hk | hk | hk
  · have h2 : ¬ l.kind = 2 := by omega
    have h3 : ¬ l.kind = 3 := by omega
    have h4 : ¬ l.kind = 4 := by omega
    rw [readTail_0 h2 h3 h4, tailL, if_neg h2, if_neg h3, if_neg h4]
    unfold bareL at hb
    rw [if_neg h2, if_neg h3, if_neg h4] at hb
    exact congrArg (·, some []) hb.symm
  · rw [readTail_2 hk, tailL, if_pos hk]
    have hr := right_k2 h hk
    have e := getRefs_round l.refs [] (fun x hx => (ho.refs x hx).1.1) (fun x hx => (nameB_size (rfs_name hr hx)).2) (rfs_len hr)
    rw [List.append_nil] at e
    rw [e]
    unfold bareL at hb
    rw [if_pos hk] at hb
    exact congrArg (·, some []) hb.symm
  · have h2 : ¬ l.kind = 2 := by omega
    rw [readTail_3 hk, tailL, if_neg h2, if_pos hk]
    have hr := right_k3 h hk
    have e1 := getIds_round 100 l.wants (idsL l.haves ++ numL l.off) (fun d hd => (ho.wants d hd).1) (by omega) (by omega)
    have e2 := getIds_round 200 l.haves (numL l.off) (fun d hd => (ho.haves d hd).1) (by omega) (by omega)
    have e3 := getNum_round 1048576 l.off [] (by omega) (by omega) (by omega)
    rw [List.append_nil] at e3
    rw [List.append_assoc, e1]
    simp only [e2, e3]
    unfold bareL at hb
    rw [if_neg h2, if_pos hk] at hb
    exact congrArg (·, some []) hb.symm
  · have h2 : ¬ l.kind = 2 := by omega
    have h3 : ¬ l.kind = 3 := by omega
    rw [readTail_4 hk, tailL, if_neg h2, if_neg h3, if_pos hk]
    have hr := right_k4 h hk
    have hs := toS_size l.data
    have e1 := getId_round l.pack (numL l.off ++ (numL l.total ++ textL (toS l.data))) ho.pack
    have e2 := getNum_round 1048576 l.off (numL l.total ++ textL (toS l.data)) (by omega) (by omega) (by omega)
    have e3 := getNum_round 1048576 l.total (textL (toS l.data)) (by omega) (by omega) (by omega)
    have e4 := getText_roundM 500 (toS l.data) [] (by omega) (by omega)
    rw [List.append_nil] at e4
    rw [List.append_assoc, List.append_assoc, e1]
    simp only [e2, e3, e4, strB_toS ho.data]
    unfold bareL at hb
    rw [if_neg h2, if_neg h3, if_pos hk] at hb
    exact congrArg (·, some []) hb.symm
theorem raw_round {l : LetL} (h : rightB l = true) (ho : LetOk l) : readRaw (some (bodyL l)) = (l, some []) := by
  obtain ⟨h1, h2, h3, _⟩ := right_head h
  have hk := right_vals h
  have e1 := getNum_round 4 l.kind (numL l.from_ ++ (numL l.to_ ++ (numL l.session ++ tailL l))) (by omega) (by omega) (by omega)
  have e2 := getNum_round 65536 l.from_ (numL l.to_ ++ (numL l.session ++ tailL l)) (by omega) (by omega) (by omega)
  have e3 := getNum_round 65536 l.to_ (numL l.session ++ tailL l) (by omega) (by omega) (by omega)
  have e4 := getNum_round 1099511627776 l.session (tailL l) (by omega) (by omega) (by omega)
  have hb : bodyL l = numL l.kind ++ (numL l.from_ ++ (numL l.to_ ++ (numL l.session ++ tailL l))) := by simp [bodyL, nums, List.append_assoc]
  rw [hb]
  simp only [readRaw, head4, head3, head2, head1, e1, e2, e3, e4]
  exact tail_round h ho
theorem read_round {l : LetL} (h : rightB l = true) (ho : LetOk l) : readL (wireL l) = some l := by
  have hlen := body_len h ho
  have h4 := fourL_len (sumL (bodyL l))
  have hl : (wireL l).length = (bodyL l).length + 4 := by simp [wireL, h4]
  have ht : (wireL l).take (bodyL l).length = bodyL l := by simp [wireL]
  have hd : (wireL l).drop (bodyL l).length = fourL (sumL (bodyL l)) := by simp [wireL]
  rw [readL_eq (m := (bodyL l).length) (by omega) (by omega) (by omega) (by rw [ht, hd, unfour_fourL (sumL_lt _)]), ht, raw_round h ho]
  simp [doneB, h]
theorem wire_inj {a b : LetL} (ha : rightB a = true) (hb : rightB b = true) (oa : LetOk a) (ob : LetOk b) (h : wireL a = wireL b) : a = b := by
  have e1 := read_round ha oa
  have e2 := read_round hb ob
  rw [h, e2] at e1
  exact (Option.some.inj e1).symm

end

section

theorem rnum_canon (most : Int) (l : List Int) : ∀ (i acc : Nat) (n : Int) (r : List Int), IsBytes l → rnum most i acc l = some (n, r) →
    ∃ m : Nat, n = ((acc + m * 128 ^ i : Nat) : Int) ∧ l = numB m ++ r ∧ (m ≠ 0 ∨ i = 0) ∧ n ≤ most ∧ n ≤ 4611686018427387904 := by
  induction l with
  | nil => intro i acc n r _ h; simp [rnum] at h
  | cons b t ih =>
    intro i acc n r hb h
    have h0 := hb b (List.mem_cons_self ..)
    rw [rnum.eq_def] at h
    simp only [] at h
    by_cases hlt : b < 128
    · rw [if_pos hlt] at h
      split at h
      · cases h
      · rename_i hno
        simp only [Option.some.injEq, Prod.mk.injEq] at h
        obtain ⟨rfl, rfl⟩ := h
        have e : (b % 128).toNat = b.toNat := by omega
        rw [e] at hno
        refine ⟨b.toNat, by rw [e], ?_, ?_, ?_, ?_⟩
        · rw [numB_lt (by omega)]
          simp
          omega
        · by_cases hi : i = 0
          · exact .inr hi
          · exact .inl (fun hz => hno (.inl ⟨by omega, by omega⟩))
        · rw [e]; omega
        · rw [e]; omega
    · rw [if_neg hlt] at h
      split at h
      · obtain ⟨m, e1, e2, e3, e4, e5⟩ := ih (i + 1) _ n r (fun x hx => hb x (List.mem_cons_of_mem _ hx)) h
        have hm : m ≠ 0 := e3.resolve_right (by omega)
        refine ⟨(b % 128).toNat + 128 * m, ?_, ?_, .inl (by omega), e4, e5⟩
        · rw [e1, Nat.pow_succ, Nat.add_mul, Nat.mul_comm (128 ^ i) 128, ← Nat.mul_assoc, Nat.mul_comm m 128]
          omega
        · rw [numB_ge (by omega), e2]
          have g1 : ((b % 128).toNat + 128 * m) / 128 = m := by omega
          have g2 : ((((b % 128).toNat + 128 * m) % 128 + 128 : Nat) : Int) = b := by omega
          rw [g1, g2]
          rfl
      · cases h
theorem getNum_canon {most : Int} {s : Rd} {n : Int} {r : List Int} (hb : RdBytes s) (h : getNum most s = (n, some r)) : s = some (numL n ++ r) ∧ 0 ≤ n ∧ n ≤ most ∧ n ≤ 4611686018427387904 := by
  cases s with
  | none => cases h
  | some l =>
    unfold getNum at h
    simp only [] at h
    cases hr : rnum most 0 0 l with
    | none => rw [hr] at h; cases h
    | some x =>
      rw [hr] at h
      obtain ⟨y, q⟩ := x
      simp only [Prod.mk.injEq, Option.some.injEq] at h
      obtain ⟨rfl, rfl⟩ := h
      obtain ⟨m, e1, e2, _, e4, e5⟩ := rnum_canon most l 0 0 y q (hb l rfl) hr
      simp only [Nat.pow_zero, Nat.mul_one, Nat.zero_add] at e1
      subst e1
      refine ⟨?_, by omega, e4, e5⟩
      rw [numL, clampN_of (by omega) e5, e2]
      rfl
theorem getText_canon {most : Int} {s : Rd} {t r : List Int} (hb : RdBytes s) (h : getText most s = (t, some r)) : s = some (textL (toS t) ++ r) ∧ (t.length : Int) ≤ most := by
  unfold getText textOf at h
  split at h
  · cases h
  · rename_i l hl
    split at h
    · rename_i hle
      simp only [Prod.mk.injEq, Option.some.injEq] at h
      obtain ⟨rfl, rfl⟩ := h
      obtain ⟨e1, e2, e3, _⟩ := getNum_canon (n := (getNum most s).1) (r := l) hb (by rw [← hl])
      have hbl : IsBytes l := by
        have := hb.getNum most
        exact this l hl
      refine ⟨?_, by simp; omega⟩
      refine e1.trans (congrArg some ?_)
      rw [textL, toS_size, strB_toS (hbl.take _), List.length_take, Nat.min_eq_left hle, List.append_assoc, List.take_append_drop, Int.toNat_of_nonneg e2]
    · cases h
theorem getId_canon {s : Rd} {d r : List Int} (h : getId s = (d, some r)) : s = some (d ++ r) ∧ d.length = 32 := by
  cases s with
  | none => cases h
  | some l =>
    unfold getId at h
    simp only [] at h
    split at h
    · simp only [Prod.mk.injEq, Option.some.injEq] at h
      obtain ⟨rfl, rfl⟩ := h
      exact ⟨by simp, by simp; omega⟩
    · cases h
theorem getIdsN_canon (n : Nat) : ∀ {s : Rd} {l : List (List Int)} {r : List Int}, getIdsN n s = (l, some r) → s = some (l.flatten ++ r) ∧ l.length = n := by
  induction n with
  | zero => intro s l r h; cases h; exact ⟨rfl, rfl⟩
  | succ n ih =>
    intro s l r h
    simp only [getIdsN, Prod.mk.injEq] at h
    obtain ⟨rfl, h2⟩ := h
    obtain ⟨e1, e2⟩ := getId_canon (d := (getId (getIdsN n s).2).1) (r := r) (by rw [← h2])
    obtain ⟨e3, e4⟩ := ih (s := s) (l := (getIdsN n s).1) (r := (getId (getIdsN n s).2).1 ++ r) (by rw [← e1])
    refine ⟨?_, by simp [e4]⟩
    refine e3.trans (congrArg some ?_)
    simp only [List.flatten_append, List.flatten_cons, List.flatten_nil, List.append_nil, List.append_assoc]
theorem getIds_canon {most : Int} {s : Rd} {l : List (List Int)} {r : List Int} (hb : RdBytes s) (h : getIds most s = (l, some r)) : s = some (idsL l ++ r) ∧ (l.length : Int) ≤ most := by
  unfold getIds at h
  obtain ⟨e1, e2⟩ := getIdsN_canon _ h
  obtain ⟨e3, e4, e5, _⟩ := getNum_canon (n := (getNum most s).1) (r := l.flatten ++ r) hb (by rw [← e1])
  refine ⟨?_, by omega⟩
  refine e3.trans (congrArg some ?_)
  have : ((l.length : Nat) : Int) = (getNum most s).1 := by omega
  rw [idsL, List.append_assoc, this]
theorem getRef_canon {s : Rd} {x : RfL} {r : List Int} (hb : RdBytes s) (h : getRef s = (x, some r)) : s = some (refB x ++ r) := by
  unfold getRef at h
  simp only [Prod.mk.injEq] at h
  obtain ⟨rfl, h2⟩ := h
  obtain ⟨e1, _⟩ := getId_canon (d := (getId (getText 60 s).2).1) (r := r) (by rw [← h2])
  obtain ⟨e3, _⟩ := getText_canon (t := (getText 60 s).1) (r := (getId (getText 60 s).2).1 ++ r) hb (by rw [← e1])
  refine e3.trans (congrArg some ?_)
  rw [refB, List.append_assoc]
theorem getRefsN_canon (n : Nat) : ∀ {s : Rd} {l : List RfL} {r : List Int}, RdBytes s → getRefsN n s = (l, some r) → s = some (l.flatMap refB ++ r) ∧ l.length = n := by
  induction n with
  | zero => intro s l r _ h; cases h; exact ⟨rfl, rfl⟩
  | succ n ih =>
    intro s l r hb h
    simp only [getRefsN, Prod.mk.injEq] at h
    obtain ⟨rfl, h2⟩ := h
    have e1 := getRef_canon (x := (getRef (getRefsN n s).2).1) (r := r) (hb.getRefsN n) (by rw [← h2])
    obtain ⟨e3, e4⟩ := ih (s := s) (l := (getRefsN n s).1) (r := refB (getRef (getRefsN n s).2).1 ++ r) hb (by rw [← e1])
    refine ⟨?_, by simp [e4]⟩
    refine e3.trans (congrArg some ?_)
    simp only [List.flatMap_append, List.flatMap_cons, List.flatMap_nil, List.append_nil, List.append_assoc]
theorem getRefs_canon {s : Rd} {l : List RfL} {r : List Int} (hb : RdBytes s) (h : getRefs s = (l, some r)) : s = some (rfsL l ++ r) := by
  unfold getRefs at h
  obtain ⟨e1, e2⟩ := getRefsN_canon _ (hb.getNum _) h
  obtain ⟨e3, e4, e5, _⟩ := getNum_canon (n := (getNum 100 s).1) (r := l.flatMap refB ++ r) hb (by rw [← e1])
  refine e3.trans (congrArg some ?_)
  have : ((l.length : Nat) : Int) = (getNum 100 s).1 := by omega
  rw [rfsL, List.append_assoc, this]
theorem fst_snd {α β : Type} {x : α × β} {b : β} (h : x.2 = b) : x = (x.1, b) := by rw [← h]
theorem readTail_canon {k f t n : Int} {s : Rd} {l : LetL} {r : List Int} (hb : RdBytes s) (h : readTail (mk0 k f t n) s = (l, some r)) :
    s = some (tailL l ++ r) ∧ l.kind = k ∧ l.from_ = f ∧ l.to_ = t ∧ l.session = n := by
  by_cases h2 : k = 2
  · rw [readTail_2 h2] at h
    simp only [Prod.mk.injEq] at h
    obtain ⟨rfl, h3⟩ := h
    have e := getRefs_canon hb (fst_snd h3)
    refine ⟨?_, rfl, rfl, rfl, rfl⟩
    rw [tailL, if_pos (show (mk0 k f t n).kind = 2 from h2)]
    exact e
  · by_cases h3 : k = 3
    · rw [readTail_3 h3] at h
      simp only [Prod.mk.injEq] at h
      obtain ⟨rfl, h4⟩ := h
      have b1 := hb.getIds 100
      have b2 := b1.getIds 200
      obtain ⟨e1, _⟩ := getNum_canon b2 (fst_snd h4)
      obtain ⟨e2, _⟩ := getIds_canon b1 (fst_snd e1)
      obtain ⟨e3, _⟩ := getIds_canon hb (fst_snd e2)
      refine ⟨?_, rfl, rfl, rfl, rfl⟩
      rw [tailL, if_neg (show ¬ (mk0 k f t n).kind = 2 from h2), if_pos (show (mk0 k f t n).kind = 3 from h3)]
      simpa only [List.append_assoc] using e3
    · by_cases h4 : k = 4
      · rw [readTail_4 h4] at h
        simp only [Prod.mk.injEq] at h
        obtain ⟨rfl, h5⟩ := h
        have b1 := hb.getId
        have b2 := b1.getNum 1048576
        have b3 := b2.getNum 1048576
        obtain ⟨e1, _⟩ := getText_canon b3 (fst_snd h5)
        obtain ⟨e2, _⟩ := getNum_canon b2 (fst_snd e1)
        obtain ⟨e3, _⟩ := getNum_canon b1 (fst_snd e2)
        obtain ⟨e4, _⟩ := getId_canon (fst_snd e3)
        refine ⟨?_, rfl, rfl, rfl, rfl⟩
        rw [tailL, if_neg (show ¬ (mk0 k f t n).kind = 2 from h2), if_neg (show ¬ (mk0 k f t n).kind = 3 from h3), if_pos (show (mk0 k f t n).kind = 4 from h4)]
        simpa only [List.append_assoc] using e4
      · rw [readTail_0 h2 h3 h4] at h
        cases h
        refine ⟨?_, rfl, rfl, rfl, rfl⟩
        rw [tailL, if_neg (show ¬ (mk0 k f t n).kind = 2 from h2), if_neg (show ¬ (mk0 k f t n).kind = 3 from h3), if_neg (show ¬ (mk0 k f t n).kind = 4 from h4)]
        rfl
theorem raw_canon {s : Rd} {l : LetL} {r : List Int} (hb : RdBytes s) (h : readRaw s = (l, some r)) : s = some (bodyL l ++ r) := by
  have b1 : RdBytes (head1 s).2 := hb.getNum _
  have b2 : RdBytes (head2 s).2 := b1.getNum _
  have b3 : RdBytes (head3 s).2 := b2.getNum _
  have b4 : RdBytes (head4 s).2 := b3.getNum _
  unfold readRaw at h
  obtain ⟨e1, k1, k2, k3, k4⟩ := readTail_canon b4 h
  obtain ⟨e2, _⟩ := getNum_canon b3 (fst_snd e1)
  obtain ⟨e3, _⟩ := getNum_canon b2 (fst_snd e2)
  obtain ⟨e4, _⟩ := getNum_canon b1 (fst_snd e3)
  obtain ⟨e5, _⟩ := getNum_canon hb (fst_snd e4)
  refine e5.trans (congrArg some ?_)
  simp only [bodyL, nums, List.flatMap_cons, List.flatMap_nil, List.append_nil, k1, k2, k3, k4, List.append_assoc]
  rfl
theorem fourL_unfour {d : List Int} (hl : d.length = 4) (hb : IsBytes d) : fourL (unfour d) = d := by
  match d, hl with
  | [a, b, c, e], _ =>
    have ha := hb a (by simp)
    have hbb := hb b (by simp)
    have hc := hb c (by simp)
    have he := hb e (by simp)
    simp only [fourL, unfour, List.cons.injEq, and_true]
    omega
theorem read_canon {b : List Int} {l : LetL} (hb : IsBytes b) (h : readL b = some l) : b = wireL l ∧ rightB l = true := by
  by_cases h4 : b.length < 4
  · rw [readL_short h4] at h; cases h
  · by_cases h6 : 65536 < b.length
    · rw [readL_long h6] at h; cases h
    · by_cases hs : unfour (b.drop (b.length - 4)) = sumL (b.take (b.length - 4))
      · rw [readL_eq rfl (by omega) (by omega) hs] at h
        split at h
        · rename_i hc
          simp only [Bool.and_eq_true] at hc
          simp only [Option.some.injEq] at h
          have hd : (readRaw (some (b.take (b.length - 4)))).2 = some [] := by
            have := hc.1
            unfold doneB at this
            split at this
            · assumption
            · cases this
          have e := raw_canon (fun x hx => by cases hx; exact hb.take _) (fst_snd hd)
          rw [h, List.append_nil, Option.some.injEq] at e
          refine ⟨?_, h ▸ hc.2⟩
          rw [wireL, ← e, ← hs, fourL_unfour (by simp; omega) (hb.drop _), List.take_append_drop]
        · cases h
      · rw [readL_sum hs] at h; cases h
/-- A proper beginning of a letter's bytes is not read as it. -/
theorem read_part {l l' : LetL} {k : Nat} (ho : LetOk l) (hk : k < (wireL l).length) (h : readL ((wireL l).take k) = some l') : ¬ l' = l := by
  rintro rfl
  have hby : IsBytes (wireL l') := (body_bytes ho).append (fourL_bytes (sumL_lt _))
  have := (read_canon (hby.take k) h).1
  have h2 := congrArg List.length this
  rw [List.length_take] at h2
  omega

end

end Go.Proofs.Ytfjbmgfkfeehnaa
