/- What is read as a letter are the bytes of that letter: plain laws. -/
import Derived.Test.YtfjbmgfkfeehnaaRoundL
namespace Go.Proofs.Ytfjbmgfkfeehnaa

theorem rnum_canon (most : Int) (l : List Int) : ∀ (i acc : Nat) (n : Int) (r : List Int), IsBytes l → rnum most i acc l = some (n, r) →
    ∃ m : Nat, n = ((acc + m * 128 ^ i : Nat) : Int) ∧ l = numB m ++ r ∧ (m ≠ 0 ∨ i = 0) ∧ n ≤ most ∧ n ≤ 4611686018427387904 := by
  induction l with
  | nil => intro i acc n r _ h; simp [rnum] at h
  | cons b t ih =>
    intro i acc n r hb h
    have h0 := hb b (List.mem_cons_self ..)
    rw [rnum.eq_def] at h
    simp only [] at h
    by_cases hlt : b < 128
    · rw [if_pos hlt] at h
      split at h
      · cases h
      · rename_i hno
        simp only [Option.some.injEq, Prod.mk.injEq] at h
        obtain ⟨rfl, rfl⟩ := h
        have e : (b % 128).toNat = b.toNat := by omega
        rw [e] at hno
        refine ⟨b.toNat, by rw [e], ?_, ?_, ?_, ?_⟩
        · rw [numB_lt (by omega)]
          simp
          omega
        · by_cases hi : i = 0
          · exact .inr hi
          · exact .inl (fun hz => hno (.inl ⟨by omega, by omega⟩))
        · rw [e]; omega
        · rw [e]; omega
    · rw [if_neg hlt] at h
      split at h
      · obtain ⟨m, e1, e2, e3, e4, e5⟩ := ih (i + 1) _ n r (fun x hx => hb x (List.mem_cons_of_mem _ hx)) h
        have hm : m ≠ 0 := e3.resolve_right (by omega)
        refine ⟨(b % 128).toNat + 128 * m, ?_, ?_, .inl (by omega), e4, e5⟩
        · rw [e1, Nat.pow_succ, Nat.add_mul, Nat.mul_comm (128 ^ i) 128, ← Nat.mul_assoc, Nat.mul_comm m 128]
          omega
        · rw [numB_ge (by omega), e2]
          have g1 : ((b % 128).toNat + 128 * m) / 128 = m := by omega
          have g2 : ((((b % 128).toNat + 128 * m) % 128 + 128 : Nat) : Int) = b := by omega
          rw [g1, g2]
          rfl
      · cases h
theorem getNum_canon {most : Int} {s : Rd} {n : Int} {r : List Int} (hb : RdBytes s) (h : getNum most s = (n, some r)) : s = some (numL n ++ r) ∧ 0 ≤ n ∧ n ≤ most ∧ n ≤ 4611686018427387904 := by
  cases s with
  | none => cases h
  | some l =>
    unfold getNum at h
    simp only [] at h
    cases hr : rnum most 0 0 l with
    | none => rw [hr] at h; cases h
    | some x =>
      rw [hr] at h
      obtain ⟨y, q⟩ := x
      simp only [Prod.mk.injEq, Option.some.injEq] at h
      obtain ⟨rfl, rfl⟩ := h
      obtain ⟨m, e1, e2, _, e4, e5⟩ := rnum_canon most l 0 0 y q (hb l rfl) hr
      simp only [Nat.pow_zero, Nat.mul_one, Nat.zero_add] at e1
      subst e1
      refine ⟨?_, by omega, e4, e5⟩
      rw [numL, clampN_of (by omega) e5, e2]
      rfl
theorem getText_canon {most : Int} {s : Rd} {t r : List Int} (hb : RdBytes s) (h : getText most s = (t, some r)) : s = some (textL (toS t) ++ r) ∧ (t.length : Int) ≤ most := by
  unfold getText textOf at h
  split at h
  · cases h
  · rename_i l hl
    split at h
    · rename_i hle
      simp only [Prod.mk.injEq, Option.some.injEq] at h
      obtain ⟨rfl, rfl⟩ := h
      obtain ⟨e1, e2, e3, _⟩ := getNum_canon (n := (getNum most s).1) (r := l) hb (by rw [← hl])
      have hbl : IsBytes l := by
        have := hb.getNum most
        exact this l hl
      refine ⟨?_, by simp; omega⟩
      refine e1.trans (congrArg some ?_)
      rw [textL, toS_size, strB_toS (hbl.take _), List.length_take, Nat.min_eq_left hle, List.append_assoc, List.take_append_drop, Int.toNat_of_nonneg e2]
    · cases h
theorem getId_canon {s : Rd} {d r : List Int} (h : getId s = (d, some r)) : s = some (d ++ r) ∧ d.length = 32 := by
  cases s with
  | none => cases h
  | some l =>
    unfold getId at h
    simp only [] at h
    split at h
    · simp only [Prod.mk.injEq, Option.some.injEq] at h
      obtain ⟨rfl, rfl⟩ := h
      exact ⟨by simp, by simp; omega⟩
    · cases h
theorem getIdsN_canon (n : Nat) : ∀ {s : Rd} {l : List (List Int)} {r : List Int}, getIdsN n s = (l, some r) → s = some (l.flatten ++ r) ∧ l.length = n := by
  induction n with
  | zero => intro s l r h; cases h; exact ⟨rfl, rfl⟩
  | succ n ih =>
    intro s l r h
    simp only [getIdsN, Prod.mk.injEq] at h
    obtain ⟨rfl, h2⟩ := h
    obtain ⟨e1, e2⟩ := getId_canon (d := (getId (getIdsN n s).2).1) (r := r) (by rw [← h2])
    obtain ⟨e3, e4⟩ := ih (s := s) (l := (getIdsN n s).1) (r := (getId (getIdsN n s).2).1 ++ r) (by rw [← e1])
    refine ⟨?_, by simp [e4]⟩
    refine e3.trans (congrArg some ?_)
    simp only [List.flatten_append, List.flatten_cons, List.flatten_nil, List.append_nil, List.append_assoc]
theorem getIds_canon {most : Int} {s : Rd} {l : List (List Int)} {r : List Int} (hb : RdBytes s) (h : getIds most s = (l, some r)) : s = some (idsL l ++ r) ∧ (l.length : Int) ≤ most := by
  unfold getIds at h
  obtain ⟨e1, e2⟩ := getIdsN_canon _ h
  obtain ⟨e3, e4, e5, _⟩ := getNum_canon (n := (getNum most s).1) (r := l.flatten ++ r) hb (by rw [← e1])
  refine ⟨?_, by omega⟩
  refine e3.trans (congrArg some ?_)
  have : ((l.length : Nat) : Int) = (getNum most s).1 := by omega
  rw [idsL, List.append_assoc, this]
theorem getRef_canon {s : Rd} {x : RfL} {r : List Int} (hb : RdBytes s) (h : getRef s = (x, some r)) : s = some (refB x ++ r) := by
  unfold getRef at h
  simp only [Prod.mk.injEq] at h
  obtain ⟨rfl, h2⟩ := h
  obtain ⟨e1, _⟩ := getId_canon (d := (getId (getText 60 s).2).1) (r := r) (by rw [← h2])
  obtain ⟨e3, _⟩ := getText_canon (t := (getText 60 s).1) (r := (getId (getText 60 s).2).1 ++ r) hb (by rw [← e1])
  refine e3.trans (congrArg some ?_)
  rw [refB, List.append_assoc]
theorem getRefsN_canon (n : Nat) : ∀ {s : Rd} {l : List RfL} {r : List Int}, RdBytes s → getRefsN n s = (l, some r) → s = some (l.flatMap refB ++ r) ∧ l.length = n := by
  induction n with
  | zero => intro s l r _ h; cases h; exact ⟨rfl, rfl⟩
  | succ n ih =>
    intro s l r hb h
    simp only [getRefsN, Prod.mk.injEq] at h
    obtain ⟨rfl, h2⟩ := h
    have e1 := getRef_canon (x := (getRef (getRefsN n s).2).1) (r := r) (hb.getRefsN n) (by rw [← h2])
    obtain ⟨e3, e4⟩ := ih (s := s) (l := (getRefsN n s).1) (r := refB (getRef (getRefsN n s).2).1 ++ r) hb (by rw [← e1])
    refine ⟨?_, by simp [e4]⟩
    refine e3.trans (congrArg some ?_)
    simp only [List.flatMap_append, List.flatMap_cons, List.flatMap_nil, List.append_nil, List.append_assoc]
theorem getRefs_canon {s : Rd} {l : List RfL} {r : List Int} (hb : RdBytes s) (h : getRefs s = (l, some r)) : s = some (rfsL l ++ r) := by
  unfold getRefs at h
  obtain ⟨e1, e2⟩ := getRefsN_canon _ (hb.getNum _) h
  obtain ⟨e3, e4, e5, _⟩ := getNum_canon (n := (getNum 100 s).1) (r := l.flatMap refB ++ r) hb (by rw [← e1])
  refine e3.trans (congrArg some ?_)
  have : ((l.length : Nat) : Int) = (getNum 100 s).1 := by omega
  rw [rfsL, List.append_assoc, this]
theorem fst_snd {α β : Type} {x : α × β} {b : β} (h : x.2 = b) : x = (x.1, b) := by rw [← h]
theorem readTail_canon {k f t n : Int} {s : Rd} {l : LetL} {r : List Int} (hb : RdBytes s) (h : readTail (mk0 k f t n) s = (l, some r)) :
    s = some (tailL l ++ r) ∧ l.kind = k ∧ l.from_ = f ∧ l.to_ = t ∧ l.session = n := by
  by_cases h2 : k = 2
  · rw [readTail_2 h2] at h
    simp only [Prod.mk.injEq] at h
    obtain ⟨rfl, h3⟩ := h
    have e := getRefs_canon hb (fst_snd h3)
    refine ⟨?_, rfl, rfl, rfl, rfl⟩
    rw [tailL, if_pos (show (mk0 k f t n).kind = 2 from h2)]
    exact e
  · by_cases h3 : k = 3
    · rw [readTail_3 h3] at h
      simp only [Prod.mk.injEq] at h
      obtain ⟨rfl, h4⟩ := h
      have b1 := hb.getIds 100
      have b2 := b1.getIds 200
      obtain ⟨e1, _⟩ := getNum_canon b2 (fst_snd h4)
      obtain ⟨e2, _⟩ := getIds_canon b1 (fst_snd e1)
      obtain ⟨e3, _⟩ := getIds_canon hb (fst_snd e2)
      refine ⟨?_, rfl, rfl, rfl, rfl⟩
      rw [tailL, if_neg (show ¬ (mk0 k f t n).kind = 2 from h2), if_pos (show (mk0 k f t n).kind = 3 from h3)]
      simpa only [List.append_assoc] using e3
    · by_cases h4 : k = 4
      · rw [readTail_4 h4] at h
        simp only [Prod.mk.injEq] at h
        obtain ⟨rfl, h5⟩ := h
        have b1 := hb.getId
        have b2 := b1.getNum 1048576
        have b3 := b2.getNum 1048576
        obtain ⟨e1, _⟩ := getText_canon b3 (fst_snd h5)
        obtain ⟨e2, _⟩ := getNum_canon b2 (fst_snd e1)
        obtain ⟨e3, _⟩ := getNum_canon b1 (fst_snd e2)
        obtain ⟨e4, _⟩ := getId_canon (fst_snd e3)
        refine ⟨?_, rfl, rfl, rfl, rfl⟩
        rw [tailL, if_neg (show ¬ (mk0 k f t n).kind = 2 from h2), if_neg (show ¬ (mk0 k f t n).kind = 3 from h3), if_pos (show (mk0 k f t n).kind = 4 from h4)]
        simpa only [List.append_assoc] using e4
      · rw [readTail_0 h2 h3 h4] at h
        cases h
        refine ⟨?_, rfl, rfl, rfl, rfl⟩
        rw [tailL, if_neg (show ¬ (mk0 k f t n).kind = 2 from h2), if_neg (show ¬ (mk0 k f t n).kind = 3 from h3), if_neg (show ¬ (mk0 k f t n).kind = 4 from h4)]
        rfl
theorem raw_canon {s : Rd} {l : LetL} {r : List Int} (hb : RdBytes s) (h : readRaw s = (l, some r)) : s = some (bodyL l ++ r) := by
  have b1 : RdBytes (head1 s).2 := hb.getNum _
  have b2 : RdBytes (head2 s).2 := b1.getNum _
  have b3 : RdBytes (head3 s).2 := b2.getNum _
  have b4 : RdBytes (head4 s).2 := b3.getNum _
  unfold readRaw at h
  obtain ⟨e1, k1, k2, k3, k4⟩ := readTail_canon b4 h
  obtain ⟨e2, _⟩ := getNum_canon b3 (fst_snd e1)
  obtain ⟨e3, _⟩ := getNum_canon b2 (fst_snd e2)
  obtain ⟨e4, _⟩ := getNum_canon b1 (fst_snd e3)
  obtain ⟨e5, _⟩ := getNum_canon hb (fst_snd e4)
  refine e5.trans (congrArg some ?_)
  simp only [bodyL, nums, List.flatMap_cons, List.flatMap_nil, List.append_nil, k1, k2, k3, k4, List.append_assoc]
  rfl
theorem fourL_unfour {d : List Int} (hl : d.length = 4) (hb : IsBytes d) : fourL (unfour d) = d := by
  match d, hl with
  | [a, b, c, e], _ =>
    have ha := hb a (by simp)
    have hbb := hb b (by simp)
    have hc := hb c (by simp)
    have he := hb e (by simp)
    simp only [fourL, unfour, List.cons.injEq, and_true]
    omega
theorem read_canon {b : List Int} {l : LetL} (hb : IsBytes b) (h : readL b = some l) : b = wireL l ∧ rightB l = true := by
  by_cases h4 : b.length < 4
  · rw [readL_short h4] at h; cases h
  · by_cases h6 : 65536 < b.length
    · rw [readL_long h6] at h; cases h
    · by_cases hs : unfour (b.drop (b.length - 4)) = sumL (b.take (b.length - 4))
      · rw [readL_eq rfl (by omega) (by omega) hs] at h
        split at h
        · rename_i hc
          simp only [Bool.and_eq_true] at hc
          simp only [Option.some.injEq] at h
          have hd : (readRaw (some (b.take (b.length - 4)))).2 = some [] := by
            have := hc.1
            unfold doneB at this
            split at this
            · assumption
            · cases this
          have e := raw_canon (fun x hx => by cases hx; exact hb.take _) (fst_snd hd)
          rw [h, List.append_nil, Option.some.injEq] at e
          refine ⟨?_, h ▸ hc.2⟩
          rw [wireL, ← e, ← hs, fourL_unfour (by simp; omega) (hb.drop _), List.take_append_drop]
        · cases h
      · rw [readL_sum hs] at h; cases h
/-- A proper beginning of a letter's bytes is not read as it. -/
theorem read_part {l l' : LetL} {k : Nat} (ho : LetOk l) (hk : k < (wireL l).length) (h : readL ((wireL l).take k) = some l') : ¬ l' = l := by
  rintro rfl
  have hby : IsBytes (wireL l') := (body_bytes ho).append (fourL_bytes (sumL_lt _))
  have := (read_canon (hby.take k) h).1
  have h2 := congrArg List.length this
  rw [List.length_take] at h2
  omega

end Go.Proofs.Ytfjbmgfkfeehnaa
