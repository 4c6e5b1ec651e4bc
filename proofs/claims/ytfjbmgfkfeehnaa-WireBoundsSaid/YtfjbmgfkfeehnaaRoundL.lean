/- A right letter is read from its bytes: plain laws. -/
import Derived.Test.YtfjbmgfkfeehnaaRound
namespace Go.Proofs.Ytfjbmgfkfeehnaa

theorem right_head {l : LetL} (h : rightB l = true) : (1 ≤ l.from_ ∧ l.from_ ≤ 65536) ∧ (1 ≤ l.to_ ∧ l.to_ ≤ 65536) ∧ (1 ≤ l.session ∧ l.session ≤ 1099511627776) ∧ l = bareL l := by
  simp only [rightB, headB, Bool.and_eq_true, decide_eq_true_eq, Bool.not_eq_true', decide_eq_false_iff_not] at h
  obtain ⟨⟨⟨⟨⟨⟨h1, h2⟩, h3⟩, h4⟩, h5⟩, h6⟩, _⟩ := h
  exact ⟨h1, h2, ⟨by omega, by omega⟩, h6⟩
theorem right_vals {l : LetL} (h : rightB l = true) : l.kind = 1 ∨ l.kind = 2 ∨ l.kind = 3 ∨ l.kind = 4 := by
  have := right_kind h
  unfold kindB at this
  by_cases h1 : l.kind = 1
  · exact .inl h1
  · by_cases h2 : l.kind = 2
    · exact .inr (.inl h2)
    · by_cases h3 : l.kind = 3
      · exact .inr (.inr (.inl h3))
      · by_cases h4 : l.kind = 4
        · exact .inr (.inr (.inr h4))
        · rw [if_neg h1, if_neg h2, if_neg h3, if_neg h4] at this
          cases this
theorem tail_round {l : LetL} (h : rightB l = true) (ho : LetOk l) : readTail (mk0 l.kind l.from_ l.to_ l.session) (some (tailL l)) = (l, some []) := by
  obtain ⟨_, _, _, hb⟩ := right_head h
  rcases right_vals h with hk | hk | hk | hk
  · have h2 : ¬ l.kind = 2 := by omega
    have h3 : ¬ l.kind = 3 := by omega
    have h4 : ¬ l.kind = 4 := by omega
    rw [readTail_0 h2 h3 h4, tailL, if_neg h2, if_neg h3, if_neg h4]
    unfold bareL at hb
    rw [if_neg h2, if_neg h3, if_neg h4] at hb
    exact congrArg (·, some []) hb.symm
  · rw [readTail_2 hk, tailL, if_pos hk]
    have hr := right_k2 h hk
    have e := getRefs_round l.refs [] (fun x hx => (ho.refs x hx).1.1) (fun x hx => (nameB_size (rfs_name hr hx)).2) (rfs_len hr)
    rw [List.append_nil] at e
    rw [e]
    unfold bareL at hb
    rw [if_pos hk] at hb
    exact congrArg (·, some []) hb.symm
  · have h2 : ¬ l.kind = 2 := by omega
    rw [readTail_3 hk, tailL, if_neg h2, if_pos hk]
    have hr := right_k3 h hk
    have e1 := getIds_round 100 l.wants (idsL l.haves ++ numL l.off) (fun d hd => (ho.wants d hd).1) (by omega) (by omega)
    have e2 := getIds_round 200 l.haves (numL l.off) (fun d hd => (ho.haves d hd).1) (by omega) (by omega)
    have e3 := getNum_round 1048576 l.off [] (by omega) (by omega) (by omega)
    rw [List.append_nil] at e3
    rw [List.append_assoc, e1]
    simp only [e2, e3]
    unfold bareL at hb
    rw [if_neg h2, if_pos hk] at hb
    exact congrArg (·, some []) hb.symm
  · have h2 : ¬ l.kind = 2 := by omega
    have h3 : ¬ l.kind = 3 := by omega
    rw [readTail_4 hk, tailL, if_neg h2, if_neg h3, if_pos hk]
    have hr := right_k4 h hk
    have hs := toS_size l.data
    have e1 := getId_round l.pack (numL l.off ++ (numL l.total ++ textL (toS l.data))) ho.pack
    have e2 := getNum_round 1048576 l.off (numL l.total ++ textL (toS l.data)) (by omega) (by omega) (by omega)
    have e3 := getNum_round 1048576 l.total (textL (toS l.data)) (by omega) (by omega) (by omega)
    have e4 := getText_roundM 500 (toS l.data) [] (by omega) (by omega)
    rw [List.append_nil] at e4
    rw [List.append_assoc, List.append_assoc, e1]
    simp only [e2, e3, e4, strB_toS ho.data]
    unfold bareL at hb
    rw [if_neg h2, if_neg h3, if_pos hk] at hb
    exact congrArg (·, some []) hb.symm
theorem raw_round {l : LetL} (h : rightB l = true) (ho : LetOk l) : readRaw (some (bodyL l)) = (l, some []) := by
  obtain ⟨h1, h2, h3, _⟩ := right_head h
  have hk := right_vals h
  have e1 := getNum_round 4 l.kind (numL l.from_ ++ (numL l.to_ ++ (numL l.session ++ tailL l))) (by omega) (by omega) (by omega)
  have e2 := getNum_round 65536 l.from_ (numL l.to_ ++ (numL l.session ++ tailL l)) (by omega) (by omega) (by omega)
  have e3 := getNum_round 65536 l.to_ (numL l.session ++ tailL l) (by omega) (by omega) (by omega)
  have e4 := getNum_round 1099511627776 l.session (tailL l) (by omega) (by omega) (by omega)
  have hb : bodyL l = numL l.kind ++ (numL l.from_ ++ (numL l.to_ ++ (numL l.session ++ tailL l))) := by simp [bodyL, nums, List.append_assoc]
  rw [hb]
  simp only [readRaw, head4, head3, head2, head1, e1, e2, e3, e4]
  exact tail_round h ho
theorem read_round {l : LetL} (h : rightB l = true) (ho : LetOk l) : readL (wireL l) = some l := by
  have hlen := body_len h ho
  have h4 := fourL_len (sumL (bodyL l))
  have hl : (wireL l).length = (bodyL l).length + 4 := by simp [wireL, h4]
  have ht : (wireL l).take (bodyL l).length = bodyL l := by simp [wireL]
  have hd : (wireL l).drop (bodyL l).length = fourL (sumL (bodyL l)) := by simp [wireL]
  rw [readL_eq (m := (bodyL l).length) (by omega) (by omega) (by omega) (by rw [ht, hd, unfour_fourL (sumL_lt _)]), ht, raw_round h ho]
  simp [doneB, h]
theorem wire_inj {a b : LetL} (ha : rightB a = true) (hb : rightB b = true) (oa : LetOk a) (ob : LetOk b) (h : wireL a = wireL b) : a = b := by
  have e1 := read_round ha oa
  have e2 := read_round hb ob
  rw [h, e2] at e1
  exact (Option.some.inj e1).symm

end Go.Proofs.Ytfjbmgfkfeehnaa
