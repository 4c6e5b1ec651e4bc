/- The bytes of a right letter: plain laws. -/
import Derived.Test.YtfjbmgfkfeehnaaIds
namespace Go.Proofs.Ytfjbmgfkfeehnaa
open Go.RowKit

def refB (r : RfL) : List Int := textL r.name ++ r.id
def rfsL (l : List RfL) : List Int := numL l.length ++ l.flatMap refB
def nums (l : LetL) : List Int := [l.kind, l.from_, l.to_, l.session]
def tailL (l : LetL) : List Int :=
  if l.kind = 2 then rfsL l.refs
  else if l.kind = 3 then idsL l.wants ++ idsL l.haves ++ numL l.off
  else if l.kind = 4 then l.pack ++ numL l.off ++ numL l.total ++ textL (toS l.data)
  else []
def bodyL (l : LetL) : List Int := (nums l).flatMap numL ++ tailL l
def wireL (l : LetL) : List Int := bodyL l ++ fourL (sumL (bodyL l))

/-- What a letter's lists are like, whatever the memory. -/
structure LetOk (l : LetL) : Prop where
  refs : ∀ r ∈ l.refs, (r.id.length = 32 ∧ IsBytes r.id) ∧ r.name.size ≤ 9223372036854775807
  wants : ∀ d ∈ l.wants, d.length = 32 ∧ IsBytes d
  haves : ∀ d ∈ l.haves, d.length = 32 ∧ IsBytes d
  pack : l.pack.length = 32
  packb : IsBytes l.pack
  data : IsBytes l.data
theorem LetA.ok {w : World} {l : LetL} {s : LS} (h : LetA w l s) : LetOk l := ⟨h.refs.all, h.wants.all, h.haves.all, h.pack, h.packb, h.bytes⟩

theorem right_kind {l : LetL} (h : rightB l = true) : kindB l = true := by
  simp only [rightB, Bool.and_eq_true] at h
  exact h.2
theorem rfs_len {l : List RfL} (h : rfsB l = true) : l.length ≤ 100 := by
  simp only [rfsB, Bool.and_eq_true, decide_eq_true_eq] at h
  exact h.2
theorem rfs_name {l : List RfL} (h : rfsB l = true) {r : RfL} (hr : r ∈ l) : nameB r.name = true := by
  simp only [rfsB, Bool.and_eq_true, List.all_eq_true] at h
  obtain ⟨i, hi, rfl⟩ := List.mem_iff_getElem.1 hr
  have := h.1 i (by simpa using hi)
  unfold rfAt at this
  rw [List.getElem?_eq_getElem hi] at this
  simp only [Bool.and_eq_true] at this
  exact this.1.1
theorem nameB_size {s : ByteArray} (h : nameB s = true) : 1 ≤ s.size ∧ s.size ≤ 60 := by
  simp only [nameB, Bool.and_eq_true, decide_eq_true_eq] at h
  exact ⟨h.1.1.1.1, h.1.1.1.2⟩
theorem right_k2 {l : LetL} (h : rightB l = true) (hk : l.kind = 2) : rfsB l.refs = true := by
  have := right_kind h
  unfold kindB at this
  rwa [if_neg (by omega), if_pos hk] at this
theorem right_k3 {l : LetL} (h : rightB l = true) (hk : l.kind = 3) : (1 ≤ l.wants.length ∧ l.wants.length ≤ 100) ∧ l.haves.length ≤ 200 ∧ 0 ≤ l.off ∧ l.off ≤ 1048576 := by
  have := right_kind h
  unfold kindB at this
  rw [if_neg (by omega), if_neg (by omega), if_pos hk] at this
  simp only [Bool.and_eq_true, decide_eq_true_eq] at this
  exact ⟨this.1.1.1.1, this.1.1.1.2, this.2⟩
theorem right_k4 {l : LetL} (h : rightB l = true) (hk : l.kind = 4) : l.data.length ≤ 500 ∧ (0 ≤ l.off ∧ l.off ≤ 1048576) ∧ 0 ≤ l.total ∧ l.total ≤ 1048576 := by
  have := right_kind h
  unfold kindB at this
  rw [if_neg (by omega), if_neg (by omega), if_neg (by omega), if_pos hk] at this
  simp only [Bool.and_eq_true, decide_eq_true_eq] at this
  exact ⟨this.1.1.2, this.1.1.1.1.2, this.1.1.1.2⟩

theorem refB_len {r : RfL} (h : r.id.length = 32) : (refB r).length ≤ 41 + r.name.size := by
  have := numL_len r.name.size
  have := strB_len r.name
  simp only [refB, textL, List.length_append]
  omega
theorem refs_flat_len : ∀ (l : List RfL), (∀ r ∈ l, r.id.length = 32) → (∀ r ∈ l, r.name.size ≤ 60) → (l.flatMap refB).length ≤ l.length * 101
  | [], _, _ => by simp
  | r :: l, h, h' => by
    have ih := refs_flat_len l (fun x hx => h x (List.mem_cons_of_mem _ hx)) (fun x hx => h' x (List.mem_cons_of_mem _ hx))
    have h1 := refB_len (h r (List.mem_cons_self ..))
    have h2 := h' r (List.mem_cons_self ..)
    simp only [List.flatMap_cons, List.length_append, List.length_cons]
    omega
theorem body_len {l : LetL} (h : rightB l = true) (ho : LetOk l) : (bodyL l).length ≤ 20000 := by
  have n1 := numL_len l.kind
  have n2 := numL_len l.from_
  have n3 := numL_len l.to_
  have n4 := numL_len l.session
  have n5 := numL_len l.off
  have n6 := numL_len l.total
  have n7 := numL_len l.refs.length
  have n8 := numL_len l.wants.length
  have n9 := numL_len l.haves.length
  have n10 := numL_len ((toS l.data).size : Int)
  have ht : (tailL l).length ≤ 19000 := by
    unfold tailL
    split
    · rename_i hk
      have hr := right_k2 h hk
      have h1 := rfs_len hr
      have h2 := refs_flat_len l.refs (fun r hr => (ho.refs r hr).1.1) (fun r hr' => (nameB_size (rfs_name hr hr')).2)
      simp only [rfsL, List.length_append]
      omega
    · split
      · rename_i hk
        have h1 := right_k3 h hk
        have h2 := flat_len l.wants ho.wants
        have h3 := flat_len l.haves ho.haves
        simp only [idsL, List.length_append]
        omega
      · split
        · rename_i hk
          have h1 := right_k4 h hk
          have h2 := ho.pack
          have h3 := strB_len (toS l.data)
          have h4 := toS_size l.data
          simp only [textL, List.length_append]
          omega
        · simp
  simp only [bodyL, nums, List.flatMap_cons, List.flatMap_nil, List.length_append, List.length_nil]
  omega
theorem flat_bytes : ∀ (l : List (List Int)), (∀ d ∈ l, d.length = 32 ∧ IsBytes d) → IsBytes l.flatten
  | [], _ => .nil
  | d :: l, h => by
    rw [List.flatten_cons]
    exact (h d (List.mem_cons_self ..)).2.append (flat_bytes l (fun x hx => h x (List.mem_cons_of_mem _ hx)))
theorem refs_bytes : ∀ (l : List RfL), (∀ r ∈ l, IsBytes r.id) → IsBytes (l.flatMap refB)
  | [], _ => .nil
  | r :: l, h => by
    rw [List.flatMap_cons]
    exact (((numB_bytes _).append (strB_bytes _)).append (h r (List.mem_cons_self ..))).append (refs_bytes l (fun x hx => h x (List.mem_cons_of_mem _ hx)))
theorem nums_bytes : ∀ (l : List Int), IsBytes (l.flatMap numL)
  | [] => .nil
  | n :: l => by
    rw [List.flatMap_cons]
    exact (numB_bytes _).append (nums_bytes l)
theorem body_bytes {l : LetL} (ho : LetOk l) : IsBytes (bodyL l) := by
  refine (nums_bytes _).append ?_
  unfold tailL
  split
  · exact (numB_bytes _).append (refs_bytes _ (fun r hr => (ho.refs r hr).1.2))
  · split
    · exact (((numB_bytes _).append (flat_bytes _ ho.wants)).append ((numB_bytes _).append (flat_bytes _ ho.haves))).append (numB_bytes _)
    · split
      · exact ((ho.packb.append (numB_bytes _)).append (numB_bytes _)).append ((numB_bytes _).append (strB_bytes _))
      · exact .nil

end Go.Proofs.Ytfjbmgfkfeehnaa
