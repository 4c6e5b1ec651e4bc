/- IDs against each other. -/
import Derived.Test.YtfjbmgfkfeehnaaEncI
import Derived.ChangeKeysEq
namespace Go.Proofs.Ytfjbmgfkfeehnaa
open Go.RowKit

theorem part_u8 (d : List Int) (i : Nat) (x : Int) (h : d[i]? = some x) (w : World) : (part 5 (idC d) i).run Try.prog w = .ok (.int .u8 x) w := by
  have ha : (isAgg 5).run Try.prog w = .ok false w := by
    unfold isAgg
    rw [Sem.run_bind, run_underlying Try.underlying5 w]
    simp
  have hx : (idC d)[i]? = some (.int .u8 x) := by simp [idC, h]
  unfold part
  rw [Sem.run_bind, ha]
  simp [hx]

theorem eqItems_id (a b : List Int) (ha : a.length = 32) (hb : b.length = 32) (w : World) : ∀ is : List Nat, (∀ i ∈ is, i < 32) →
    (Op.eqItems 9999 5 1 (idC a) (idC b) is).run Try.prog w = .ok (is.all fun i => a[i]? == b[i]?) w
  | [], _ => by simp [Op.eqItems]
  | i :: is, h => by
    have hi := h i (List.mem_cons_self ..)
    have ih := eqItems_id a b ha hb w is (fun j hj => h j (List.mem_cons_of_mem _ hj))
    have e1 := part_u8 a i (a[i]'(by omega)) (List.getElem?_eq_getElem (by omega)) w
    have e2 := part_u8 b i (b[i]'(by omega)) (List.getElem?_eq_getElem (by omega)) w
    have e3 : (Op.equalIn 9999 5 (.int .u8 (a[i]'(by omega))) (.int .u8 (b[i]'(by omega)))).run Try.prog w = .ok (a[i]'(by omega) == b[i]'(by omega)) w := run_equalIn_int w 9998 5 .u8 .u8 _ _ Try.underlying5
    simp only [Op.eqItems, Nat.mul_one, Sem.run_bind, e1, e2, e3, Result.andThen_ok, List.all_cons]
    rw [List.getElem?_eq_getElem (show i < a.length by omega), List.getElem?_eq_getElem (show i < b.length by omega)]
    by_cases he : a[i]'(by omega) = b[i]'(by omega)
    · simp [he, ih]
    · have hf : (a[i]'(by omega) == b[i]'(by omega)) = false := by simpa using he
      simp [hf]

theorem all_range (a b : List Int) (n : Nat) (ha : a.length = n) (hb : b.length = n) : ((List.range n).all fun i => a[i]? == b[i]?) = decide (a = b) := by
  rw [Bool.eq_iff_iff]
  simp only [List.all_eq_true, List.mem_range, beq_iff_eq, decide_eq_true_eq]
  constructor
  · intro h
    apply List.ext_getElem?
    intro i
    by_cases hi : i < n
    · exact h i hi
    · rw [List.getElem?_eq_none (by omega), List.getElem?_eq_none (by omega)]
  · rintro rfl i _; rfl

theorem info_u8' : ∃ i, Try.prog.info? 5 = some i := by
  obtain ⟨i0, hi, _⟩ := info_parts info_u8
  exact ⟨i0, hi⟩

theorem equalIn_id (t : TypeId) (ht : Try.prog.underlying t = some (.array 32 5)) (a b : List Int) (ha : a.length = 32) (hb : b.length = 32) (w : World) :
    (Op.equalIn 10000 t (.agg (idC a)) (.agg (idC b))).run Try.prog w = .ok (decide (a = b)) w := by
  obtain ⟨i0, hi⟩ := info_u8'
  rw [run_equalIn_array w 9999 (idC a) (idC b) ht hi]
  have hc : Try.prog.cellsOf 5 = 1 := by kernel_rfl
  rw [hc, eqItems_id a b ha hb w _ (fun i hi => by simpa using hi), all_range a b 32 ha hb]

@[go_sem] theorem eql_id (a b : List Int) (ha : a.length = 32) (hb : b.length = 32) (w : World) : (Op.equalIn 10000 25 (.agg (idC a)) (.agg (idC b))).run Try.prog w = .ok (decide (a = b)) w :=
  equalIn_id _ Try.underlying25 a b ha hb w
@[go_sem] theorem eql_arr (a b : List Int) (ha : a.length = 32) (hb : b.length = 32) (w : World) : (Op.equalIn 10000 24 (.agg (idC a)) (.agg (idC b))).run Try.prog w = .ok (decide (a = b)) w :=
  equalIn_id _ Try.underlying24 a b ha hb w
theorem zero32_len : zero32.length = 32 := rfl

end Go.Proofs.Ytfjbmgfkfeehnaa
