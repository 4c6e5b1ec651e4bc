/- The frame of a law: from a walk that leaves what was there as it was to the given statement; arguments opened. -/
import Derived.Test.YtfjbmgfkfeehnaaNam
import Derived.ProofKit
import Derived.OpenShut
import Derived.ShutString
import Derived.ChangeOld
import Derived.Below
import Derived.SizedLaws
namespace Go.Proofs.Ytfjbmgfkfeehnaa
open Go.ChangeShapes Go.WideShapes Go.ChangeAt Go.RowKit
open Go.ChangeMaps (open_string shut_string)

theorem own : ownKnob Try.prog.godebug = none := by kernel_rfl
theorem laidOut : laidOutB Try.prog = true := by kernel_rfl

theorem trodAll_below {P : Program} (hl : laidOutB P = true) {H : Type} {enc : TypeId × Value → H} {W W' : World} (hb : Below W.heap.size W W') :
    ∀ (ts : List TypeId) (vs : List Value) (ds : List (DataW H)) (p : List MemPlace), (ts.all fun t => P.readableRec t && decide (t < P.types.size)) = true → DataW.TrodAll enc P W 0 (fun _ => true) true ts vs ds p →
      DataW.TrodAll enc P W' 0 (fun b => decide (b < W.heap.size)) true ts vs ds p
  | [], [], [], _, _, h => h
  | t :: ts, v :: vs, d :: ds, _, hr, h => by
    obtain ⟨p, q, h0, h1, e⟩ := h
    simp only [List.all_cons, Bool.and_eq_true, decide_eq_true_eq] at hr
    refine ⟨p, q, Below.trod hl hr.1.1 hr.1.2 h0 hb ?_, trodAll_below hl hb ts vs ds q (by simpa using hr.2) h1, e⟩
    obtain ⟨m, hm⟩ := h0
    exact DataW.trod_lt m _ _ _ hm
  | [], [], _ :: _, _, _, h => h.elim
  | [], _ :: _, _, _, _, h => h.elim
  | _ :: _, [], _, _, _, h => h.elim
  | _ :: _, _ :: _, [], _, _, h => h.elim
theorem trodAll_len {P : Program} {H : Type} {enc : TypeId × Value → H} {W : World} : ∀ (ts : List TypeId) (vs : List Value) (ds : List (DataW H)) (p : List MemPlace), DataW.TrodAll enc P W 0 (fun _ => true) true ts vs ds p → ds.length = ts.length
  | [], [], [], _, _ => rfl
  | t :: ts, v :: vs, d :: ds, _, h => by
    obtain ⟨p, q, _, h1, _⟩ := h
    simp [trodAll_len ts vs ds q h1]
  | [], [], _ :: _, _, h => h.elim
  | [], _ :: _, _, _, h => h.elim
  | _ :: _, [], _, _, h => h.elim
  | _ :: _, _ :: _, [], _, h => h.elim

/-- What is known of a law's arguments. -/
structure Args (P : Program) {H : Type} (enc : TypeId × Value → H) (W : World) (base : Nat) (ts : List TypeId) (vs : List Value) (ds : List (DataW H)) (p : List MemPlace) : Prop where
  ok : ∀ (j : Nat) t v, ts[j]? = some t → vs[j]? = some v → Value.okWide P W .any base t v
  trod : DataW.TrodAll enc P W 0 (fun _ => true) true ts vs ds p
  room : (DataW.weightsEach P ts ds).all (· ≤ reachBytes) = true

set_option maxRecDepth 100000 in
theorem lift_law {f : FuncId} {F : Func} {s : ChangeSpec} {os : Os} {H : Type} {enc : TypeId × Value → H} (started : os.Started) (hfn : Try.prog.funcs[f]? = some F) (hinit : Try.prog.inits.idxOf? f = none)
    (hres : F.resultTypes = #[4]) (hvars : s.vars = []) (hrow : (F.params.toList.all fun t => Try.prog.readableRec t && decide (t < Try.prog.types.size)) = true)
    (hspec : ∀ (ds : List (DataW H)), ds.length = F.params.size → s.fn H ds = { results := [.lit (.bool true)], args := ds })
    (witness : ∃ (w : World) (tape : Tape) (i : Input), w.os = os ∧ (w.forCall tape i).Shaped Try.checked.prog ∧ i.vars = [] ∧ Input.okWide Try.checked.prog (w.forCall tape i) .any w.heap.size f i ∧
      s.pre6 enc Try.checked.prog F [] false (w.forCall tape i).memory i.args ∧ ({} : Assume).holds Try.checked.prog (lone (Frame.enter Try.checked.prog f i.args .normal) [] (w.forCall tape i)))
    (walk : ∀ (W : World) (base : Nat) (args : Array Value) (ds : List (DataW H)) (p : List MemPlace), Args Try.prog enc W base F.params.toList args.toList ds p → Calls Try.prog f args W (Ret W (.bool true))) :
    ReturnsInHanded {} Try.checked os f .any (s.pre6 enc Try.prog F [] false) (s.post enc Try.prog F false true false false) := by
  refine returnsInHanded_of_change_sized (C := Try.checked) own started hinit hfn witness ?_
  intro W base args ds gs before hval0 hW _ hsz _
  have hW' := hW
  obtain ⟨p, q, hA, hV, rfl, hfz, hnd⟩ := hW
  have hvt : s.plain.varTypes Try.checked.prog = [] := by unfold DataSpec.varTypes ChangeSpec.plain; rw [hvars]; rfl
  rw [hvars] at hV
  obtain ⟨rfl, rfl⟩ := trodVars_none hV
  rw [hvt, List.append_nil, List.append_nil] at hsz
  have hlen : ds.length = F.params.size := by simpa using trodAll_len _ _ _ _ hA
  have hargs : Args Try.prog enc W base F.params.toList args.toList ds p := ⟨fun j t v h1 h2 => hval0 j t v (by simpa using h1) (by simpa using h2), hA, hsz⟩
  refine (walk W base args ds p hargs).mono fun e W' ⟨he, bel⟩ => ?_
  subst he
  refine ⟨_, rfl, ds, [], _, [], p, [], hW', ?_, ?_, ?_, bel.frame _, fun h => (by cases h)⟩
  · rw [List.append_nil, hspec ds hlen, hres]
    exact trodAll_mk1 (shut_bool Try.underlying4 _)
  · rw [List.append_nil, hspec ds hlen]
    exact trodAll_below laidOut bel _ _ _ _ hrow hA
  · rw [List.append_nil, hspec ds hlen, hvars]
    exact rfl

end Go.Proofs.Ytfjbmgfkfeehnaa
