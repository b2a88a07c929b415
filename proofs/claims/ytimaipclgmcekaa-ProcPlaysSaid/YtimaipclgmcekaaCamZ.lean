/- From a walk over known blocks to what a row of the law asks. -/
import Derived.Test.YtimaipclgmcekaaCamA
import Derived.ProofKit
import Derived.Carry
import Derived.OpenShut
namespace Go.Cam
open Go.ChangeShapes Go.WideShapes Go.ChangeAt Go.RowKit
/-- the blocks of a world, held -/
def held (W : World) : Heap := fun b => W.heap[b]?
def nil : Heap := fun _ => none
theorem Has.start (W : World) : Has W W (held W) nil :=
  ⟨rfl, rfl, rfl, Nat.le_refl _, fun _ _ h => h, fun _ _ h => (nomatch h), fun _ _ => rfl⟩
theorem below_of {P : Program} {f : FuncId} {args : Array Value} {W : World} {V : Value} {X : Heap → Prop} (h : ACalls P f args (held W) nil (fun v H' M' => v = V ∧ H' = held W ∧ X M')) :
    Calls P f args W (fun e W' => e = .returned V ∧ Below W.heap.size W W') := by
  refine (h W W (Has.start W)).mono fun e W' ⟨v, H', M', he, hh, hv, hH, _⟩ => ?_
  subst he; subst hv; subst hH
  refine ⟨rfl, hh.os, hh.tape, hh.output, hh.size, fun k hk => ?_⟩
  have : W.heap[k]? = some W.heap[k] := Array.getElem?_eq_getElem hk
  rw [this]
  exact hh.h k _ this
section
variable {H : Type} {enc : TypeId × Value → H} {P : Program}
theorem trodAll_below (hl : laidOutB P = true) {W W' : World} (hb : Below W.heap.size W W') : ∀ {ts : List TypeId} {vs : List Value} {ds : List (DataW H)} {ps : List MemPlace}, ts.all (fun t => P.readableRec t && decide (t < P.types.size)) = true →
    DataW.TrodAll enc P W 0 (fun _ => true) true ts vs ds ps → (∀ x ∈ ps, x.block < W.heap.size) → DataW.TrodAll enc P W' 0 (fun b => decide (b < W.heap.size)) true ts vs ds ps
  | [], vs, ds, ps, _, h, _ => by
    obtain ⟨rfl, rfl, rfl⟩ := trodAll_nil h
    exact h
  | t :: ts, vs, ds, ps, hr, h, hlt => by
    simp only [List.all_cons, Bool.and_eq_true, decide_eq_true_eq] at hr
    obtain ⟨v, vs', d, ds', p, q, rfl, rfl, rfl, h1, h2⟩ := trodAll_cons h
    exact trodAll_cons_mk (Below.trod hl hr.1.1 hr.1.2 h1 hb fun x hx => hlt x (by simp [hx])) (trodAll_below hl hb hr.2 h2 fun x hx => hlt x (by simp [hx]))
/-- the law answers true, and what it was handed reads as it did -/
theorem law_post {f : Func} {s : ChangeSpec} {W W' : World} {args : Array Value} {ds gs : List (DataW H)} {before : List MemPlace} {tb : TypeId} (hl : laidOutB P = true) (hr : f.params.toList.all (fun t => P.readableRec t && decide (t < P.types.size)) = true)
    (hv : s.vars = []) (hf : (s.fn H (ds ++ gs)).results = [.lit (.bool true)] ∧ (s.fn H (ds ++ gs)).args = ds ∧ (s.fn H (ds ++ gs)).vars = []) (hrt : f.resultTypes = #[tb]) (htb : P.underlying tb = some .bool)
    (hW : DataW.Whole enc P f.params.toList s.vars false W args.toList ds gs before) (hb : Below W.heap.size W W') : s.post enc P f false true false false W args (.bool true) W' := by
  have hW' := hW
  obtain ⟨p, q, hA, hV, rfl, _, _⟩ := hW
  rw [hv] at hV
  obtain ⟨rfl, rfl⟩ := trodVars_none hV
  have hlt : ∀ x ∈ p, x.block < W.heap.size := fun x hx => by simpa using hW'.lt x (by simp [hx])
  refine ⟨ds, [], p ++ [], [], p, [], hW', ?_, ?_, ?_, hb.frame _, fun h => by cases h⟩
  · rw [hf.1, hrt]
    exact trodAll_cons_mk (shut_bool htb _) trodAll_mk0
  · rw [hf.2.1]
    exact trodAll_below hl hb hr hA hlt
  · rw [hf.2.2, hv]; exact rfl
end
end Go.Cam
