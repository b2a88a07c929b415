/- ProcPlays: for every input the call returns true, and each argument reads afterwards as it read before. No condition. -/
import Derived.Test.YtimaipclgmcekaaProcAH
import Derived.Test.YtimaipclgmcekaaProcZ
namespace Go.Proofs.Ytimaipclgmcekaa
open Go.Cam Go.ChangeShapes Go.WideShapes Go.ChangeAt Go.RowKit
set_option maxRecDepth 100000
theorem Try.params6 : Try.f6.params = #[38] := rfl
set_option maxRecDepth 100000 in
theorem plays_lifted (os : Os) (started : os.Started) (H : Type) (enc : TypeId × Value → H) :
    ReturnsInHanded {} Try.checked os 6 .any (Rows.procPlaysSpec.pre6 enc Try.prog Try.f6 Rows.procPlaysRow.domain false) (Rows.procPlaysSpec.post enc Try.prog Try.f6 false true false false) := by
  refine returnsInHanded_of_change (C := Try.checked) Try.own started (by kernel_rfl) Try.func6
    (ChangeSpec.witness6 (enc := enc) (C := Try.checked) false ⟨#[], #[.slice none 0 0], []⟩ 8 (by kernel_rfl) (by kernel_rfl) (by kernel_rfl) (by kernel_rfl)) ?_
  intro W base args ds gs before hval0 hW _ _
  have hval : ∀ (j : Nat) t v, Try.f6.params[j]? = some t → args[j]? = some v → Value.okWide Try.prog W .any base t v := hval0
  have hW' := hW
  obtain ⟨p, q, hA0, hV, rfl, _, _⟩ := hW
  have hA : DataW.TrodAll enc Try.prog W 0 (fun _ => true) true Try.f6.params.toList args.toList ds p := hA0
  rw [Try.params6] at hA hval
  obtain ⟨v0, vs0, d0, ds0, p0, q0, hargs, rfl, rfl, h0, r0⟩ := trodAll_cons hA
  obtain ⟨rfl, rfl, rfl⟩ := trodAll_nil r0
  obtain rfl : args = #[v0] := by cases args; simp_all
  obtain ⟨rfl, rfl⟩ := trodVars_none hV
  obtain ⟨a, len, cap, row, rfl, hfit, hsa⟩ := rows_sa (ks := opK) Try.underlying38 Try.cells43 (by omega) 8 (by kernel_rfl) rfl (okWide_slice Try.underlying38 (hval 0 38 v0 rfl rfl)) h0
  obtain ⟨g, hg⟩ := op_rows hfit
  refine (below_ctr (plays_law a len cap g fun i hi => (hg i hi).2) (Sat.join (As := []) (F := _) ?_)).mono fun e W' ⟨he, hb⟩ => ?_
  · exact star_comm (per_add (M0 := nil) (X := Sat []) (SA.cg (fun i => opRow (g i)) (fun i hi => (hg i hi).1) _ _ (hsa nil)) trivial)
  · subst he
    exact ⟨_, rfl, law_post (tb := 4) Try.laidOut (by kernel_rfl) rfl ⟨rfl, rfl, rfl⟩ rfl Try.underlying4 hW' hb⟩
theorem plays_holds : Rows.ProcPlaysSaid :=
  OpenClaim.holds_of_wide 6 Try.f6 rfl rfl rfl rfl rfl rfl rfl ⟨rfl, rfl, rfl, rfl, rfl⟩ rfl rfl rfl rfl rfl (by kernel_rfl) Try.func6 (by kernel_rfl)
    (of_decide_eq_true (by kernel_rfl)) (by unfold Func.isWrapper; first | (rw [if_pos (by decide +kernel)]; kernel_rfl) | (rw [if_neg (by decide +kernel)]; exact ⟨rfl, rfl⟩))
    (fun os started H enc _ => plays_lifted os started H enc)
#print axioms plays_holds
end Go.Proofs.Ytimaipclgmcekaa
