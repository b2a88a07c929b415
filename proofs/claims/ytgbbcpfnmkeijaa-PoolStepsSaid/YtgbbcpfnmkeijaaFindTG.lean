/- PoolSteps: for every input the call returns true, and each argument reads afterwards as it read before. No condition. -/
import Derived.Test.YtgbbcpfnmkeijaaFindTA
import Derived.Test.YtgbbcpfnmkeijaaFindCK
namespace Go.Proofs.Ytgbbcpfnmkeijaa
open Go.Cam Go.ChangeShapes Go.WideShapes Go.ChangeAt Go.RowKit
set_option maxRecDepth 100000
theorem Try.params9 : Try.f9.params = #[3, 86, 87] := rfl
theorem steps_lifted (os : Os) (started : os.Started) (H : Type) (enc : TypeId × Value → H) :
    ReturnsInHanded {} Try.checked os 9 .any (Rows.poolStepsSpec.pre6 enc Try.prog Try.f9 Rows.poolStepsRow.domain false) (Rows.poolStepsSpec.post enc Try.prog Try.f9 false true false false) := by
  refine returnsInHanded_of_change (C := Try.checked) Try.own started (by kernel_rfl) Try.func9
    (ChangeSpec.witness6 (enc := enc) (C := Try.checked) false ⟨#[], #[.int .i64 0, .slice none 0 0, .slice none 0 0], []⟩ 8 (by kernel_rfl) (by kernel_rfl) (by kernel_rfl) (by kernel_rfl)) ?_
  intro W base args ds gs before hval0 hW _ _
  have hval : ∀ (j : Nat) t v, Try.f9.params[j]? = some t → args[j]? = some v → Value.okWide Try.prog W .any base t v := hval0
  have hW' := hW
  obtain ⟨p, q, hA0, hV, rfl, _, _⟩ := hW
  have hA : DataW.TrodAll enc Try.prog W 0 (fun _ => true) true Try.f9.params.toList args.toList ds p := hA0
  rw [Try.params9] at hA hval
  obtain ⟨v0, vs0, d0, ds0, p0, q0, hargs, rfl, rfl, ⟨n0, h0⟩, r0⟩ := trodAll_cons hA
  obtain ⟨v1, vs1, d1, ds1, p1, q1, rfl, rfl, rfl, ⟨n1, h1⟩, r1⟩ := trodAll_cons r0
  obtain ⟨v2, vs2, d2, ds2, p2, q2, rfl, rfl, rfl, ⟨n2, h2⟩, r2⟩ := trodAll_cons r1
  obtain ⟨rfl, rfl, rfl⟩ := trodAll_nil r2
  obtain rfl : args = #[v0, v1, v2] := by cases args; simp_all
  obtain ⟨rfl, rfl⟩ := trodVars_none hV
  obtain ⟨k0, rfl⟩ := okWide_int (t := 3) (k := .i64) (by kernel_rfl) (hval 0 3 v0 rfl rfl)
  have s0 := trod_sh 8 n0 3 _ _ (.int .i64) h0 (by kernel_rfl)
  obtain ⟨m0, e0, w0⟩ := s0
  obtain rfl : k0 = m0 := by simpa [Value.cells] using e0
  have w0 := wf_i64 w0
  have s1 := trod_sh 8 n1 86 _ _ (.slice 1 (.slice 1 (.int .u8))) h1 (by kernel_rfl)
  obtain ⟨sa1, sl1, sc1, rfl⟩ := okWide_slice (t := 86) (e := 44) (by kernel_rfl) (hval 1 86 v1 rfl rfl)
  obtain ⟨b1, c1, y1, z1, hc1, hr1, hn1, hz1⟩ := bls_of s1
  obtain ⟨rfl, rfl, rfl⟩ : sa1 = b1 ∧ sl1 = z1.length ∧ sc1 = c1 := by simpa [Value.cells] using hc1
  have s2 := trod_sh 8 n2 87 _ _ (.slice 1 .bool) h2 (by kernel_rfl)
  obtain ⟨sa2, sl2, sc2, rfl⟩ := okWide_slice (t := 87) (e := 4) (by kernel_rfl) (hval 2 87 v2 rfl rfl)
  obtain ⟨b2, c2, z2, hc2, hn2, hz2⟩ := bools_of s2
  obtain ⟨rfl, rfl, rfl⟩ : sa2 = b2 ∧ sl2 = z2.length ∧ sc2 = c2 := by simpa [Value.cells] using hc2
  refine (below_ctr (steps_c k0 w0 y1 z1 hn1 hr1 z2 hn2) ?_).mono fun e W' ⟨he, hb⟩ => ?_
  · exact (sat_per1 (fun M => (hz1 M).1) (sat_per1 (fun M => (hz1 M).2) (sat_per1 (Bs := []) (M := nil) hz2 trivial)))
  · subst he
    exact ⟨_, rfl, law_post (tb := 4) Try.laidOut (by kernel_rfl) rfl ⟨rfl, rfl, rfl⟩ rfl Try.underlying4 hW' hb⟩
theorem steps_holds : Rows.PoolStepsSaid :=
  OpenClaim.holds_of_wide 9 Try.f9 rfl rfl rfl rfl rfl rfl rfl ⟨rfl, rfl, rfl, rfl, rfl⟩ rfl rfl rfl rfl rfl (by kernel_rfl) Try.func9 (by kernel_rfl)
    (of_decide_eq_true (by kernel_rfl)) (by unfold Func.isWrapper; first | (rw [if_pos (by decide +kernel)]; kernel_rfl) | (rw [if_neg (by decide +kernel)]; exact ⟨rfl, rfl⟩))
    (fun os started H enc _ => steps_lifted os started H enc)
#print axioms steps_holds
end Go.Proofs.Ytgbbcpfnmkeijaa
