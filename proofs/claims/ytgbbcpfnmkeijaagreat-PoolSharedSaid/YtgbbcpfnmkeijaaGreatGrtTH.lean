/- PoolShared: for every input the call returns true, and each argument reads afterwards as it read before. No condition. -/
import Derived.Test.YtgbbcpfnmkeijaaGreatGrtDD
namespace Go.Proofs.YtgbbcpfnmkeijaaGreat
open Go.Cam Go.ChangeShapes Go.WideShapes Go.ChangeAt Go.RowKit
set_option maxRecDepth 100000
theorem Tryz.params3 : Tryz.f3.params = #[22, 22, 22] := rfl
theorem shared_lifted (os : Os) (started : os.Started) (H : Type) (enc : TypeId × Value → H) :
    ReturnsInHanded {} Tryz.checked os 3 .any (Rows.poolSharedSpec.pre6 enc Tryz.prog Tryz.f3 Rows.poolSharedRow.domain false) (Rows.poolSharedSpec.post enc Tryz.prog Tryz.f3 false true false false) := by
  refine returnsInHanded_of_change (C := Tryz.checked) Tryz.own started (by kernel_rfl) Tryz.func3
    (ChangeSpec.witness6 (enc := enc) (C := Tryz.checked) false ⟨#[], #[.slice none 0 0, .slice none 0 0, .slice none 0 0], []⟩ 8 (by kernel_rfl) (by kernel_rfl) (by kernel_rfl) (by kernel_rfl)) ?_
  intro W base args ds gs before hval0 hW _ _
  have hval : ∀ (j : Nat) t v, Tryz.f3.params[j]? = some t → args[j]? = some v → Value.okWide Tryz.prog W .any base t v := hval0
  have hW' := hW
  obtain ⟨p, q, hA0, hV, rfl, _, _⟩ := hW
  have hA : DataW.TrodAll enc Tryz.prog W 0 (fun _ => true) true Tryz.f3.params.toList args.toList ds p := hA0
  rw [Tryz.params3] at hA hval
  obtain ⟨v0, vs0, d0, ds0, p0, q0, hargs, rfl, rfl, ⟨n0, h0⟩, r0⟩ := trodAll_cons hA
  obtain ⟨v1, vs1, d1, ds1, p1, q1, rfl, rfl, rfl, ⟨n1, h1⟩, r1⟩ := trodAll_cons r0
  obtain ⟨v2, vs2, d2, ds2, p2, q2, rfl, rfl, rfl, ⟨n2, h2⟩, r2⟩ := trodAll_cons r1
  obtain ⟨rfl, rfl, rfl⟩ := trodAll_nil r2
  obtain rfl : args = #[v0, v1, v2] := by cases args; simp_all
  obtain ⟨rfl, rfl⟩ := trodVars_none hV
  have s0 := trod_sh 8 n0 22 _ _ (.slice 1 (.slice 1 (.int .u8))) h0 (by kernel_rfl)
  obtain ⟨sa0, sl0, sc0, rfl⟩ := okWide_slice (t := 22) (e := 45) (by kernel_rfl) (hval 0 22 v0 rfl rfl)
  obtain ⟨b0, c0, y0, z0, hc0, hr0, hn0, hz0⟩ := bls_of s0
  obtain ⟨rfl, rfl, rfl⟩ : sa0 = b0 ∧ sl0 = z0.length ∧ sc0 = c0 := by simpa [Value.cells] using hc0
  have s1 := trod_sh 8 n1 22 _ _ (.slice 1 (.slice 1 (.int .u8))) h1 (by kernel_rfl)
  obtain ⟨sa1, sl1, sc1, rfl⟩ := okWide_slice (t := 22) (e := 45) (by kernel_rfl) (hval 1 22 v1 rfl rfl)
  obtain ⟨b1, c1, y1, z1, hc1, hr1, hn1, hz1⟩ := bls_of s1
  obtain ⟨rfl, rfl, rfl⟩ : sa1 = b1 ∧ sl1 = z1.length ∧ sc1 = c1 := by simpa [Value.cells] using hc1
  have s2 := trod_sh 8 n2 22 _ _ (.slice 1 (.slice 1 (.int .u8))) h2 (by kernel_rfl)
  obtain ⟨sa2, sl2, sc2, rfl⟩ := okWide_slice (t := 22) (e := 45) (by kernel_rfl) (hval 2 22 v2 rfl rfl)
  obtain ⟨b2, c2, y2, z2, hc2, hr2, hn2, hz2⟩ := bls_of s2
  obtain ⟨rfl, rfl, rfl⟩ : sa2 = b2 ∧ sl2 = z2.length ∧ sc2 = c2 := by simpa [Value.cells] using hc2
  refine (below_ctr (shared_c y0 z0 hn0 y1 z1 hn1 y2 z2 hn2) ?_).mono fun e W' ⟨he, hb⟩ => ?_
  · exact (sat_per1 (fun M => (hz0 M).1) (sat_per1 (fun M => (hz0 M).2) (sat_per1 (fun M => (hz1 M).1) (sat_per1 (fun M => (hz1 M).2) (sat_per1 (fun M => (hz2 M).1) (sat_per1 (Bs := []) (M := nil) (fun M => (hz2 M).2) trivial))))))
  · subst he
    exact ⟨_, rfl, law_post (tb := 4) Tryz.laidOut (by kernel_rfl) rfl ⟨rfl, rfl, rfl⟩ rfl Tryz.underlying4 hW' hb⟩
theorem shared_holds : Rows.PoolSharedSaid :=
  OpenClaim.holds_of_wide 3 Tryz.f3 rfl rfl rfl rfl rfl rfl rfl ⟨rfl, rfl, rfl, rfl, rfl⟩ rfl rfl rfl rfl rfl (by kernel_rfl) Tryz.func3 (by kernel_rfl)
    (of_decide_eq_true (by kernel_rfl)) (by unfold Func.isWrapper; first | (rw [if_pos (by decide +kernel)]; kernel_rfl) | (rw [if_neg (by decide +kernel)]; exact ⟨rfl, rfl⟩))
    (fun os started H enc _ => shared_lifted os started H enc)
#print axioms shared_holds
end Go.Proofs.YtgbbcpfnmkeijaaGreat
