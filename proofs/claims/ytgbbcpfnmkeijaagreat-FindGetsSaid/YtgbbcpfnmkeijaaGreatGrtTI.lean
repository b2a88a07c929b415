/- FindGets: for every input the call returns true, and each argument reads afterwards as it read before. No condition. -/
import Derived.Test.YtgbbcpfnmkeijaaGreatGrtSh
import Derived.Test.YtgbbcpfnmkeijaaGreatGrtEK
namespace Go.Proofs.YtgbbcpfnmkeijaaGreat
open Go.Cam Go.ChangeShapes Go.WideShapes Go.ChangeAt Go.RowKit
set_option maxRecDepth 100000
theorem Tryz.params4 : Tryz.f4.params = #[39, 40, 4] := rfl
theorem gets_lifted (os : Os) (started : os.Started) (H : Type) (enc : TypeId × Value → H) :
    ReturnsInHanded {} Tryz.checked os 4 .any (Rows.findGetsSpec.pre6 enc Tryz.prog Tryz.f4 Rows.findGetsRow.domain false) (Rows.findGetsSpec.post enc Tryz.prog Tryz.f4 false true false false) := by
  refine returnsInHanded_of_change (C := Tryz.checked) Tryz.own started (by kernel_rfl) Tryz.func4
    (ChangeSpec.witness6 (enc := enc) (C := Tryz.checked) false ⟨#[], #[.agg #[.slice none 0 0, .slice none 0 0], .slice none 0 0, .bool false], []⟩ 8 (by kernel_rfl) (by kernel_rfl) (by kernel_rfl) (by kernel_rfl)) ?_
  intro W base args ds gs before hval0 hW _ _
  have hval : ∀ (j : Nat) t v, Tryz.f4.params[j]? = some t → args[j]? = some v → Value.okWide Tryz.prog W .any base t v := hval0
  have hW' := hW
  obtain ⟨p, q, hA0, hV, rfl, _, _⟩ := hW
  have hA : DataW.TrodAll enc Tryz.prog W 0 (fun _ => true) true Tryz.f4.params.toList args.toList ds p := hA0
  rw [Tryz.params4] at hA hval
  obtain ⟨v0, vs0, d0, ds0, p0, q0, hargs, rfl, rfl, ⟨n0, h0⟩, r0⟩ := trodAll_cons hA
  obtain ⟨v1, vs1, d1, ds1, p1, q1, rfl, rfl, rfl, ⟨n1, h1⟩, r1⟩ := trodAll_cons r0
  obtain ⟨v2, vs2, d2, ds2, p2, q2, rfl, rfl, rfl, ⟨n2, h2⟩, r2⟩ := trodAll_cons r1
  obtain ⟨rfl, rfl, rfl⟩ := trodAll_nil r2
  obtain rfl : args = #[v0, v1, v2] := by cases args; simp_all
  obtain ⟨rfl, rfl⟩ := trodVars_none hV
  have s0 := trod_sh 8 n0 39 _ _ worldSh h0 (by kernel_rfl)
  obtain ⟨x, hx, hok, hax⟩ := world_of s0
  have e0 : v0 = x.v := (agg_of rfl (by rw [Sh.ok_len s0]; decide)).trans (by rw [hx])
  subst e0
  have s1 := trod_sh 8 n1 40 _ _ (.slice 3 keySh) h1 (by kernel_rfl)
  obtain ⟨sa1, sl1, sc1, rfl⟩ := okWide_slice (t := 40) (e := 49) (by kernel_rfl) (hval 1 40 v1 rfl rfl)
  obtain ⟨b1, c1, z1, hc1, hn1, hz1⟩ := keys_of s1
  obtain ⟨rfl, rfl, rfl⟩ : sa1 = b1 ∧ sl1 = z1.length ∧ sc1 = c1 := by simpa [Value.cells] using hc1
  obtain ⟨k2, rfl⟩ := okWide_bool (t := 4) (by kernel_rfl) (hval 2 4 v2 rfl rfl)
  refine (below_ctr (gets_c x hok z1 hn1 k2) ?_).mono fun e W' ⟨he, hb⟩ => ?_
  · exact (sat_per1 (fun M => (hax M).1) (sat_per1 (fun M => (hax M).2.1) (sat_per1 (fun M => (hax M).2.2) (sat_per1 (Bs := []) (M := nil) hz1 trivial))))
  · subst he
    exact ⟨_, rfl, law_post (tb := 4) Tryz.laidOut (by kernel_rfl) rfl ⟨rfl, rfl, rfl⟩ rfl Tryz.underlying4 hW' hb⟩
theorem gets_holds : Rows.FindGetsSaid :=
  OpenClaim.holds_of_wide 4 Tryz.f4 rfl rfl rfl rfl rfl rfl rfl ⟨rfl, rfl, rfl, rfl, rfl⟩ rfl rfl rfl rfl rfl (by kernel_rfl) Tryz.func4 (by kernel_rfl)
    (of_decide_eq_true (by kernel_rfl)) (by unfold Func.isWrapper; first | (rw [if_pos (by decide +kernel)]; kernel_rfl) | (rw [if_neg (by decide +kernel)]; exact ⟨rfl, rfl⟩))
    (fun os started H enc _ => gets_lifted os started H enc)
#print axioms gets_holds
end Go.Proofs.YtgbbcpfnmkeijaaGreat
