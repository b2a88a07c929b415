/- FindSpoilt: for every input the call returns true, and each argument reads afterwards as it read before. No condition. -/
import Derived.Test.YtgbbcpfnmkeijaaGreatGrtEA
import Derived.Test.YtgbbcpfnmkeijaaGreatGrtEP
namespace Go.Proofs.YtgbbcpfnmkeijaaGreat
open Go.Cam Go.ChangeShapes Go.WideShapes Go.ChangeAt Go.RowKit
set_option maxRecDepth 100000
theorem Tryz.params5 : Tryz.f5.params = #[39, 54] := rfl
theorem spoilt_lifted (os : Os) (started : os.Started) (H : Type) (enc : TypeId × Value → H) :
    ReturnsInHanded {} Tryz.checked os 5 .any (Rows.findSpoiltSpec.pre6 enc Tryz.prog Tryz.f5 Rows.findSpoiltRow.domain false) (Rows.findSpoiltSpec.post enc Tryz.prog Tryz.f5 false true false false) := by
  refine returnsInHanded_of_change (C := Tryz.checked) Tryz.own started (by kernel_rfl) Tryz.func5
    (ChangeSpec.witness6 (enc := enc) (C := Tryz.checked) false ⟨#[], #[.agg #[.slice none 0 0, .slice none 0 0], .agg #[.int .i64 0, .int .i64 0, .int .i64 0]], []⟩ 8 (by kernel_rfl) (by kernel_rfl) (by kernel_rfl) (by kernel_rfl)) ?_
  intro W base args ds gs before hval0 hW _ _
  have hW' := hW
  obtain ⟨p, q, hA0, hV, rfl, _, _⟩ := hW
  have hA : DataW.TrodAll enc Tryz.prog W 0 (fun _ => true) true Tryz.f5.params.toList args.toList ds p := hA0
  rw [Tryz.params5] at hA
  obtain ⟨v0, vs0, d0, ds0, p0, q0, hargs, rfl, rfl, ⟨n0, h0⟩, r0⟩ := trodAll_cons hA
  obtain ⟨v1, vs1, d1, ds1, p1, q1, rfl, rfl, rfl, ⟨n1, h1⟩, r1⟩ := trodAll_cons r0
  obtain ⟨rfl, rfl, rfl⟩ := trodAll_nil r1
  obtain rfl : args = #[v0, v1] := by cases args; simp_all
  obtain ⟨rfl, rfl⟩ := trodVars_none hV
  have s0 := trod_sh 8 n0 39 _ _ worldSh h0 (by kernel_rfl)
  obtain ⟨x, hx, hok, hax⟩ := world_of s0
  have e0 : v0 = x.v := (agg_of rfl (by rw [Sh.ok_len s0]; decide)).trans (by rw [hx])
  subst e0
  have s1 := trod_sh 8 n1 54 _ _ keySh h1 (by kernel_rfl)
  obtain ⟨k1, hk1, _⟩ := key_of s1
  have e1 : v1 = k1.v := (agg_of hk1 (by simp [Key.row])).trans rfl
  subst e1
  refine (below_ctr (spoilt_c x hok k1) ?_).mono fun e W' ⟨he, hb⟩ => ?_
  · exact (sat_per1 (fun M => (hax M).1) (sat_per1 (fun M => (hax M).2.1) (sat_per1 (Bs := []) (M := nil) (fun M => (hax M).2.2) trivial)))
  · subst he
    exact ⟨_, rfl, law_post (tb := 4) Tryz.laidOut (by kernel_rfl) rfl ⟨rfl, rfl, rfl⟩ rfl Tryz.underlying4 hW' hb⟩
theorem spoilt_holds : Rows.FindSpoiltSaid :=
  OpenClaim.holds_of_wide 5 Tryz.f5 rfl rfl rfl rfl rfl rfl rfl ⟨rfl, rfl, rfl, rfl, rfl⟩ rfl rfl rfl rfl rfl (by kernel_rfl) Tryz.func5 (by kernel_rfl)
    (of_decide_eq_true (by kernel_rfl)) (by unfold Func.isWrapper; first | (rw [if_pos (by decide +kernel)]; kernel_rfl) | (rw [if_neg (by decide +kernel)]; exact ⟨rfl, rfl⟩))
    (fun os started H enc _ => spoilt_lifted os started H enc)
#print axioms spoilt_holds
end Go.Proofs.YtgbbcpfnmkeijaaGreat
