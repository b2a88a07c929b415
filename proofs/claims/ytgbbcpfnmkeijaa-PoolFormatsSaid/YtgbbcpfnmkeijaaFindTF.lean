/- PoolFormats: for every input the call returns true, and each argument reads afterwards as it read before. No condition. -/
import Derived.Test.YtgbbcpfnmkeijaaFindTA
import Derived.Test.YtgbbcpfnmkeijaaFindCI
namespace Go.Proofs.Ytgbbcpfnmkeijaa
open Go.Cam Go.ChangeShapes Go.WideShapes Go.ChangeAt Go.RowKit
set_option maxRecDepth 100000
theorem Try.params8 : Try.f8.params = #[3, 68] := rfl
theorem formats_lifted (os : Os) (started : os.Started) (H : Type) (enc : TypeId × Value → H) :
    ReturnsInHanded {} Try.checked os 8 .any (Rows.poolFormatsSpec.pre6 enc Try.prog Try.f8 Rows.poolFormatsRow.domain false) (Rows.poolFormatsSpec.post enc Try.prog Try.f8 false true false false) := by
  refine returnsInHanded_of_change (C := Try.checked) Try.own started (by kernel_rfl) Try.func8
    (ChangeSpec.witness6 (enc := enc) (C := Try.checked) false ⟨#[], #[.int .i64 0, .slice none 0 0], []⟩ 8 (by kernel_rfl) (by kernel_rfl) (by kernel_rfl) (by kernel_rfl)) ?_
  intro W base args ds gs before hval0 hW _ _
  have hval : ∀ (j : Nat) t v, Try.f8.params[j]? = some t → args[j]? = some v → Value.okWide Try.prog W .any base t v := hval0
  have hW' := hW
  obtain ⟨p, q, hA0, hV, rfl, _, _⟩ := hW
  have hA : DataW.TrodAll enc Try.prog W 0 (fun _ => true) true Try.f8.params.toList args.toList ds p := hA0
  rw [Try.params8] at hA hval
  obtain ⟨v0, vs0, d0, ds0, p0, q0, hargs, rfl, rfl, ⟨n0, h0⟩, r0⟩ := trodAll_cons hA
  obtain ⟨v1, vs1, d1, ds1, p1, q1, rfl, rfl, rfl, ⟨n1, h1⟩, r1⟩ := trodAll_cons r0
  obtain ⟨rfl, rfl, rfl⟩ := trodAll_nil r1
  obtain rfl : args = #[v0, v1] := by cases args; simp_all
  obtain ⟨rfl, rfl⟩ := trodVars_none hV
  obtain ⟨k0, rfl⟩ := okWide_int (t := 3) (k := .i64) (by kernel_rfl) (hval 0 3 v0 rfl rfl)
  have s0 := trod_sh 8 n0 3 _ _ (.int .i64) h0 (by kernel_rfl)
  obtain ⟨m0, e0, w0⟩ := s0
  obtain rfl : k0 = m0 := by simpa [Value.cells] using e0
  have w0 := wf_i64 w0
  have s1 := trod_sh 8 n1 68 _ _ (.slice 2 ((Sh.int .i64).rep 2)) h1 (by kernel_rfl)
  obtain ⟨sa1, sl1, sc1, rfl⟩ := okWide_slice (t := 68) (e := 72) (by kernel_rfl) (hval 1 68 v1 rfl rfl)
  obtain ⟨b1, c1, z1, hc1, hr1, hn1, hz1⟩ := pairs_of s1
  obtain ⟨rfl, rfl, rfl⟩ : sa1 = b1 ∧ sl1 = z1.length ∧ sc1 = c1 := by simpa [Value.cells] using hc1
  refine (below_ctr (formats_c k0 w0 z1 hn1 hr1) ?_).mono fun e W' ⟨he, hb⟩ => ?_
  · exact (sat_per1 (Bs := []) (M := nil) hz1 trivial)
  · subst he
    exact ⟨_, rfl, law_post (tb := 4) Try.laidOut (by kernel_rfl) rfl ⟨rfl, rfl, rfl⟩ rfl Try.underlying4 hW' hb⟩
theorem formats_holds : Rows.PoolFormatsSaid :=
  OpenClaim.holds_of_wide 8 Try.f8 rfl rfl rfl rfl rfl rfl rfl ⟨rfl, rfl, rfl, rfl, rfl⟩ rfl rfl rfl rfl rfl (by kernel_rfl) Try.func8 (by kernel_rfl)
    (of_decide_eq_true (by kernel_rfl)) (by unfold Func.isWrapper; first | (rw [if_pos (by decide +kernel)]; kernel_rfl) | (rw [if_neg (by decide +kernel)]; exact ⟨rfl, rfl⟩))
    (fun os started H enc _ => formats_lifted os started H enc)
#print axioms formats_holds
end Go.Proofs.Ytgbbcpfnmkeijaa
