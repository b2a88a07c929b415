/- PoolCrash: for every input the call returns true, and each argument reads afterwards as it read before. No condition. -/
import Derived.Test.YtldonbnjefhfdaaCrsT1
import Derived.Test.YtldonbnjefhfdaaCrsFD
namespace Go.Proofs.Ytldonbnjefhfdaa
open Go.Cam Go.ChangeShapes Go.WideShapes Go.ChangeAt Go.RowKit
set_option maxRecDepth 100000
theorem Try.params3 : Try.f3.params = #[3, 23, 26] := rfl
theorem crash_lifted (os : Os) (started : os.Started) (H : Type) (enc : TypeId × Value → H) :
    ReturnsInHanded {} Try.checked os 3 .any (Rows.poolCrashSpec.pre6 enc Try.prog Try.f3 Rows.poolCrashRow.domain false) (Rows.poolCrashSpec.post enc Try.prog Try.f3 false true false false) := by
  refine returnsInHanded_of_change (C := Try.checked) Try.own started (by kernel_rfl) Try.func3
    (ChangeSpec.witness6 (enc := enc) (C := Try.checked) false ⟨#[], #[.int .i64 0, .agg #[.slice none 0 0, .slice none 0 0], .agg #[.int .i64 0, .slice none 0 0]], []⟩ 8 (by kernel_rfl) (by kernel_rfl) (by kernel_rfl) (by kernel_rfl)) ?_
  intro W base args ds gs before hval0 hW _ _
  have hval : ∀ (j : Nat) t v, Try.f3.params[j]? = some t → args[j]? = some v → Value.okWide Try.prog W .any base t v := hval0
  have hW' := hW
  obtain ⟨p, q, hA0, hV, rfl, _, _⟩ := hW
  have hA : DataW.TrodAll enc Try.prog W 0 (fun _ => true) true Try.f3.params.toList args.toList ds p := hA0
  rw [Try.params3] at hA hval
  obtain ⟨v0, vs0, d0, ds0, p0, q0, hargs, rfl, rfl, ⟨n0, h0⟩, r0⟩ := trodAll_cons hA
  obtain ⟨v1, vs1, d1, ds1, p1, q1, rfl, rfl, rfl, ⟨n1, h1⟩, r1⟩ := trodAll_cons r0
  obtain ⟨v2, vs2, d2, ds2, p2, q2, rfl, rfl, rfl, ⟨n2, h2⟩, r2⟩ := trodAll_cons r1
  obtain ⟨rfl, rfl, rfl⟩ := trodAll_nil r2
  obtain rfl : args = #[v0, v1, v2] := by cases args; simp_all
  obtain ⟨rfl, rfl⟩ := trodVars_none hV
  obtain ⟨k0, rfl⟩ := okWide_int (t := 3) (k := .i64) (by kernel_rfl) (hval 0 3 v0 rfl rfl)
  have s0 := trod_sh 8 n0 3 _ _ (.int .i64) h0 (by kernel_rfl)
  obtain ⟨m0, e0, w0⟩ := s0
  obtain rfl : k0 = m0 := by simpa [Value.cells] using e0
  have w0 := wf_i64 w0
  have s1 := trod_sh 8 n1 23 _ _ twoSh h1 (by kernel_rfl)
  obtain ⟨a, c, wa, la, a', c', wb, lb, e1, b1, b2, b3, b4, b5⟩ := two_of s1
  have e1 : v1 = .agg #[.slice a la.length c, .slice a' lb.length c'] := (agg_of rfl (by rw [Sh.ok_len s1]; decide)).trans (by rw [e1])
  subst e1
  have s2 := trod_sh 8 n2 26 _ _ offSh h2 (by kernel_rfl)
  obtain ⟨st, ka, kc, keep, e2, c1, c2, c3, c4⟩ := off_of s2
  have e2 : v2 = .agg #[.int .i64 st, .slice ka keep.length kc] := (agg_of rfl (by rw [Sh.ok_len s2]; decide)).trans (by rw [e2])
  subst e2
  refine (below_ctr (crash_c k0 w0 wa wb la lb b3 b4 b1 b2 st c1 keep c3 c2) ?_).mono fun e W' ⟨he, hb⟩ => ?_
  · exact (sat_per1 (fun M => (b5 M).1) (sat_per1 (fun M => (b5 M).2.1) (sat_per1 (fun M => (b5 M).2.2.1) (sat_per1 (fun M => (b5 M).2.2.2) (sat_per1 (Bs := []) (M := nil) c4 trivial)))))
  · subst he
    exact ⟨_, rfl, law_post (tb := 4) Try.laidOut (by kernel_rfl) rfl ⟨rfl, rfl, rfl⟩ rfl Try.underlying4 hW' hb⟩
theorem crash_holds : Rows.PoolCrashSaid :=
  OpenClaim.holds_of_wide 3 Try.f3 rfl rfl rfl rfl rfl rfl rfl ⟨rfl, rfl, rfl, rfl, rfl⟩ rfl rfl rfl rfl rfl (by kernel_rfl) Try.func3 (by kernel_rfl)
    (of_decide_eq_true (by kernel_rfl)) (by unfold Func.isWrapper; first | (rw [if_pos (by decide +kernel)]; kernel_rfl) | (rw [if_neg (by decide +kernel)]; exact ⟨rfl, rfl⟩))
    (fun os started H enc _ => crash_lifted os started H enc)
#print axioms crash_holds
end Go.Proofs.Ytldonbnjefhfdaa
