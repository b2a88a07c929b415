/- FindScans: for every input the call returns true, and each argument reads afterwards as it read before. No condition. -/
import Derived.Test.YtgbbcpfnmkeijaaFindBL
import Derived.Test.YtgbbcpfnmkeijaaRows
namespace Go.Proofs.Ytgbbcpfnmkeijaa
open Go.Cam Go.ChangeShapes Go.WideShapes Go.ChangeAt Go.RowKit
set_option maxRecDepth 100000
theorem Try.own : ownKnob Try.prog.godebug = none := by kernel_rfl
theorem Try.laidOut : laidOutB Try.prog = true := by kernel_rfl
theorem Try.params3 : Try.f3.params = #[25, 28, 3] := rfl
theorem scans_lifted (os : Os) (started : os.Started) (H : Type) (enc : TypeId × Value → H) :
    ReturnsInHanded {} Try.checked os 3 .any (Rows.findScansSpec.pre6 enc Try.prog Try.f3 Rows.findScansRow.domain false) (Rows.findScansSpec.post enc Try.prog Try.f3 false true false false) := by
  refine returnsInHanded_of_change (C := Try.checked) Try.own started (by kernel_rfl) Try.func3
    (ChangeSpec.witness6 (enc := enc) (C := Try.checked) false ⟨#[], #[.agg #[.slice none 0 0, .slice none 0 0], .agg #[.int .i64 0, .int .i64 0, .int .i64 0, .int .i64 0, .int .i64 0, .int .i64 0], .int .i64 0], []⟩ 8 (by kernel_rfl) (by kernel_rfl) (by kernel_rfl) (by kernel_rfl)) ?_
  intro W base args ds gs before hval0 hW _ _
  have hval : ∀ (j : Nat) t v, Try.f3.params[j]? = some t → args[j]? = some v → Value.okWide Try.prog W .any base t v := hval0
  have hW' := hW
  obtain ⟨p, q, hA0, hV, rfl, _, _⟩ := hW
  have hA : DataW.TrodAll enc Try.prog W 0 (fun _ => true) true Try.f3.params.toList args.toList ds p := hA0
  rw [Try.params3] at hA hval
  obtain ⟨v0, vs0, d0, ds0, p0, q0, hargs, rfl, rfl, ⟨n0, h0⟩, r0⟩ := trodAll_cons hA
  obtain ⟨v1, vs1, d1, ds1, p1, q1, rfl, rfl, rfl, ⟨n1, h1⟩, r1⟩ := trodAll_cons r0
  obtain ⟨v2, vs2, d2, ds2, p2, q2, rfl, rfl, rfl, ⟨n2, h2⟩, r2⟩ := trodAll_cons r1
  obtain ⟨rfl, rfl, rfl⟩ := trodAll_nil r2
  obtain rfl : args = #[v0, v1, v2] := by cases args; simp_all
  obtain ⟨rfl, rfl⟩ := trodVars_none hV
  have s0 := trod_sh 8 n0 25 _ _ worldSh h0 (by kernel_rfl)
  have s1 := trod_sh 8 n1 28 _ _ (.cat keySh (.cat keySh .emp)) h1 (by kernel_rfl)
  obtain ⟨k2, rfl⟩ := okWide_int (t := 3) (k := .i64) (by kernel_rfl) (hval 2 3 v2 rfl rfl)
  obtain ⟨x, hx, hok, hax⟩ := world_of s0
  have e0 : v0 = x.v := (agg_of rfl (by rw [Sh.ok_len s0]; decide)).trans (by rw [hx])
  obtain ⟨_, _, hc1, k1, _, _, rfl, k2', rfl⟩ := s1
  obtain ⟨fr, rfl, _⟩ := key_of k1
  obtain ⟨to, rfl, _⟩ := key_of k2'
  have e1 : v1 = .agg #[.int .i64 fr.obj, .int .i64 fr.kind, .int .i64 fr.off, .int .i64 to.obj, .int .i64 to.kind, .int .i64 to.off] := (agg_of hc1 (by simp [Key.row])).trans rfl
  subst e0; subst e1
  refine (below_ctr (scans_c x hok fr to k2) ?_).mono fun e W' ⟨he, hb⟩ => ?_
  · exact sat_per1 (fun M => (hax M).1) (sat_per1 (fun M => (hax M).2.1) (sat_per1 (Bs := []) (M := nil) (fun M => (hax M).2.2) trivial))
  · subst he
    exact ⟨_, rfl, law_post (tb := 4) Try.laidOut (by kernel_rfl) rfl ⟨rfl, rfl, rfl⟩ rfl Try.underlying4 hW' hb⟩
theorem scans_holds : Rows.FindScansSaid :=
  OpenClaim.holds_of_wide 3 Try.f3 rfl rfl rfl rfl rfl rfl rfl ⟨rfl, rfl, rfl, rfl, rfl⟩ rfl rfl rfl rfl rfl (by kernel_rfl) Try.func3 (by kernel_rfl)
    (of_decide_eq_true (by kernel_rfl)) (by unfold Func.isWrapper; first | (rw [if_pos (by decide +kernel)]; kernel_rfl) | (rw [if_neg (by decide +kernel)]; exact ⟨rfl, rfl⟩))
    (fun os started H enc _ => scans_lifted os started H enc)
#print axioms scans_holds
end Go.Proofs.Ytgbbcpfnmkeijaa
