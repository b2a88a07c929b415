/- ProcOpen: for every input the call returns true, and each argument reads afterwards as it read before. No condition. -/
import Derived.Test.YtimaipclgmcekaaProcY
import Derived.Test.YtimaipclgmcekaaProcS
import Derived.Test.YtimaipclgmcekaaCamAB
namespace Go.Proofs.Ytimaipclgmcekaa
open Go.Cam Go.ChangeShapes Go.WideShapes Go.ChangeAt Go.RowKit
set_option maxRecDepth 100000
def opK : List Kd := [.int .i64, .int .i64, .int .i64, .int .i64, .str, .int .i64, .int .i64, .int .i64, .int .i64, .bool]
theorem i64_bd {n : Int} (h : (Lit.int .i64 n).wf = true) : -9223372036854775808 ≤ n ∧ n < 9223372036854775808 := by
  simp [Lit.wf, IntKind.min, IntKind.max, IntKind.signed, IntKind.bits] at h; omega
theorem Fit.cons {k : Kd} {ks : List Kd} {vs : List Value} (h : Fit (k :: ks) vs) : ∃ v r, vs = v :: r ∧ k.fits v ∧ Fit ks r := by
  cases vs with
  | nil => exact h.elim
  | cons v r => exact ⟨v, r, rfl, h.1, h.2⟩
theorem Fit.nil {vs : List Value} (h : Fit [] vs) : vs = [] := by
  cases vs with
  | nil => rfl
  | cons v r => exact h.elim
theorem op_row {vs : List Value} (h : Fit opK vs) : ∃ o : OpV, vs = opRow o ∧ (-9223372036854775808 ≤ o.kind ∧ o.kind < 9223372036854775808) := by
  obtain ⟨_, _, rfl, ⟨k, rfl, hk⟩, h1⟩ := Fit.cons h
  obtain ⟨_, _, rfl, ⟨p, rfl, _⟩, h2⟩ := Fit.cons h1
  obtain ⟨_, _, rfl, ⟨n, rfl, _⟩, h3⟩ := Fit.cons h2
  obtain ⟨_, _, rfl, ⟨a, rfl, _⟩, h4⟩ := Fit.cons h3
  obtain ⟨_, _, rfl, ⟨s, rfl, _⟩, h5⟩ := Fit.cons h4
  obtain ⟨_, _, rfl, ⟨b, rfl, _⟩, h6⟩ := Fit.cons h5
  obtain ⟨_, _, rfl, ⟨c, rfl, _⟩, h7⟩ := Fit.cons h6
  obtain ⟨_, _, rfl, ⟨d, rfl, _⟩, h8⟩ := Fit.cons h7
  obtain ⟨_, _, rfl, ⟨e, rfl, _⟩, h9⟩ := Fit.cons h8
  obtain ⟨_, _, rfl, ⟨f, rfl⟩, h10⟩ := Fit.cons h9
  obtain rfl := Fit.nil h10
  exact ⟨⟨k, p, n, ⟨a, s, b, c, d, e, f⟩⟩, rfl, i64_bd hk⟩
theorem op_rows {len : Nat} {row : Nat → List Value} (h : ∀ i, i < len → Fit opK (row i)) : ∃ g : Nat → OpV, ∀ i, i < len → row i = opRow (g i) ∧ (-9223372036854775808 ≤ (g i).kind ∧ (g i).kind < 9223372036854775808) := by
  have : ∀ i, ∃ o : OpV, i < len → row i = opRow o ∧ (-9223372036854775808 ≤ o.kind ∧ o.kind < 9223372036854775808) := fun i => by
    by_cases c : i < len
    · obtain ⟨o, h1, h2⟩ := op_row (h i c); exact ⟨o, fun _ => ⟨h1, h2⟩⟩
    · exact ⟨⟨0, 0, 0, Opn.zero⟩, fun h => absurd h c⟩
  exact ⟨fun i => (this i).choose, fun i => (this i).choose_spec⟩
theorem Try.underlying38 : Try.prog.underlying 38 = some (.slice 43) := by kernel_rfl
theorem Try.cells43 : Try.prog.cellsOf 43 = 10 := by kernel_rfl
theorem Try.params4 : Try.f4.params = #[38] := rfl
set_option maxRecDepth 100000 in
theorem open_lifted (os : Os) (started : os.Started) (H : Type) (enc : TypeId × Value → H) :
    ReturnsInHanded {} Try.checked os 4 .any (Rows.procOpenSpec.pre6 enc Try.prog Try.f4 Rows.procOpenRow.domain false) (Rows.procOpenSpec.post enc Try.prog Try.f4 false true false false) := by
  refine returnsInHanded_of_change (C := Try.checked) Try.own started (by kernel_rfl) Try.func4
    (ChangeSpec.witness6 (enc := enc) (C := Try.checked) false ⟨#[], #[.slice none 0 0], []⟩ 8 (by kernel_rfl) (by kernel_rfl) (by kernel_rfl) (by kernel_rfl)) ?_
  intro W base args ds gs before hval0 hW _ _
  have hval : ∀ (j : Nat) t v, Try.f4.params[j]? = some t → args[j]? = some v → Value.okWide Try.prog W .any base t v := hval0
  have hW' := hW
  obtain ⟨p, q, hA0, hV, rfl, _, _⟩ := hW
  have hA : DataW.TrodAll enc Try.prog W 0 (fun _ => true) true Try.f4.params.toList args.toList ds p := hA0
  rw [Try.params4] at hA hval
  obtain ⟨v0, vs0, d0, ds0, p0, q0, hargs, rfl, rfl, h0, r0⟩ := trodAll_cons hA
  obtain ⟨rfl, rfl, rfl⟩ := trodAll_nil r0
  obtain rfl : args = #[v0] := by cases args; simp_all
  obtain ⟨rfl, rfl⟩ := trodVars_none hV
  obtain ⟨a, len, cap, row, rfl, hfit, hsa⟩ := rows_sa (ks := opK) Try.underlying38 Try.cells43 (by omega) 8 (by kernel_rfl) rfl (okWide_slice Try.underlying38 (hval 0 38 v0 rfl rfl)) h0
  obtain ⟨g, hg⟩ := op_rows hfit
  refine (below_ctr (open_law a len cap g fun i hi => (hg i hi).2) (Sat.join (As := []) (F := _) ?_)).mono fun e W' ⟨he, hb⟩ => ?_
  · exact star_comm (per_add (M0 := nil) (X := Sat []) (SA.cg (fun i => opRow (g i)) (fun i hi => (hg i hi).1) _ _ (hsa nil)) trivial)
  · subst he
    exact ⟨_, rfl, law_post (tb := 4) Try.laidOut (by kernel_rfl) rfl ⟨rfl, rfl, rfl⟩ rfl Try.underlying4 hW' hb⟩
theorem open_holds : Rows.ProcOpenSaid :=
  OpenClaim.holds_of_wide 4 Try.f4 rfl rfl rfl rfl rfl rfl rfl ⟨rfl, rfl, rfl, rfl, rfl⟩ rfl rfl rfl rfl rfl (by kernel_rfl) Try.func4 (by kernel_rfl)
    (of_decide_eq_true (by kernel_rfl)) (by unfold Func.isWrapper; first | (rw [if_pos (by decide +kernel)]; kernel_rfl) | (rw [if_neg (by decide +kernel)]; exact ⟨rfl, rfl⟩))
    (fun os started H enc _ => open_lifted os started H enc)
#print axioms open_holds
end Go.Proofs.Ytimaipclgmcekaa
