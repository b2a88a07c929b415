/- ProcFamily: for every input the call returns true, and each argument reads afterwards as it read before. No condition. -/
import Derived.Test.YtimaipclgmcekaaProcV
import Derived.Test.YtimaipclgmcekaaProcS
namespace Go.Proofs.Ytimaipclgmcekaa
open Go.Cam Go.ChangeShapes Go.WideShapes Go.ChangeAt Go.RowKit
theorem Try.cells3 : Try.prog.cellsOf 3 = 1 := by kernel_rfl
theorem cell_block {W : World} {b o : Nat} {v : Value} (h : W.cell? ⟨b, o, none⟩ = some v) : ∃ c ty fr, W.heap[b]? = some (.cells c ty fr) ∧ c[o]? = some v := by
  unfold World.cell? at h
  split at h
  · rename_i c ty fr hb
    exact ⟨c, ty, fr, hb, by simpa using h⟩
  · cases h
theorem ints_of {H : Type} {enc : TypeId × Value → H} {W : World} {v : Value} {d : DataW H} {ps : List MemPlace} {base : Nat} (hok : Value.okWide Try.prog W .any base 22 v) (ht : DataW.Trod enc Try.prog W 0 (fun _ => true) true 22 v d ps) : ∃ xs, Ints (held W) v xs := by
  obtain ⟨fuel, hf⟩ := ht
  obtain ⟨a0, len, cap, rfl⟩ := okWide_slice Try.underlying22 hok
  rcases open_ints Try.underlying22 Try.underlying3 Try.cells3 hf with ⟨hcs, hx⟩ | ⟨a, len', cap', zs, hcs, _, hl, hm, hz, hx, hcell, hwz⟩
  · simp [Value.cells] at hcs
    obtain ⟨rfl, rfl, rfl⟩ := hcs
    exact ⟨[], none, 0, rfl, fun i h => by simp at h, fun x hx => by simp at hx⟩
  · simp [Value.cells] at hcs
    obtain ⟨rfl, rfl, rfl⟩ := hcs
    simp only [if_true] at hz
    have hlen : (zs.take len).length = len := by rw [List.length_take]; omega
    refine ⟨zs.take len, some a, cap, by rw [hlen], fun i hi => ?_, fun x hx => int_bd (hwz x (List.mem_of_mem_take hx))⟩
    have hi' : i < zs.length := by rw [hlen] at hi; omega
    obtain ⟨b, off, spot⟩ := a
    have hspot : spot = none := by simpa [Addr.add] using World.cell?_spot (hcell 0 (by omega))
    subst hspot
    have hc := hcell i hi'
    rw [addr_add] at hc
    obtain ⟨c, ty, fr, h1, h2⟩ := cell_block hc
    refine ⟨b, off, c, ty, fr, rfl, h1, ?_⟩
    rw [h2]
    congr 2
    rw [List.getElem_take]
    simp [hi']
set_option maxRecDepth 100000 in
theorem family_lifted (os : Os) (started : os.Started) (H : Type) (enc : TypeId × Value → H) :
    ReturnsInHanded {} Try.checked os 3 .any (Rows.procFamilySpec.pre6 enc Try.prog Try.f3 Rows.procFamilyRow.domain false) (Rows.procFamilySpec.post enc Try.prog Try.f3 false true false false) := by
  refine returnsInHanded_of_change (C := Try.checked) Try.own started (by kernel_rfl) Try.func3
    (ChangeSpec.witness6 (enc := enc) (C := Try.checked) false ⟨#[], #[.slice none 0 0, .slice none 0 0], []⟩ 8 (by kernel_rfl) (by kernel_rfl) (by kernel_rfl) (by kernel_rfl)) ?_
  intro W base args ds gs before hval0 hW _ _
  have hval : ∀ (j : Nat) t v, Try.f3.params[j]? = some t → args[j]? = some v → Value.okWide Try.prog W .any base t v := hval0
  have hW' := hW
  obtain ⟨p, q, hA0, hV, rfl, _, _⟩ := hW
  have hA : DataW.TrodAll enc Try.prog W 0 (fun _ => true) true Try.f3.params.toList args.toList ds p := hA0
  rw [Try.params3] at hA hval
  obtain ⟨v0, vs0, d0, ds0, p0, q0, hargs, rfl, rfl, h0, r0⟩ := trodAll_cons hA
  obtain ⟨v1, vs1, d1, ds1, p1, q1, rfl, rfl, rfl, h1, r1⟩ := trodAll_cons r0
  obtain ⟨rfl, rfl, rfl⟩ := trodAll_nil r1
  obtain rfl : args = #[v0, v1] := by cases args; simp_all
  obtain ⟨rfl, rfl⟩ := trodVars_none hV
  obtain ⟨xs, hx⟩ := ints_of (hval 0 22 v0 rfl rfl) h0
  obtain ⟨ys, hy⟩ := ints_of (hval 1 22 v1 rfl rfl) h1
  refine (below_of (X := fun M' => Ch [] nil M') (family_ok v0 v1 xs ys hx hy)).mono fun e W' ⟨he, hb⟩ => ?_
  subst he
  exact ⟨_, rfl, law_post (tb := 4) Try.laidOut (by kernel_rfl) rfl ⟨rfl, rfl, rfl⟩ rfl Try.underlying4 hW' hb⟩
theorem family_holds : Rows.ProcFamilySaid :=
  OpenClaim.holds_of_wide 3 Try.f3 rfl rfl rfl rfl rfl rfl rfl ⟨rfl, rfl, rfl, rfl, rfl⟩ rfl rfl rfl rfl rfl (by kernel_rfl) Try.func3 (by kernel_rfl)
    (of_decide_eq_true (by kernel_rfl)) (by unfold Func.isWrapper; first | (rw [if_pos (by decide +kernel)]; kernel_rfl) | (rw [if_neg (by decide +kernel)]; exact ⟨rfl, rfl⟩))
    (fun os started H enc _ => family_lifted os started H enc)
end Go.Proofs.Ytimaipclgmcekaa
