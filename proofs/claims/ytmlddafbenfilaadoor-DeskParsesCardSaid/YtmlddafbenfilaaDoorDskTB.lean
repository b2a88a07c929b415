/- DeskParses, as a tied card: for every input the call returns true, and each argument reads afterwards as it read before; the library's variables hold what the program's text lays. -/
import Derived.Test.YtmlddafbenfilaaDoorDskV
import Derived.Test.YtmlddafbenfilaaDoorDskZ
namespace Go.Proofs.YtmlddafbenfilaaDoor
open Go.Cam Go.ChangeShapes Go.WideShapes Go.ChangeAt Go.RowKit
set_option maxRecDepth 100000
theorem Tryd.params4 : Tryd.f4.params = #[9] := rfl
theorem parses_lifted (os : Os) (started : os.Started) (H : Type) (enc : TypeId × Value → H) :
    ReturnsInHanded {} Tryd.checked os 4 .any (fun w args => (Rows.deskParsesSpec.pre enc Tryd.prog Tryd.f4 [] false w args ∧ laidMetH Tryd.prog laidL w) ∧ sizedMet enc Tryd.prog Tryd.f4 (OpenSpec.ofChange Rows.deskParsesSpec) false w args) (Rows.deskParsesSpec.post enc Tryd.prog Tryd.f4 false true false false) := by
  refine returns_laid (s := OpenSpec.ofChange Rows.deskParsesSpec) (C := Tryd.checked) (X := fun w _ => laidMetH Tryd.prog laidL w) (fun _ _ _ hh h => h.of_heap hh) Tryd.own started (by kernel_rfl) Tryd.func4
    (ChangeSpec.witness_shaped (enc := enc) (C := Tryd.checked) (os := os) (X := fun w _ => laidMetH Tryd.prog laidL w) false (World.laidAll Tryd.prog os laidL) #[.string ByteArray.empty] 8 (World.laidAll_os _ _ _)
      (World.shaped_of_ZipB (by kernel_rfl) (by kernel_rfl)) (by kernel_rfl) (by kernel_rfl) (by kernel_rfl)
      (by rw [MakeChecks.laidMetH_plain _ _ _ (by kernel_rfl)]; exact laidMet_laidAll _ (by kernel_rfl) (by kernel_rfl))) ?_
  intro W base args ds gs before hval0 hW hsh hL
  have hval : ∀ (j : Nat) t v, Tryd.f4.params[j]? = some t → args[j]? = some v → Value.okWide Tryd.prog W .any base t v := hval0
  have hW' := hW
  obtain ⟨p, q, hA0, hV, rfl, _, _⟩ := hW
  have hA : DataW.TrodAll enc Tryd.prog W 0 (fun _ => true) true Tryd.f4.params.toList args.toList ds p := hA0
  rw [Tryd.params4] at hA hval
  obtain ⟨v1, vs1, d1, ds1, p1, q1, hargs, rfl, rfl, ⟨n1, h1⟩, r1⟩ := trodAll_cons hA
  obtain ⟨rfl, rfl, rfl⟩ := trodAll_nil r1
  obtain rfl : args = #[v1] := by cases args; simp_all
  obtain ⟨rfl, rfl⟩ := trodVars_none hV
  have s1 := trod_sh 8 n1 9 _ _ .str h1 (by kernel_rfl)
  obtain ⟨st, hst, hsz⟩ := s1
  obtain ⟨st', rfl⟩ := okWide_string (t := 9) (by kernel_rfl) (hval 0 9 v1 rfl rfl)
  have est : st' = st := by simpa [Value.cells] using hst
  obtain rfl := est.symm
  have hm : maxLen = 9223372036854775807 := rfl
  have hct := parses_c (st.data.toList.map UInt8.toNat) (str_bys st) (by rw [str_len]; omega)
  rw [← str_list] at hct
  refine (below_ctr hct ?_).mono fun e W' ⟨he, hb⟩ => ?_
  · exact sat_per1 (Bs := []) (M := nil) (fun M => gl_of hL hsh) trivial
  · subst he
    exact ⟨_, rfl, law_post (tb := 4) Tryd.laidOut (by kernel_rfl) rfl ⟨rfl, rfl, rfl⟩ rfl Tryd.underlying4 hW' hb⟩
theorem parses_row : Rows.DeskParsesSaid :=
  OpenClaim.holds_of_wide 4 Tryd.f4 rfl rfl rfl rfl rfl rfl rfl ⟨rfl, rfl, rfl, rfl, rfl⟩ rfl rfl rfl rfl rfl (by kernel_rfl) Tryd.func4 (by kernel_rfl)
    (of_decide_eq_true (by kernel_rfl)) (by unfold Func.isWrapper; first | (rw [if_pos (by decide +kernel)]; kernel_rfl) | (rw [if_neg (by decide +kernel)]; exact ⟨rfl, rfl⟩))
    (fun os started H enc _ => parses_lifted os started H enc)
theorem parses_holds : Rows.DeskParsesCardSaid :=
  Claim7.holds_tied_plain_at .later [] [.data, .data, .data, .data, .sentinel, .sentinel, .pinned] true (true, "165474549dc2bf0cf1f41a1a452ff92ef119fa76604c5cd4a25aed1c29f0ade3") true parses_row (fun _ h => by cases h) (by kernel_rfl) (fun _ h => by cases h) deskParses_row_tie rfl ⟨rfl, rfl⟩ (by kernel_rfl) rfl
    (fun f fn hf hfn => by
      obtain rfl : f = 4 := Option.some.inj ((show Tryd.prog.funcNamed "cambium/cambiumlaw26.DeskParses" = some 4 by kernel_rfl).symm.trans hf) |>.symm
      obtain rfl : fn = Tryd.f4 := (Option.some.inj (Tryd.func4.symm.trans hfn)).symm
      exact ⟨by kernel_rfl, fun j t ht => by
        rw [Tryd.params4] at ht
        have hm : t ∈ [9] := by simpa using Array.mem_of_getElem? ht
        have hall : ([9].all fun u => !Tryd.prog.wantsStandIn u) = true := by kernel_rfl
        exact (show Tryd.prog.wantsStandIn t = false by simpa using List.all_eq_true.1 hall t hm)⟩)
    (by kernel_rfl)
#print axioms parses_holds
end Go.Proofs.YtmlddafbenfilaaDoor
