/- DeskQuotes, as a tied card: for every input the call returns true, and each argument reads afterwards as it read before; the library's variables hold what the program's text lays. -/
import Derived.Test.YtmlddafbenfilaaDoorDskT
namespace Go.Proofs.YtmlddafbenfilaaDoor
open Go.Cam Go.ChangeShapes Go.WideShapes Go.ChangeAt Go.RowKit
set_option maxRecDepth 100000
theorem Tryd.params3 : Tryd.f3.params = #[22, 9] := rfl
theorem quotes_lifted (os : Os) (started : os.Started) (H : Type) (enc : TypeId × Value → H) :
    ReturnsInHanded {} Tryd.checked os 3 .any (fun w args => (Rows.deskQuotesSpec.pre enc Tryd.prog Tryd.f3 [] false w args ∧ laidMetH Tryd.prog laidL w) ∧ sizedMet enc Tryd.prog Tryd.f3 (OpenSpec.ofChange Rows.deskQuotesSpec) false w args) (Rows.deskQuotesSpec.post enc Tryd.prog Tryd.f3 false true false false) := by
  refine returns_laid (s := OpenSpec.ofChange Rows.deskQuotesSpec) (C := Tryd.checked) (X := fun w _ => laidMetH Tryd.prog laidL w) (fun _ _ _ hh h => h.of_heap hh) Tryd.own started (by kernel_rfl) Tryd.func3
    (ChangeSpec.witness_shaped (enc := enc) (C := Tryd.checked) (os := os) (X := fun w _ => laidMetH Tryd.prog laidL w) false (World.laidAll Tryd.prog os laidL) #[.slice none 0 0, .string ByteArray.empty] 8 (World.laidAll_os _ _ _)
      (World.shaped_of_ZipB (by kernel_rfl) (by kernel_rfl)) (by kernel_rfl) (by kernel_rfl) (by kernel_rfl)
      (by rw [MakeChecks.laidMetH_plain _ _ _ (by kernel_rfl)]; exact laidMet_laidAll _ (by kernel_rfl) (by kernel_rfl))) ?_
  intro W base args ds gs before hval0 hW hsh hL
  have hval : ∀ (j : Nat) t v, Tryd.f3.params[j]? = some t → args[j]? = some v → Value.okWide Tryd.prog W .any base t v := hval0
  have hW' := hW
  obtain ⟨p, q, hA0, hV, rfl, _, _⟩ := hW
  have hA : DataW.TrodAll enc Tryd.prog W 0 (fun _ => true) true Tryd.f3.params.toList args.toList ds p := hA0
  rw [Tryd.params3] at hA hval
  obtain ⟨v0, vs0, d0, ds0, p0, q0, hargs, rfl, rfl, ⟨n0, h0⟩, r0⟩ := trodAll_cons hA
  obtain ⟨v1, vs1, d1, ds1, p1, q1, rfl, rfl, rfl, ⟨n1, h1⟩, r1⟩ := trodAll_cons r0
  obtain ⟨rfl, rfl, rfl⟩ := trodAll_nil r1
  obtain rfl : args = #[v0, v1] := by cases args; simp_all
  obtain ⟨rfl, rfl⟩ := trodVars_none hV
  have s0 := trod_sh 8 n0 22 _ _ (.slice 1 (.int .u8)) h0 (by kernel_rfl)
  have s1 := trod_sh 8 n1 9 _ _ .str h1 (by kernel_rfl)
  obtain ⟨sa0, sl0, sc0, rfl⟩ := okWide_slice (t := 22) (e := 5) (by kernel_rfl) (hval 0 22 v0 rfl rfl)
  obtain ⟨b0, c0, z0, hc0, hr0, hn0, hz0⟩ := Sh.bytes s0
  obtain ⟨rfl, rfl, rfl⟩ : sa0 = b0 ∧ sl0 = z0.length ∧ sc0 = c0 := by simpa [Value.cells] using hc0
  obtain ⟨st, hst, hsz⟩ := s1
  obtain ⟨st', rfl⟩ := okWide_string (t := 9) (by kernel_rfl) (hval 1 9 v1 rfl rfl)
  have est : st' = st := by simpa [Value.cells] using hst
  obtain rfl := est.symm
  have hm : maxLen = 9223372036854775807 := rfl
  have hct := quotes_c sa0 sc0 z0 hr0 (st.data.toList.map UInt8.toNat) (str_bys st) (by rw [str_len]; omega)
  rw [← str_list] at hct
  refine (below_ctr hct ?_).mono fun e W' ⟨he, hb⟩ => ?_
  · exact sat_per1 (fun M => gl_of hL hsh) (sat_per1 (Bs := []) (M := nil) (fun M => hz0 M) trivial)
  · subst he
    exact ⟨_, rfl, law_post (tb := 4) Tryd.laidOut (by kernel_rfl) rfl ⟨rfl, rfl, rfl⟩ rfl Tryd.underlying4 hW' hb⟩
theorem quotes_row : Rows.DeskQuotesSaid :=
  OpenClaim.holds_of_wide 3 Tryd.f3 rfl rfl rfl rfl rfl rfl rfl ⟨rfl, rfl, rfl, rfl, rfl⟩ rfl rfl rfl rfl rfl (by kernel_rfl) Tryd.func3 (by kernel_rfl)
    (of_decide_eq_true (by kernel_rfl)) (by unfold Func.isWrapper; first | (rw [if_pos (by decide +kernel)]; kernel_rfl) | (rw [if_neg (by decide +kernel)]; exact ⟨rfl, rfl⟩))
    (fun os started H enc _ => quotes_lifted os started H enc)
theorem quotes_holds : Rows.DeskQuotesCardSaid :=
  Claim7.holds_tied_plain_at .later [] [.data, .data, .data, .data, .sentinel, .sentinel, .pinned] true (true, "165474549dc2bf0cf1f41a1a452ff92ef119fa76604c5cd4a25aed1c29f0ade3") true quotes_row (fun _ h => by cases h) (by kernel_rfl) (fun _ h => by cases h) deskQuotes_row_tie rfl ⟨rfl, rfl⟩ (by kernel_rfl) rfl
    (fun f fn hf hfn => by
      obtain rfl : f = 3 := Option.some.inj ((show Tryd.prog.funcNamed "cambium/cambiumlaw26.DeskQuotes" = some 3 by kernel_rfl).symm.trans hf) |>.symm
      obtain rfl : fn = Tryd.f3 := (Option.some.inj (Tryd.func3.symm.trans hfn)).symm
      exact ⟨by kernel_rfl, fun j t ht => by
        rw [Tryd.params3] at ht
        have hm : t ∈ [22, 9] := by simpa using Array.mem_of_getElem? ht
        have hall : ([22, 9].all fun u => !Tryd.prog.wantsStandIn u) = true := by kernel_rfl
        exact (show Tryd.prog.wantsStandIn t = false by simpa using List.all_eq_true.1 hall t hm)⟩)
    (by kernel_rfl)
#print axioms quotes_holds
end Go.Proofs.YtmlddafbenfilaaDoor
