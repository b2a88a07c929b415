/- DeskBack, where what it reads is of bulk at most 1048576, as a tied card: for every such input the call returns true, and each argument reads afterwards as it read before; the library's variables hold what the program's text lays. -/
import Derived.Test.YtmlddafbenfilaaDoorDskT2
namespace Go.Proofs.YtmlddafbenfilaaDoor
open Go.Cam Go.ChangeShapes Go.WideShapes Go.ChangeAt Go.RowKit
set_option maxRecDepth 100000
theorem Tryd.params5 : Tryd.f5.params = #[29, 9] := rfl
theorem back_contract {H : Type} {enc : TypeId × Value → H} (W : World) (base : Nat) (args : Array Value) (ds gs : List (DataW H)) (before : List MemPlace)
    (hval : ∀ (j : Nat) t v, Tryd.f5.params[j]? = some t → args[j]? = some v → Value.okWide Tryd.prog W .any base t v)
    (hW : DataW.Whole enc Tryd.prog Tryd.f5.params.toList Rows.deskBackSpec.vars false W args.toList ds gs before) (hk : Rows.uptoSmall H (ds ++ gs) = true) (hL : laidMetH Tryd.prog laidL W) (hsh : W.ShapedOpen Tryd.prog) :
    Calls Tryd.prog 5 args W fun e W' => ∃ v, e = .returned v ∧ Rows.deskBackSpec.post enc Tryd.prog Tryd.f5 false true false false W args v W' := by
  have hW' := hW
  obtain ⟨p, q, hA0, hV, rfl, _, _⟩ := hW
  have hA : DataW.TrodAll enc Tryd.prog W 0 (fun _ => true) true Tryd.f5.params.toList args.toList ds p := hA0
  rw [Tryd.params5] at hA hval
  obtain ⟨v0, vs0, d0, ds0, p0, q0, hargs, rfl, rfl, ⟨n0, h0⟩, r0⟩ := trodAll_cons hA
  obtain ⟨v1, vs1, d1, ds1, p1, q1, rfl, rfl, rfl, ⟨n1, h1⟩, r1⟩ := trodAll_cons r0
  obtain ⟨rfl, rfl, rfl⟩ := trodAll_nil r1
  obtain rfl : args = #[v0, v1] := by cases args; simp_all
  obtain ⟨rfl, rfl⟩ := trodVars_none hV
  have hb : Rows.uptoBulkAll ([d0, d1] ++ []) ≤ 1048576 := of_decide_eq_true hk
  simp only [List.append_nil, Rows.uptoBulkAll] at hb
  have s0 := trod_shB bulk_wt 8 1048576 n0 29 _ _ (.slice 8 evSh) h0 (by show Rows.uptoBulk d0 ≤ _; omega) (by kernel_rfl)
  have s1 := trod_sh 8 n1 9 _ _ .str h1 (by kernel_rfl)
  obtain ⟨sa0, sl0, sc0, rfl⟩ := okWide_slice (t := 29) (e := 42) (by kernel_rfl) (hval 0 29 v0 rfl rfl)
  obtain ⟨a, c, l, w, hcs, hsm, hX, hF⟩ := evs_of (Nat.le_refl _) s0
  obtain ⟨rfl, rfl, rfl⟩ : sa0 = a ∧ sl0 = l.length ∧ sc0 = c := by simpa [Value.cells] using hcs
  obtain ⟨st, hst, hsz⟩ := s1
  obtain ⟨st', rfl⟩ := okWide_string (t := 9) (by kernel_rfl) (hval 1 9 v1 rfl rfl)
  have est : st' = st := by simpa [Value.cells] using hst
  obtain rfl := est.symm
  have hm : maxLen = 9223372036854775807 := rfl
  have hct := back_c (X := SA none 8 (.slice sa0 l.length sc0) l.length (evRow w l)) l hsm (st.data.toList.map UInt8.toNat) (str_bys st) (by rw [str_len]; omega) (a := sa0) (c := sc0) (w := w)
  rw [← str_list] at hct
  refine (below_ctr hct ?_).mono fun e W' ⟨he, hb⟩ => ?_
  · exact sat_per1 (fun M => gl_of hL hsh) (sat_per1 (fun M => hX M) (sat_per1 (Bs := []) (M := nil) (fun M => hF M) trivial))
  · subst he
    exact ⟨_, rfl, law_post (tb := 4) Tryd.laidOut (by kernel_rfl) rfl ⟨rfl, rfl, rfl⟩ rfl Tryd.underlying4 hW' hb⟩
theorem back_reads (os : Os) {H : Type} (enc : TypeId × Value → H) : ∃ places, DataW.whole enc Tryd.prog ((World.laidAll Tryd.prog os laidL).forCall (fun _ _ => 0) ⟨#[], #[.slice none 0 0, .string ByteArray.empty], []⟩).memory Tryd.f5.params.toList Rows.deskBackSpec.vars false #[Value.slice none 0 0, Value.string ByteArray.empty].toList 8 = some ([.nil, .lit (.string [])], [], places) :=
  ⟨[], by kernel_rfl⟩
theorem back_lifted (os : Os) (started : os.Started) (H : Type) (enc : TypeId × Value → H) (F : Stop.Interp) :
    ReturnsInHanded {} Tryd.checked os 5 .any ((Rows.OpenSpec.upto Rows.deskBackSpec).preRow enc Tryd.prog Tryd.f5 Rows.deskBackUptoRow.domain false Rows.deskBackUptoRow.laid) (((Rows.OpenSpec.upto Rows.deskBackSpec).at F).post enc Tryd.prog Tryd.f5 false true false false) := by
  obtain ⟨places, hx⟩ := back_reads os enc
  refine returnsInHanded_of_row (C := Tryd.checked) (s := Rows.OpenSpec.upto Rows.deskBackSpec) (laid := laidL) (conds := []) Tryd.own started (by kernel_rfl) Tryd.func5
    (upto_witness (args := #[.slice none 0 0, .string ByteArray.empty]) (by kernel_rfl)
      (OpenSpec.preRow_of_cond 8 hx (by kernel_rfl) (fun k hk => by cases hk; kernel_rfl) (by kernel_rfl) (by rw [MakeChecks.laidMetH_plain _ _ _ (by kernel_rfl)]; exact laidMet_laidAll _ (by kernel_rfl) (by kernel_rfl)))) ?_
  intro W base args ds gs before hval hW _ hcond _ hL hsh _
  exact back_contract W base args ds gs before hval hW (hcond _ rfl) hL hsh
theorem back_row : Rows.DeskBackUptoSaid :=
  OpenClaim.holds_of_cond 5 Tryd.f5 rfl rfl rfl rfl rfl rfl rfl ⟨rfl, rfl, rfl, rfl, rfl⟩ rfl rfl rfl rfl rfl (by kernel_rfl) Tryd.func5 (by kernel_rfl)
    (of_decide_eq_true (by kernel_rfl)) (by unfold Func.isWrapper; first | (rw [if_pos (by decide +kernel)]; kernel_rfl) | (rw [if_neg (by decide +kernel)]; exact ⟨rfl, rfl⟩))
    (fun os started H enc _ F => by rw [OpenClaim.pre_eq_preRow]; exact back_lifted os started H enc F)
theorem back_holds : Rows.DeskBackUptoCardSaid :=
  Claim7.holds_tied_plain_at .later [] _ _ _ _ back_row (fun _ h => by cases h) (by kernel_rfl) (fun _ h => by cases h) deskBackUpto_row_tie rfl ⟨rfl, rfl⟩ (by kernel_rfl) rfl
    (fun f fn hf hfn => by
      obtain rfl : f = 5 := Option.some.inj ((show Tryd.prog.funcNamed "cambium/cambiumlaw26.DeskBack" = some 5 by kernel_rfl).symm.trans hf) |>.symm
      obtain rfl : fn = Tryd.f5 := (Option.some.inj (Tryd.func5.symm.trans hfn)).symm
      exact ⟨by kernel_rfl, fun j t ht => by
        rw [Tryd.params5] at ht
        have hm : t ∈ [29, 9] := by simpa using Array.mem_of_getElem? ht
        have hall : ([29, 9].all fun u => !Tryd.prog.wantsStandIn u) = true := by kernel_rfl
        exact (show Tryd.prog.wantsStandIn t = false by simpa using List.all_eq_true.1 hall t hm)⟩)
    (by kernel_rfl)
#print axioms back_holds
end Go.Proofs.YtmlddafbenfilaaDoor
