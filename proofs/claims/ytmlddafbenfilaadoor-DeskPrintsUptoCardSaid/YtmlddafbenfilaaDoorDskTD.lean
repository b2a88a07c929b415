/- DeskPrints, where what it reads is of bulk at most 1048576, as a tied card: for every such input the call returns true, and each argument reads afterwards as it read before; the library's variables hold what the program's text lays. -/
import Derived.Test.YtmlddafbenfilaaDoorDskT2
import Derived.Test.YtmlddafbenfilaaDoorDskBF
namespace Go.Proofs.YtmlddafbenfilaaDoor
open Go.Cam Go.ChangeShapes Go.WideShapes Go.ChangeAt Go.RowKit
set_option maxRecDepth 100000
abbrev anSh : Sh := .cat (.int .i64) (.cat .bool (.cat (.int .i64) (.cat (.int .i64) (.cat (.slice 1 (.int .u8)) (.cat (.slice 1 .str) (.cat (.cat (.int .i64) (.cat (.int .i64) (.cat (.int .i64) (.cat (.int .i64) .emp)))) .emp))))))
instance : Inhabited An := ⟨an0⟩
theorem txt_of {Hp : Heap} {B : Nat} {cs : List Value} (h : (Sh.slice 1 .str).okB Hp B cs) : ∃ a c ws, cs = [.slice a (List.length ws) c] ∧ (∀ w ∈ ws, Bys w) ∧ (ws.map List.length).sum ≤ B ∧ ws.length ≤ B ∧ ∀ M, (SA none 1 (.slice a ws.length c) ws.length (txR ws)).p Hp M := by
  obtain ⟨a, len, cap, row, rfl, h1, h2, h3, b, hb, h4⟩ := h
  obtain ⟨l, rfl, hl⟩ := list_choose (α := List Nat) (φ := fun i y => row i = [.string (strB y)] ∧ Bys y ∧ y.length ≤ b i) len fun i hi => by
    obtain ⟨s, h5, h6⟩ := h4 i hi
    exact ⟨s.data.toList.map UInt8.toNat, by rw [h5, ← str_list s], str_bys s, by rw [str_len]; exact h6⟩
  have hg : ∀ w ∈ l, Bys w := fun w hw => by
    obtain ⟨i, hi, rfl⟩ := List.mem_iff_getElem.1 hw
    have := (hl i hi).2.1
    rwa [List.getD_eq_getElem?_getD, List.getElem?_eq_getElem hi, Option.getD_some] at this
  exact ⟨a, cap, l, rfl, hg, Nat.le_trans (sum_below default List.length l b fun i hi => (hl i hi).2.2) hb, by omega, fun M => SA.cg _ (fun i hi => (hl i hi).1) Hp M (h3 M)⟩
theorem an_of {Hp : Heap} {B : Nat} {cs : List Value} (hB : B ≤ 1048576) (h : anSh.okB Hp B cs) : ∃ (y : An × AnW), cs = anL y.1 y.2 ∧ y.1.ok ∧ (∀ M, (SA none 1 (.slice y.2.1.1 y.1.data.length y.2.1.2) y.1.data.length (byR y.1.data)).p Hp M) ∧ ∀ M, (SA none 1 (.slice y.2.2.1 y.1.names.length y.2.2.2) y.1.names.length (txR y.1.names)).p Hp M := by
  obtain ⟨_, _, rfl, ⟨n0, rfl, h0⟩, h⟩ := h
  obtain ⟨_, _, rfl, ⟨b1, rfl⟩, h⟩ := h
  obtain ⟨_, _, rfl, ⟨n2, rfl, h2⟩, h⟩ := h
  obtain ⟨_, _, rfl, ⟨n3, rfl, h3⟩, h⟩ := h
  obtain ⟨_, _, rfl, h4, h⟩ := h
  obtain ⟨_, _, rfl, h5, h⟩ := h
  obtain ⟨_, _, rfl, ⟨_, _, rfl, ⟨n6, rfl, h6⟩, ⟨_, _, rfl, ⟨n7, rfl, h7⟩, ⟨_, _, rfl, ⟨n8, rfl, h8⟩, ⟨_, _, rfl, ⟨n9, rfl, h9⟩, hz⟩⟩⟩⟩, h⟩ := h
  have he : _ = [] := h
  subst he
  have he2 : _ = [] := hz
  subst he2
  obtain ⟨a, c, dt, rfl, hd1, hd2, hd3⟩ := Sh.bytesB h4
  obtain ⟨b, d, ws, rfl, hw1, hw2, hw3, hw4⟩ := txt_of h5
  exact ⟨(⟨n0, b1, n2, n3, dt, ws, n6, n7, n8, n9⟩, ((a, c), (b, d))), rfl, ⟨wf_i64 h0, wf_i64 h2, wf_i64 h3, wf_i64 h6, wf_i64 h7, wf_i64 h8, wf_i64 h9, hd1, hw1, Nat.le_trans hd2 hB, Nat.le_trans hw3 hB, Nat.le_trans hw2 hB⟩, hd3, hw4⟩
theorem ans_of {Hp : Heap} {cs : List Value} (h : (Sh.slice 10 anSh).okB Hp 1048576 cs) : ∃ a c l w, cs = [.slice a (List.length l) c] ∧ (∀ x ∈ l, An.ok x) ∧ l.length ≤ 1048576 ∧ (∀ M, (SA none 10 (.slice a l.length c) l.length (anRow w l)).p Hp M) ∧ (∀ M, (Fam l.length (AnD w l)).p Hp M) ∧ ∀ M, (Fam l.length (AnN w l)).p Hp M := by
  obtain ⟨a, len, cap, row, rfl, h1, h2, h3, b, hb, h4⟩ := h
  obtain ⟨l, rfl, hl⟩ := list_choose (α := An × AnW) (φ := fun i y => row i = anL y.1 y.2 ∧ y.1.ok ∧ (∀ M, (SA none 1 (.slice y.2.1.1 y.1.data.length y.2.1.2) y.1.data.length (byR y.1.data)).p Hp M) ∧ ∀ M, (SA none 1 (.slice y.2.2.1 y.1.names.length y.2.2.2) y.1.names.length (txR y.1.names)).p Hp M) len fun i hi => an_of (Nat.le_trans (range_ge b hi) hb) (h4 i hi)
  have hg : ∀ i, i < l.length → (l.map (·.1)).getD i an0 = (l.getD i default).1 := fun i hi => by
    simp [List.getD_eq_getElem?_getD, hi]
  refine ⟨a, cap, l.map (·.1), fun i => (l.getD i default).2, by rw [List.length_map], fun e he => ?_, by rw [List.length_map]; omega, fun M => ?_, fun M i hi => ?_, fun M i hi => ?_⟩
  · obtain ⟨y, hy, rfl⟩ := List.mem_map.1 he
    obtain ⟨i, hi, rfl⟩ := List.mem_iff_getElem.1 hy
    have := (hl i hi).2.1
    rwa [List.getD_eq_getElem?_getD, List.getElem?_eq_getElem hi, Option.getD_some] at this
  · rw [List.length_map]
    refine SA.cg _ (fun i hi => ?_) Hp M (h3 M)
    show _ = anL ((l.map (·.1)).getD i an0) _
    rw [hg i hi]; exact (hl i hi).1
  · rw [List.length_map] at hi
    unfold AnD
    rw [hg i hi]
    exact (hl i hi).2.2.1 M
  · rw [List.length_map] at hi
    unfold AnN
    rw [hg i hi]
    exact (hl i hi).2.2.2 M
theorem Tryd.params6 : Tryd.f6.params = #[29, 38] := rfl
theorem prints_contract {H : Type} {enc : TypeId × Value → H} (W : World) (base : Nat) (args : Array Value) (ds gs : List (DataW H)) (before : List MemPlace)
    (hval : ∀ (j : Nat) t v, Tryd.f6.params[j]? = some t → args[j]? = some v → Value.okWide Tryd.prog W .any base t v)
    (hW : DataW.Whole enc Tryd.prog Tryd.f6.params.toList Rows.deskPrintsSpec.vars false W args.toList ds gs before) (hk : Rows.uptoSmall H (ds ++ gs) = true) (hL : laidMetH Tryd.prog laidL W) (hsh : W.ShapedOpen Tryd.prog) :
    Calls Tryd.prog 6 args W fun e W' => ∃ v, e = .returned v ∧ Rows.deskPrintsSpec.post enc Tryd.prog Tryd.f6 false true false false W args v W' := by
  have hW' := hW
  obtain ⟨p, q, hA0, hV, rfl, _, _⟩ := hW
  have hA : DataW.TrodAll enc Tryd.prog W 0 (fun _ => true) true Tryd.f6.params.toList args.toList ds p := hA0
  rw [Tryd.params6] at hA hval
  obtain ⟨v0, vs0, d0, ds0, p0, q0, hargs, rfl, rfl, ⟨n0, h0⟩, r0⟩ := trodAll_cons hA
  obtain ⟨v1, vs1, d1, ds1, p1, q1, rfl, rfl, rfl, ⟨n1, h1⟩, r1⟩ := trodAll_cons r0
  obtain ⟨rfl, rfl, rfl⟩ := trodAll_nil r1
  obtain rfl : args = #[v0, v1] := by cases args; simp_all
  obtain ⟨rfl, rfl⟩ := trodVars_none hV
  have hb : Rows.uptoBulkAll ([d0, d1] ++ []) ≤ 1048576 := of_decide_eq_true hk
  simp only [List.append_nil, Rows.uptoBulkAll] at hb
  have s0 := trod_shB bulk_wt 8 1048576 n0 29 _ _ (.slice 8 evSh) h0 (by show Rows.uptoBulk d0 ≤ _; omega) (by kernel_rfl)
  have s1 := trod_shB bulk_wt 8 1048576 n1 38 _ _ (.slice 10 anSh) h1 (by show Rows.uptoBulk d1 ≤ _; omega) (by kernel_rfl)
  obtain ⟨sa0, sl0, sc0, rfl⟩ := okWide_slice (t := 29) (e := 42) (by kernel_rfl) (hval 0 29 v0 rfl rfl)
  obtain ⟨a, c, l, w, hcs, hsm, hX, hF⟩ := evs_of (Nat.le_refl _) s0
  obtain ⟨rfl, rfl, rfl⟩ : sa0 = a ∧ sl0 = l.length ∧ sc0 = c := by simpa [Value.cells] using hcs
  obtain ⟨sb0, sm0, sd0, rfl⟩ := okWide_slice (t := 38) (e := 68) (by kernel_rfl) (hval 1 38 v1 rfl rfl)
  obtain ⟨b, d, al, u, hcs2, hok2, hln2, hY, hD, hN⟩ := ans_of s1
  obtain ⟨rfl, rfl, rfl⟩ : sb0 = b ∧ sm0 = al.length ∧ sd0 = d := by simpa [Value.cells] using hcs2
  have hct := prints_c (X := SA none 8 (.slice sa0 l.length sc0) l.length (evRow w l)) l hsm al hok2 hln2 (a := sa0) (c := sc0) (w := w) (b := sb0) (d := sd0) (u := u)
  refine (below_ctr hct ?_).mono fun e W' ⟨he, hb⟩ => ?_
  · exact sat_per1 (fun M => gl_of hL hsh) (sat_per1 (fun M => hX M) (sat_per1 (fun M => hF M) (sat_per1 (fun M => hY M) (sat_per1 (fun M => hD M) (sat_per1 (Bs := []) (M := nil) (fun M => hN M) trivial)))))
  · subst he
    exact ⟨_, rfl, law_post (tb := 4) Tryd.laidOut (by kernel_rfl) rfl ⟨rfl, rfl, rfl⟩ rfl Tryd.underlying4 hW' hb⟩
theorem prints_reads (os : Os) {H : Type} (enc : TypeId × Value → H) : ∃ places, DataW.whole enc Tryd.prog ((World.laidAll Tryd.prog os laidL).forCall (fun _ _ => 0) ⟨#[], #[.slice none 0 0, .slice none 0 0], []⟩).memory Tryd.f6.params.toList Rows.deskPrintsSpec.vars false #[Value.slice none 0 0, Value.slice none 0 0].toList 8 = some ([.nil, .nil], [], places) :=
  ⟨[], by kernel_rfl⟩
theorem prints_lifted (os : Os) (started : os.Started) (H : Type) (enc : TypeId × Value → H) (F : Stop.Interp) :
    ReturnsInHanded {} Tryd.checked os 6 .any ((Rows.OpenSpec.upto Rows.deskPrintsSpec).preRow enc Tryd.prog Tryd.f6 Rows.deskPrintsUptoRow.domain false Rows.deskPrintsUptoRow.laid) (((Rows.OpenSpec.upto Rows.deskPrintsSpec).at F).post enc Tryd.prog Tryd.f6 false true false false) := by
  obtain ⟨places, hx⟩ := prints_reads os enc
  refine returnsInHanded_of_row (C := Tryd.checked) (s := Rows.OpenSpec.upto Rows.deskPrintsSpec) (laid := laidL) (conds := []) Tryd.own started (by kernel_rfl) Tryd.func6
    (upto_witness (args := #[.slice none 0 0, .slice none 0 0]) (by kernel_rfl)
      (OpenSpec.preRow_of_cond 8 hx (by kernel_rfl) (fun k hk => by cases hk; kernel_rfl) (by kernel_rfl) (by rw [MakeChecks.laidMetH_plain _ _ _ (by kernel_rfl)]; exact laidMet_laidAll _ (by kernel_rfl) (by kernel_rfl)))) ?_
  intro W base args ds gs before hval hW _ hcond _ hL hsh _
  exact prints_contract W base args ds gs before hval hW (hcond _ rfl) hL hsh
theorem prints_row : Rows.DeskPrintsUptoSaid :=
  OpenClaim.holds_of_cond 6 Tryd.f6 rfl rfl rfl rfl rfl rfl rfl ⟨rfl, rfl, rfl, rfl, rfl⟩ rfl rfl rfl rfl rfl (by kernel_rfl) Tryd.func6 (by kernel_rfl)
    (of_decide_eq_true (by kernel_rfl)) (by unfold Func.isWrapper; first | (rw [if_pos (by decide +kernel)]; kernel_rfl) | (rw [if_neg (by decide +kernel)]; exact ⟨rfl, rfl⟩))
    (fun os started H enc _ F => by rw [OpenClaim.pre_eq_preRow]; exact prints_lifted os started H enc F)
theorem prints_holds : Rows.DeskPrintsUptoCardSaid :=
  Claim7.holds_tied_plain_at .later [] _ _ _ _ prints_row (fun _ h => by cases h) (by kernel_rfl) (fun _ h => by cases h) deskPrintsUpto_row_tie rfl ⟨rfl, rfl⟩ (by kernel_rfl) rfl
    (fun f fn hf hfn => by
      obtain rfl : f = 6 := Option.some.inj ((show Tryd.prog.funcNamed "cambium/cambiumlaw26.DeskPrints" = some 6 by kernel_rfl).symm.trans hf) |>.symm
      obtain rfl : fn = Tryd.f6 := (Option.some.inj (Tryd.func6.symm.trans hfn)).symm
      exact ⟨by kernel_rfl, fun j t ht => by
        rw [Tryd.params6] at ht
        have hm : t ∈ [29, 38] := by simpa using Array.mem_of_getElem? ht
        have hall : ([29, 38].all fun u => !Tryd.prog.wantsStandIn u) = true := by kernel_rfl
        exact (show Tryd.prog.wantsStandIn t = false by simpa using List.all_eq_true.1 hall t hm)⟩)
    (by kernel_rfl)
#print axioms prints_holds
end Go.Proofs.YtmlddafbenfilaaDoor
