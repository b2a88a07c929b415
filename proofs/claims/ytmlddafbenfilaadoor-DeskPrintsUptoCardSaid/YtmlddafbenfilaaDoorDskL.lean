/- strings.Builder: a builder that a function has made itself. -/
import Derived.Test.YtmlddafbenfilaaDoorDskI
import Derived.Test.YtmlddafbenfilaaDoorCamAV
namespace Go.Proofs.YtmlddafbenfilaaDoor
open Go.Cam Go.RowKit
set_option maxRecDepth 100000
theorem bptr : Tryd.prog.underlying 47 = some (.pointer 49) := by kernel_rfl
theorem braw : Tryd.prog.underlying 81 = some .unsafePointer := by kernel_rfl
theorem binfo : ∃ j, Tryd.prog.info? 49 = some j ∧ j.size ≠ 0 := by
  have h : (Tryd.prog.info? 49).map (·.size) = some 2 := by kernel_rfl
  obtain ⟨j, h1, h2⟩ := Option.map_eq_some_iff.1 h
  exact ⟨j, h1, by rw [h2]; decide⟩
theorem copy_c (b : Nat) (p v : Value) (hp : p = .pointer none ∨ p = .pointer (some ⟨b, 0, none⟩)) : Ctr Tryd.prog 37 [.pointer (some ⟨b, 0, none⟩)] [Box b 49 [p, v]] (fun r Bs => r = .tuple #[] ∧ Bs = [Box b 49 [.pointer (some ⟨b, 0, none⟩), v]]) := by
  obtain ⟨j0, hj, hz⟩ := binfo
  refine s_enter 20 [(0, _)] (fun F => [_, F]) Tryd.func37 fun F => ?_
  rcases hp with rfl | rfl
  · refine gs_ ?_
    refine s_look (lk_raw (u := 49) (b := b) (ty := 49) (cs := [.pointer none, v]) (hu := bptr) (hd := braw) (hi := hj) (hz := hz) sel_ (Nat.zero_lt_succ 1)) ?_
    refine gs_ ?_
    refine s_look (lk_ext (v := .pointer (some ⟨b, 0, none⟩)) (args := [.pointer (some ⟨b, 0, none⟩)]) Tryd.func50 (by kernel_rfl) (by kernel_rfl) (by kernel_rfl) (E := Extern.AbiNoEscape.same) (by kernel_rfl) (fun w => Go.Lib.run_noEscape w _)) ?_
    refine gs_ ?_
    refine s_look (lk_unraw (u := 49) (b := b) (ty := 49) (cs := [.pointer none, v]) (hu := bptr) (hd := braw) (hi := hj) sel_ (by kernel_rfl)) ?_
    refine gs_ ?_
    exact s_end Tryd.func37 (⟨rfl, rfl⟩) ent_
  · refine gs_ ?_
    refine s_look (lk_nep (a := ⟨b, 0, none⟩) (hu := bptr) (hi := hj)) ?_
    refine gs_ ?_
    exact s_end Tryd.func37 (⟨rfl, rfl⟩) ent_
theorem byR_cat (x y : List Nat) (i : Nat) (_ : i < x.length + y.length) : rcat x.length (byR x) (byR y) i = byR (x ++ y) i := by
  unfold rcat
  by_cases h : i < x.length
  · rw [if_pos h]
    simp [byR, List.getD_eq_getElem?_getD, List.getElem?_append_left h]
  · rw [if_neg h]
    simp [byR, List.getD_eq_getElem?_getD, List.getElem?_append_right (by omega : x.length ≤ i)]
theorem byR_snoc (x : List Nat) (c : Nat) (i : Nat) (hi : i < x.length + 1) : rcat x.length (byR x) (fun _ => [.int .u8 (c : Int)]) i = byR (x ++ [c]) i := by
  rw [← byR_cat x [c] i hi]
  unfold rcat
  by_cases h : i < x.length
  · rw [if_pos h, if_pos h]
  · rw [if_neg h, if_neg h, show i - x.length = 0 by omega]; rfl
abbrev SBf (b : Nat) (x : List Nat) (y : Value × Option Addr × Nat) : Prop := (y.1 = .pointer none ∨ y.1 = .pointer (some ⟨b, 0, none⟩)) ∧ (x = [] → y.2 = (none, 0))
abbrev SBx (b : Nat) (x : List Nat) (y : Value × Option Addr × Nat) : List HP := [Box b 49 [y.1, .slice y.2.1 x.length y.2.2], SA (some 5) 1 (.slice y.2.1 x.length y.2.2) x.length (byR x)]
/-- a builder that holds bytes -/
abbrev SB (b : Nat) (x : List Nat) : HP := EX (SBf b x) (SBx b x)
theorem s_sb {P : Program} {f : FuncId} {n : Nat} {R : Value → HP} {k : List It} {l : List (Nat × Value)} {As Bs Cs : List HP} {b m : Nat} {x : List Nat} {a : Option Addr} {c : Nat} (hm : m = x.length) (h0 : x ≠ []) (s1 : Sel (Box b 49 [.pointer (some ⟨b, 0, none⟩), .slice a m c]) As Bs) (s2 : Sel (SA (some 5) 1 (.slice a m c) m (byR x)) Bs Cs) (h : RunS P f n R k l (SB b x :: Cs)) : RunS P f n R k l As := by
  subst hm
  exact s_cls (φ := SBf b x) (X := SBx b x) (.pointer (some ⟨b, 0, none⟩), a, c) ⟨.inr rfl, fun e => absurd e h0⟩ (.cons s1 (.cons s2 .nil)) h
theorem s_sb0 {P : Program} {f : FuncId} {n : Nat} {R : Value → HP} {k : List It} {l : List (Nat × Value)} {As Bs : List HP} {b : Nat} (s1 : Sel (Box b 49 [.pointer none, .slice none 0 0]) As Bs) (h : RunS P f n R k l (SB b [] :: Bs)) : RunS P f n R k l As :=
  s_new0 (e := 5) (sz := 1) (row := byR []) (s_cls (φ := SBf b []) (X := SBx b []) (.pointer none, none, 0) ⟨.inl rfl, fun _ => rfl⟩ (.cons (.there s1) (.cons .here .nil)) h)
theorem ne_snoc (x : List Nat) (c : Nat) : x ++ [c] ≠ [] := by simp
set_option maxHeartbeats 4000000 in
/-- bytes are written behind -/
theorem sbyte_c (b : Nat) (x : List Nat) (c : Nat) (hx : x.length ≤ 100000000000000) : Ctr Tryd.prog 23 [.pointer (some ⟨b, 0, none⟩), .int .u8 (c : Int)] [SB b x] (fun r Bs => r = .nilIface ∧ Bs = [SB b (x ++ [c])]) := by
  refine s_enter 17 [(0, _), (1, _)] (fun F => [_, F]) Tryd.func23 fun F => ?_
  refine s_opn sel_ fun y hy => ?_
  refine s_nrm ?_
  refine gs_ ?_
  refine s_call (sp := spl_) (hs := copy_c b y.1 (.slice y.2.1 x.length y.2.2) hy.1) (h := ?_)
  rintro v Bs ⟨rfl, rfl⟩
  refine gs_ ?_
  refine s_step (st_bs1 (sz := 1) (cells := [.int .u8 (c : Int)]) rfl) ?_
  rintro v Bs ⟨a1, rfl, rfl⟩
  refine gs_ ?_
  refine s_app (a := y.2.1) (len := x.length) (cap := y.2.2) (b := a1) (m := 1) (c := 1) sel_ (by repeat (first | with_reducible exact SelR.here | with_reducible apply SelR.there)) rfl (fun a3 c3 => ?_)
  refine s_open (SA.cg (byR (x ++ [c])) fun i hi => byR_snoc x c i hi) ?_
  refine gs_ ?_
  refine s_sb (b := b) (m := x.length + 1) (x := x ++ [c]) (a := a3) (c := c3) (by simp) (ne_snoc x c) sel_ sel_ ?_
  exact s_ret1 (rs := [.tmp 4]) Tryd.func23 rfl (by intro j; refine RVS.tmp _ rfl ?_; exact RVS.nil) (⟨rfl, rfl⟩) ent_
set_option maxHeartbeats 4000000 in
theorem swr_c {A : HP} (b : Nat) (x y : List Nat) {a : Option Addr} {m c : Nat} [Rd A 1 (.slice a m c) m (byR y)] (hm : y.length = m) (h0 : y ≠ []) (hx : x.length + y.length ≤ 100000000000000) : Ctr Tryd.prog 24 [.pointer (some ⟨b, 0, none⟩), .slice a m c] [SB b x, A] (fun r Bs => r = .tuple #[.int .i64 (m : Int), .nilIface] ∧ Bs = [SB b (x ++ y), A]) := by
  subst hm
  refine s_enter 19 [(0, _), (1, _)] (fun F => [_, _, F]) Tryd.func24 fun F => ?_
  refine s_opn sel_ fun z hz => ?_
  refine s_nrm ?_
  refine gs_ ?_
  refine s_call (sp := spl_) (hs := copy_c b z.1 (.slice z.2.1 x.length z.2.2) hz.1) (h := ?_)
  rintro v Bs ⟨rfl, rfl⟩
  refine gs_ ?_
  refine s_app (a := z.2.1) (len := x.length) (cap := z.2.2) (b := a) (m := y.length) (c := c) sel_ (by repeat (first | with_reducible exact SelR.here | with_reducible apply SelR.there)) (by rw [flat_byR']; exact bcl_one y) (fun a3 c3 => ?_)
  refine s_open (SA.cg (byR (x ++ y)) fun i hi => byR_cat x y i hi) ?_
  refine gs_ ?_
  refine s_sb (b := b) (m := x.length + y.length) (x := x ++ y) (a := a3) (c := c3) (by simp) (by simp [h0]) sel_ sel_ ?_
  exact s_rett (rs := [.tmp 4, .tmp 5]) (vs := [_, _]) Tryd.func24 rfl (by intro j; refine RVS.tmp _ rfl ?_; refine RVS.tmp _ rfl ?_; exact RVS.nil) rfl (⟨rfl, rfl⟩) ent_
set_option maxHeartbeats 4000000 in
theorem sstr_c (b : Nat) (x y : List Nat) (hy : Bys y) (h0 : y ≠ []) (hx : x.length + y.length ≤ 100000000000000) : Ctr Tryd.prog 32 [.pointer (some ⟨b, 0, none⟩), .string (strB y)] [SB b x] (fun r Bs => r = .tuple #[.int .i64 (y.length : Int), .nilIface] ∧ Bs = [SB b (x ++ y)]) := by
  refine s_enter 19 [(0, _), (1, _)] (fun F => [_, F]) Tryd.func32 fun F => ?_
  refine s_opn sel_ fun z hz => ?_
  refine s_nrm ?_
  refine gs_ ?_
  refine s_call (sp := spl_) (hs := copy_c b z.1 (.slice z.2.1 x.length z.2.2) hz.1) (h := ?_)
  rintro v Bs ⟨rfl, rfl⟩
  refine gs_ ?_
  refine s_step (st_appS (e := 5) (a := z.2.1) (x := x) (y := y) (m := x.length) (cap := z.2.2) hy rfl sel_) ?_
  rintro v Bs ⟨a', cap', rfl, rfl⟩
  refine gs_ ?_
  refine s_sb (b := b) (m := x.length + y.length) (x := x ++ y) (a := a') (c := cap') (by simp) (by simp [h0]) sel_ sel_ ?_
  exact s_rett (rs := [.tmp 4, .tmp 5]) (vs := [_, _]) Tryd.func32 rfl (by intro j; refine RVS.tmp _ rfl ?_; refine RVS.tmp _ rfl ?_; exact RVS.nil) rfl (⟨rfl, rfl⟩) ent_
theorem bpu : Tryd.prog.underlying 72 = some (.pointer 5) := by kernel_rfl
set_option maxHeartbeats 4000000 in
/-- what a builder holds, as a text -/
theorem string_c (b : Nat) (x : List Nat) (hx : Bys x) (hl : x.length ≤ 100000000000000) : Ctr Tryd.prog 25 [.pointer (some ⟨b, 0, none⟩)] [SB b x] (fun r Bs => r = .string (strB x) ∧ Bs = []) := by
  refine s_enter 14 [(0, _)] (fun F => [_, F]) Tryd.func25 fun F => ?_
  refine s_opn sel_ fun z hz => ?_
  obtain ⟨z1, z2, z3⟩ := z
  cases x with
  | nil =>
    obtain ⟨rfl, rfl⟩ := Prod.mk.inj (hz.2 rfl)
    show RunS _ _ _ _ _ _ ([Box b 49 [z1, .slice none 0 0], SA (some 5) 1 (.slice none 0 0) 0 (byR [])] ++ [F])
    refine s_nrm ?_
    refine gs_ ?_
    refine s_drawN 0 [.q 0, .q 1, .q 2, .q 3, .q 4, .q 5, .q 6, .q 7, .q 8, .q 9, .s 10, .q 11] ?_
    refine do_ ?_
    refine d_look rfl (lk_usd (v := .pointer none) (X := .slice none 0 0) fun w => Go.Lib.run_unsafeSliceData_nil w _ _ 0 0) ?_
    refine do_ ?_
    refine d_step rfl (st_lk lk_usn) ?_
    rintro v Bs ⟨rfl, rfl⟩
    refine do_ ?_
    refine gs_ ?_
    exact s_ret1 (rs := [.tmp 2]) Tryd.func25 rfl (by intro j; refine RVS.tmp _ rfl ?_; exact RVS.nil) (⟨rfl, rfl⟩) ent_
  | cons c x =>
    have hl2 : x.length + 1 ≤ 100000000000000 := hl
    show RunS _ _ _ _ _ _ ([Box b 49 [z1, .slice z2 (x.length + 1) z3], SA (some 5) 1 (.slice z2 (x.length + 1) z3) (x.length + 1) (byR (c :: x))] ++ [F])
    refine s_nrm ?_
    refine s_know (a := SA (some 5) 1 (.slice z2 (x.length + 1) z3) (x.length + 1) (byR (c :: x))) sel_ (fun H M h => SA.some h rfl (by simp)) fun hv => ?_
    obtain ⟨g, cc, he⟩ := hv
    injection he with e1 _ e3
    subst e1; subst e3
    refine gs_ ?_
    refine s_front (a := SA (some 5) 1 (.slice (some ⟨g, 0, none⟩) (x.length + 1) (cc + 1)) (x.length + 1) (byR (c :: x))) sel_ ?_
    refine s_drawN 1 [.q 0, .q 1, .q 2, .q 3, .q 4, .q 5, .q 6, .q 7, .q 8, .q 9, .s 10, .q 11] ?_
    refine do_ ?_
    refine d_look rfl (lk_usd (v := .pointer (some ⟨g, 0, none⟩)) (X := .slice (some ⟨g, 0, none⟩) (x.length + 1) (cc + 1)) fun w => Go.Lib.run_unsafeSliceData_row w _ _ _ _ _ (Nat.succ_ne_zero _)) ?_
    refine do_ ?_
    refine d_step rfl (st_us (s := c :: x) (m := x.length + 1) (c := cc + 1) hx rfl (by simp) bpu (by kernel_rfl) sel_) ?_
    rintro v Bs ⟨rfl, rfl⟩
    refine do_ ?_
    refine gs_ ?_
    exact s_ret1 (rs := [.tmp 2]) Tryd.func25 rfl (by intro j; refine RVS.tmp _ rfl ?_; exact RVS.nil) (⟨rfl, rfl⟩) ent_
end Go.Proofs.YtmlddafbenfilaaDoor
/- Bytes that stand for themselves; digits. -/
namespace Go.Proofs.YtmlddafbenfilaaDoor
open Go.Cam
set_option maxRecDepth 100000
theorem it_a {c : Nat} (h1 : 97 ≤ c) (h2 : c ≤ 122) : itselfN c = true := by unfold itselfN; simp [h1, h2]
theorem it_b {c : Nat} (h1 : 65 ≤ c) (h2 : c ≤ 90) : itselfN c = true := by unfold itselfN; simp [h1, h2]
theorem it_c {c : Nat} (h1 : 48 ≤ c) (h2 : c ≤ 57) : itselfN c = true := by unfold itselfN; simp [h1, h2]
theorem it_d {c : Nat} (h1 : ¬ (97 ≤ c ∧ c ≤ 122)) (h2 : ¬ (65 ≤ c ∧ c ≤ 90)) (h3 : ¬ (48 ≤ c ∧ c ≤ 57)) : itselfN c = decide (c = 47 ∨ c = 46 ∨ c = 45 ∨ c = 95) := by
  unfold itselfN; rw [decide_eq_false h1, decide_eq_false h2, decide_eq_false h3]; rfl
theorem it_i (c : Nat) : decide (idxN [47, 46, 45, 95] c ≥ 0) = decide (c = 47 ∨ c = 46 ∨ c = 45 ∨ c = 95) := by
  refine decide_eq_decide.2 ?_
  unfold idxN
  by_cases h1 : 47 = c
  · rw [if_pos h1]; constructor
    · intro _; omega
    · intro _; omega
  · rw [if_neg h1]
    unfold idxN
    by_cases h2 : 46 = c
    · rw [if_pos h2]; constructor
      · intro _; omega
      · intro _; decide
    · rw [if_neg h2]
      unfold idxN
      by_cases h3 : 45 = c
      · rw [if_pos h3]; constructor
        · intro _; omega
        · intro _; decide
      · rw [if_neg h3]
        unfold idxN
        by_cases h4 : 95 = c
        · rw [if_pos h4]; constructor
          · intro _; omega
          · intro _; decide
        · rw [if_neg h4]
          unfold idxN
          constructor
          · intro h; exact absurd h (by decide)
          · intro h; omega
set_option maxHeartbeats 4000000 in
theorem itself_c (c : Nat) (hc : c < 256) : Ctr Tryd.prog 20 [.int .u8 (c : Int)] [] (fun v Bs => v = .bool (itselfN c) ∧ Bs = []) := by
  have hfin : ¬ (97 ≤ c ∧ c ≤ 122) → ¬ (65 ≤ c ∧ c ≤ 90) → ¬ (48 ≤ c ∧ c ≤ 57) → decide (idxN [47, 46, 45, 95] c ≥ 0) = itselfN c := fun h1 h2 h3 => by rw [it_d h1 h2 h3, it_i]
  have hb : Bys [47, 46, 45, 95] := by intro x hx; simp at hx; omega
  refine s_enter 25 [(0, _)] (fun F => [F]) Tryd.func20 fun F => ?_
  refine gs_ ?_
  cases h0 : decide ((97 : Int) ≤ (c : Int)) with
  | true =>
    have k0 := of_decide_eq_true h0
    refine gs_ ?_
    cases h1 : decide ((c : Int) ≤ 122) with
    | true =>
      have k1 := of_decide_eq_true h1
      refine gs_ ?_
      exact s_ret1 (rs := [.tmp 2]) Tryd.func20 rfl (by intro j; refine RVS.tmp _ rfl ?_; exact RVS.nil) (⟨by rw [it_a (by omega) (by omega)], rfl⟩) ent_
    | false =>
      have k1 := of_decide_eq_false h1
      refine gs_ ?_
      cases h2 : decide ((65 : Int) ≤ (c : Int)) with
      | true =>
        have k2 := of_decide_eq_true h2
        refine gs_ ?_
        cases h3 : decide ((c : Int) ≤ 90) with
        | true =>
          exact absurd (of_decide_eq_true h3) (by omega)
        | false =>
          have k3 := of_decide_eq_false h3
          refine gs_ ?_
          cases h4 : decide ((48 : Int) ≤ (c : Int)) with
          | true =>
            have k4 := of_decide_eq_true h4
            refine gs_ ?_
            cases h5 : decide ((c : Int) ≤ 57) with
            | true =>
              exact absurd (of_decide_eq_true h5) (by omega)
            | false =>
              have k5 := of_decide_eq_false h5
              refine gs_ ?_
              refine s_call (sp := spl_) (hs := idx_c [47, 46, 45, 95] c hb hc) (h := ?_)
              rintro v Bs ⟨rfl, rfl⟩
              refine gs_ ?_
              exact s_ret1 (rs := [.tmp 2]) Tryd.func20 rfl (by intro j; refine RVS.tmp _ rfl ?_; exact RVS.nil) (⟨by rw [hfin (by omega) (by omega) (by omega)], rfl⟩) ent_
          | false =>
            exact absurd (of_decide_eq_false h4) (by omega)
      | false =>
        exact absurd (of_decide_eq_false h2) (by omega)
  | false =>
    have k0 := of_decide_eq_false h0
    refine gs_ ?_
    cases h6 : decide ((65 : Int) ≤ (c : Int)) with
    | true =>
      have k6 := of_decide_eq_true h6
      refine gs_ ?_
      cases h7 : decide ((c : Int) ≤ 90) with
      | true =>
        have k7 := of_decide_eq_true h7
        refine gs_ ?_
        exact s_ret1 (rs := [.tmp 2]) Tryd.func20 rfl (by intro j; refine RVS.tmp _ rfl ?_; exact RVS.nil) (⟨by rw [it_b (by omega) (by omega)], rfl⟩) ent_
      | false =>
        have k7 := of_decide_eq_false h7
        refine gs_ ?_
        cases h8 : decide ((48 : Int) ≤ (c : Int)) with
        | true =>
          have k8 := of_decide_eq_true h8
          refine gs_ ?_
          cases h9 : decide ((c : Int) ≤ 57) with
          | true =>
            exact absurd (of_decide_eq_true h9) (by omega)
          | false =>
            have k9 := of_decide_eq_false h9
            refine gs_ ?_
            refine s_call (sp := spl_) (hs := idx_c [47, 46, 45, 95] c hb hc) (h := ?_)
            rintro v Bs ⟨rfl, rfl⟩
            refine gs_ ?_
            exact s_ret1 (rs := [.tmp 2]) Tryd.func20 rfl (by intro j; refine RVS.tmp _ rfl ?_; exact RVS.nil) (⟨by rw [hfin (by omega) (by omega) (by omega)], rfl⟩) ent_
        | false =>
          exact absurd (of_decide_eq_false h8) (by omega)
    | false =>
      have k6 := of_decide_eq_false h6
      refine gs_ ?_
      cases h10 : decide ((48 : Int) ≤ (c : Int)) with
      | true =>
        have k10 := of_decide_eq_true h10
        refine gs_ ?_
        cases h11 : decide ((c : Int) ≤ 57) with
        | true =>
          have k11 := of_decide_eq_true h11
          refine gs_ ?_
          exact s_ret1 (rs := [.tmp 2]) Tryd.func20 rfl (by intro j; refine RVS.tmp _ rfl ?_; exact RVS.nil) (⟨by rw [it_c (by omega) (by omega)], rfl⟩) ent_
        | false =>
          have k11 := of_decide_eq_false h11
          refine gs_ ?_
          refine s_call (sp := spl_) (hs := idx_c [47, 46, 45, 95] c hb hc) (h := ?_)
          rintro v Bs ⟨rfl, rfl⟩
          refine gs_ ?_
          exact s_ret1 (rs := [.tmp 2]) Tryd.func20 rfl (by intro j; refine RVS.tmp _ rfl ?_; exact RVS.nil) (⟨by rw [hfin (by omega) (by omega) (by omega)], rfl⟩) ent_
      | false =>
        have k10 := of_decide_eq_false h10
        refine gs_ ?_
        refine s_call (sp := spl_) (hs := idx_c [47, 46, 45, 95] c hb hc) (h := ?_)
        rintro v Bs ⟨rfl, rfl⟩
        refine gs_ ?_
        exact s_ret1 (rs := [.tmp 2]) Tryd.func20 rfl (by intro j; refine RVS.tmp _ rfl ?_; exact RVS.nil) (⟨by rw [hfin (by omega) (by omega) (by omega)], rfl⟩) ent_
set_option maxHeartbeats 4000000 in
theorem plain_c (c : Nat) : Ctr Tryd.prog 26 [.int .u8 (c : Int)] [] (fun v Bs => v = .bool (itselfN c) ∧ Bs = []) := by
  refine s_enter 41 [(0, _)] (fun F => [F]) Tryd.func26 fun F => ?_
  refine gs_ ?_
  cases h12 : decide ((c : Int) ≥ 97) with
  | true =>
    have k12 := of_decide_eq_true h12
    refine gs_ ?_
    cases h13 : decide ((c : Int) ≤ 122) with
    | true =>
      have k13 := of_decide_eq_true h13
      refine gs_ ?_
      exact s_ret1 (rs := [.tmp 2]) Tryd.func26 rfl (by intro j; refine RVS.tmp _ rfl ?_; exact RVS.nil) (⟨by rw [it_a (by omega) (by omega)], rfl⟩) ent_
    | false =>
      have k13 := of_decide_eq_false h13
      refine gs_ ?_
      cases h14 : decide ((c : Int) ≥ 65) with
      | true =>
        have k14 := of_decide_eq_true h14
        refine gs_ ?_
        cases h15 : decide ((c : Int) ≤ 90) with
        | true =>
          exact absurd (of_decide_eq_true h15) (by omega)
        | false =>
          have k15 := of_decide_eq_false h15
          refine gs_ ?_
          cases h16 : decide ((c : Int) ≥ 48) with
          | true =>
            have k16 := of_decide_eq_true h16
            refine gs_ ?_
            cases h17 : decide ((c : Int) ≤ 57) with
            | true =>
              exact absurd (of_decide_eq_true h17) (by omega)
            | false =>
              have k17 := of_decide_eq_false h17
              refine gs_ ?_
              cases h18 : ((c : Int) == 47) with
              | true =>
                exact absurd (eq_of_beq h18) (by omega)
              | false =>
                have k18 := ne_of_beq_false h18
                refine gs_ ?_
                cases h19 : ((c : Int) == 46) with
                | true =>
                  exact absurd (eq_of_beq h19) (by omega)
                | false =>
                  have k19 := ne_of_beq_false h19
                  refine gs_ ?_
                  cases h20 : ((c : Int) == 45) with
                  | true =>
                    exact absurd (eq_of_beq h20) (by omega)
                  | false =>
                    have k20 := ne_of_beq_false h20
                    refine gs_ ?_
                    exact s_ret1 (rs := [.tmp 2]) Tryd.func26 rfl (by intro j; refine RVS.tmp _ rfl ?_; exact RVS.nil) (⟨by rw [it_d (by omega) (by omega) (by omega)]; congr 1; rw [Bool.eq_iff_iff, beq_iff_eq, decide_eq_true_eq]; omega, rfl⟩) ent_
          | false =>
            exact absurd (of_decide_eq_false h16) (by omega)
      | false =>
        exact absurd (of_decide_eq_false h14) (by omega)
  | false =>
    have k12 := of_decide_eq_false h12
    refine gs_ ?_
    cases h22 : decide ((c : Int) ≥ 65) with
    | true =>
      have k22 := of_decide_eq_true h22
      refine gs_ ?_
      cases h23 : decide ((c : Int) ≤ 90) with
      | true =>
        have k23 := of_decide_eq_true h23
        refine gs_ ?_
        exact s_ret1 (rs := [.tmp 2]) Tryd.func26 rfl (by intro j; refine RVS.tmp _ rfl ?_; exact RVS.nil) (⟨by rw [it_b (by omega) (by omega)], rfl⟩) ent_
      | false =>
        have k23 := of_decide_eq_false h23
        refine gs_ ?_
        cases h24 : decide ((c : Int) ≥ 48) with
        | true =>
          have k24 := of_decide_eq_true h24
          refine gs_ ?_
          cases h25 : decide ((c : Int) ≤ 57) with
          | true =>
            exact absurd (of_decide_eq_true h25) (by omega)
          | false =>
            have k25 := of_decide_eq_false h25
            refine gs_ ?_
            cases h26 : ((c : Int) == 47) with
            | true =>
              exact absurd (eq_of_beq h26) (by omega)
            | false =>
              have k26 := ne_of_beq_false h26
              refine gs_ ?_
              cases h27 : ((c : Int) == 46) with
              | true =>
                exact absurd (eq_of_beq h27) (by omega)
              | false =>
                have k27 := ne_of_beq_false h27
                refine gs_ ?_
                cases h28 : ((c : Int) == 45) with
                | true =>
                  exact absurd (eq_of_beq h28) (by omega)
                | false =>
                  have k28 := ne_of_beq_false h28
                  refine gs_ ?_
                  exact s_ret1 (rs := [.tmp 2]) Tryd.func26 rfl (by intro j; refine RVS.tmp _ rfl ?_; exact RVS.nil) (⟨by rw [it_d (by omega) (by omega) (by omega)]; congr 1; rw [Bool.eq_iff_iff, beq_iff_eq, decide_eq_true_eq]; omega, rfl⟩) ent_
        | false =>
          exact absurd (of_decide_eq_false h24) (by omega)
    | false =>
      have k22 := of_decide_eq_false h22
      refine gs_ ?_
      cases h30 : decide ((c : Int) ≥ 48) with
      | true =>
        have k30 := of_decide_eq_true h30
        refine gs_ ?_
        cases h31 : decide ((c : Int) ≤ 57) with
        | true =>
          have k31 := of_decide_eq_true h31
          refine gs_ ?_
          exact s_ret1 (rs := [.tmp 2]) Tryd.func26 rfl (by intro j; refine RVS.tmp _ rfl ?_; exact RVS.nil) (⟨by rw [it_c (by omega) (by omega)], rfl⟩) ent_
        | false =>
          have k31 := of_decide_eq_false h31
          refine gs_ ?_
          cases h32 : ((c : Int) == 47) with
          | true =>
            exact absurd (eq_of_beq h32) (by omega)
          | false =>
            have k32 := ne_of_beq_false h32
            refine gs_ ?_
            cases h33 : ((c : Int) == 46) with
            | true =>
              exact absurd (eq_of_beq h33) (by omega)
            | false =>
              have k33 := ne_of_beq_false h33
              refine gs_ ?_
              cases h34 : ((c : Int) == 45) with
              | true =>
                exact absurd (eq_of_beq h34) (by omega)
              | false =>
                have k34 := ne_of_beq_false h34
                refine gs_ ?_
                exact s_ret1 (rs := [.tmp 2]) Tryd.func26 rfl (by intro j; refine RVS.tmp _ rfl ?_; exact RVS.nil) (⟨by rw [it_d (by omega) (by omega) (by omega)]; congr 1; rw [Bool.eq_iff_iff, beq_iff_eq, decide_eq_true_eq]; omega, rfl⟩) ent_
      | false =>
        have k30 := of_decide_eq_false h30
        refine gs_ ?_
        cases h36 : ((c : Int) == 47) with
        | true =>
          have k36 := eq_of_beq h36
          refine gs_ ?_
          exact s_ret1 (rs := [.tmp 2]) Tryd.func26 rfl (by intro j; refine RVS.tmp _ rfl ?_; exact RVS.nil) (⟨by rw [it_d (by omega) (by omega) (by omega), decide_eq_true (by omega)], rfl⟩) ent_
        | false =>
          have k36 := ne_of_beq_false h36
          refine gs_ ?_
          cases h37 : ((c : Int) == 46) with
          | true =>
            have k37 := eq_of_beq h37
            refine gs_ ?_
            exact s_ret1 (rs := [.tmp 2]) Tryd.func26 rfl (by intro j; refine RVS.tmp _ rfl ?_; exact RVS.nil) (⟨by rw [it_d (by omega) (by omega) (by omega), decide_eq_true (by omega)], rfl⟩) ent_
          | false =>
            have k37 := ne_of_beq_false h37
            refine gs_ ?_
            cases h38 : ((c : Int) == 45) with
            | true =>
              have k38 := eq_of_beq h38
              refine gs_ ?_
              exact s_ret1 (rs := [.tmp 2]) Tryd.func26 rfl (by intro j; refine RVS.tmp _ rfl ?_; exact RVS.nil) (⟨by rw [it_d (by omega) (by omega) (by omega), decide_eq_true (by omega)], rfl⟩) ent_
            | false =>
              have k38 := ne_of_beq_false h38
              refine gs_ ?_
              exact s_ret1 (rs := [.tmp 2]) Tryd.func26 rfl (by intro j; refine RVS.tmp _ rfl ?_; exact RVS.nil) (⟨by rw [it_d (by omega) (by omega) (by omega)]; congr 1; rw [Bool.eq_iff_iff, beq_iff_eq, decide_eq_true_eq]; omega, rfl⟩) ent_
theorem hexs : Bys [48, 49, 50, 51, 52, 53, 54, 55, 56, 57, 97, 98, 99, 100, 101, 102] := by intro x hx; simp at hx; omega
theorem hex_at {i : Nat} (h : i < 16) : [48, 49, 50, 51, 52, 53, 54, 55, 56, 57, 97, 98, 99, 100, 101, 102].getD i 0 = hexN i := by
  have : ∀ i : Fin 16, [48, 49, 50, 51, 52, 53, 54, 55, 56, 57, 97, 98, 99, 100, 101, 102].getD i.val 0 = hexN i.val := by decide
  exact this ⟨i, h⟩
end Go.Proofs.YtmlddafbenfilaaDoor
/- Both Quotes. -/
namespace Go.Proofs.YtmlddafbenfilaaDoor
open Go.Cam
set_option maxRecDepth 100000
instance : U8T Tryd.prog 5 := ⟨by kernel_rfl⟩
theorem qB_snoc (b : List Nat) (i : Nat) (hi : i < b.length) : qB (b.take (i + 1)) = qB (b.take i) ++ q1 (b.getD i 0) := by
  have : b.take (i + 1) = b.take i ++ [b.getD i 0] := by
    rw [List.take_add_one, List.getElem?_eq_getElem hi, List.getD_eq_getElem?_getD, List.getElem?_eq_getElem hi]; rfl
  rw [this, qB, List.flatMap_append]
  simp [qB]
theorem q1_len (c : Nat) : (q1 c).length ≤ 3 := by unfold q1; split <;> simp
theorem qB_len : ∀ (b : List Nat), (qB b).length ≤ 3 * b.length
  | [] => Nat.le_refl _
  | c :: b => by
    have := qB_len b
    have := q1_len c
    show (q1 c ++ qB b).length ≤ _
    rw [List.length_append, List.length_cons]; omega
theorem q1_bys {c : Nat} (h : c < 256) : Bys (q1 c) := by
  unfold q1
  split
  · intro x hx; rw [List.mem_singleton] at hx; omega
  · intro x hx
    have : ∀ d, d < 16 → hexN d < 256 := fun d hd => by unfold hexN; split <;> omega
    simp only [List.mem_cons, List.not_mem_nil, or_false] at hx
    rcases hx with rfl | rfl | rfl
    · decide
    · exact this _ (by omega)
    · exact this _ (by omega)
theorem qB_bys {b : List Nat} (h : Bys b) : Bys (qB b) := fun x hx => by
  obtain ⟨c, hc, h2⟩ := List.mem_flatMap.1 hx
  exact q1_bys (h c hc) x h2
theorem quoteN_bys {b : List Nat} (h : Bys b) : Bys (quoteN b) := fun x hx => by
  unfold quoteN at hx
  rcases List.mem_cons.1 hx with rfl | hx
  · decide
  · rcases List.mem_append.1 hx with hx | hx
    · exact qB_bys h x hx
    · rw [List.mem_singleton] at hx; omega
theorem quoteN_len (b : List Nat) : (quoteN b).length ≤ 3 * b.length + 2 := by
  have := qB_len b
  unfold quoteN
  simp only [List.length_cons, List.length_append, List.length_nil]; omega
theorem getD_lt {b : List Nat} (hb : Bys b) (i : Nat) : b.getD i 0 < 256 := by
  rw [List.getD_eq_getElem?_getD]
  cases h : b[i]? with
  | none => decide
  | some x => exact hb x (List.mem_of_getElem? h)
set_option maxHeartbeats 8000000 in
theorem quote_c {A : HP} {a : Option Addr} {n c : Nat} (b : List Nat) [Rd A 1 (.slice a n c) n (byR b)] (hb : Bys b) (hn : b.length = n) (hl : n ≤ 10000000000000) : Ctr Tryd.prog 10 [.slice a n c] [A] (fun v Bs => v = .string (strB (quoteN b)) ∧ Bs = [A]) := by
  refine s_enter 28 [(0, _)] (fun F => [_, F]) Tryd.func10 fun F => ?_
  refine gs_ ?_
  refine s_alloc fun r => ?_
  refine gs_ ?_
  refine s_sb0 (b := r) sel_ ?_
  refine gs_ ?_
  refine s_call (sp := spl_) (hs := sbyte_c r [] 34 (by simp)) (h := ?_)
  rintro v Bs ⟨rfl, rfl⟩
  refine gs_ ?_
  rw [show ([] : List Nat) ++ [34] = 34 :: qB (b.take 0) from rfl]
  refine s_loop (fun i : Nat => [(3, .pointer (some ⟨r, 0, none⟩)), (7, .slice a n c), (8, .int .i64 n), (9, .int .i64 i)]) (fun i => [SB r (34 :: qB (b.take i)), A, F]) (fun i => i ≤ n) (fun i => n - i) 0 (Nat.zero_le _) ent_ ?_
  rintro i hi next
  have hlen : (34 :: qB (b.take i)).length ≤ 30000000000003 := by
    have := qB_len (b.take i)
    rw [List.length_take] at this
    rw [List.length_cons]; omega
  refine gs_ ?_
  refine s_if (fun h => ?_) (fun h => ?_)
  · have hi2 : i < n := by omega
    have hc := getD_lt hb i
    generalize hcc : b.getD i 0 = cc at hc
    have hsn : qB (b.take (i + 1)) = qB (b.take i) ++ q1 cc := by rw [← hcc]; exact qB_snoc b i (by omega)
    refine gs_ ?_
    rw [hcc]
    refine gs_ ?_
    refine s_call (sp := spl_) (hs := itself_c cc hc) (h := ?_)
    rintro v Bs ⟨rfl, rfl⟩
    cases hit : itselfN cc with
    | true =>
      refine gs_ ?_
      refine s_call (sp := spl_) (hs := sbyte_c r (34 :: qB (b.take i)) cc (by omega)) (h := ?_)
      rintro v Bs ⟨rfl, rfl⟩
      refine gs_ ?_
      have e : (34 :: qB (b.take i)) ++ [cc] = 34 :: qB (b.take (i + 1)) := by rw [hsn, q1, if_pos hit]; rfl
      rw [e]
      exact s_entF ent_ (s_keep _ (next (i + 1) (by omega) (by omega)))
    | false =>
      refine gs_ ?_
      refine s_drawN 1 [.q 0, .q 1, .q 2, .q 3, .q 4, .q 5, .s 6, .s 7] ?_
      refine do_ ?_
      rw [show ((cc : Int).fdiv (2 ^ min (Int.toNat 4) IntKind.u8.bits)) = ((cc / 16 : Nat) : Int) from fdiv_pow cc 4]
      have h1 : cc / 16 < 16 := by omega
      have h2 : cc % 16 < 16 := by omega
      refine d_look rfl (lk_sidx (s := [48, 49, 50, 51, 52, 53, 54, 55, 56, 57, 97, 98, 99, 100, 101, 102]) (i := cc / 16) hexs h1) ?_
      refine d_look rfl lk_p ?_
      refine d_look rfl (lk_and15 (a := cc) hc) ?_
      refine d_look rfl (lk_sidx (s := [48, 49, 50, 51, 52, 53, 54, 55, 56, 57, 97, 98, 99, 100, 101, 102]) (i := cc % 16) hexs h2) ?_
      rw [hex_at h1, hex_at h2]
      refine d_step rfl (st_bs (sz := 1) (cells := [.int .u8 37, .int .u8 (hexN (cc / 16) : Nat), .int .u8 (hexN (cc % 16) : Nat)]) (by intro j; rfl)) ?_
      rintro v Bs ⟨a3, rfl, rfl⟩
      have hrow : ∀ q, q < 3 → rowsOf 1 [.int .u8 37, .int .u8 (hexN (cc / 16) : Nat), .int .u8 (hexN (cc % 16) : Nat)] q = byR [37, hexN (cc / 16), hexN (cc % 16)] q := fun q hq => by
        match q, hq with
        | 0, _ => rfl
        | 1, _ => rfl
        | 2, _ => rfl
      refine d_open (SA.cg (byR [37, hexN (cc / 16), hexN (cc % 16)]) hrow) ?_
      refine d_step rfl (st_call (sp := spl_) (hs := swr_c (A := SA (some 5) 1 (.slice a3 3 3) 3 (byR [37, hexN (cc / 16), hexN (cc % 16)])) (a := a3) (m := 3) (c := 3) r (34 :: qB (b.take i)) [37, hexN (cc / 16), hexN (cc % 16)] rfl (by simp) (by simp only [List.length_cons] at hlen ⊢; simp; omega))) ?_
      rintro v Bs ⟨Cs, ⟨rfl, rfl⟩, rfl⟩
      refine do_ ?_
      refine gs_ ?_
      have e : (34 :: qB (b.take i)) ++ [37, hexN (cc / 16), hexN (cc % 16)] = 34 :: qB (b.take (i + 1)) := by rw [hsn, q1, if_neg (by rw [hit]; decide)]; rfl
      rw [e]
      exact s_entF ent_ (s_keep _ (next (i + 1) (by omega) (by omega)))
  · have : i = n := by omega
    subst this
    have e : b.take i = b := List.take_of_length_le (by omega)
    rw [e] at hlen ⊢
    refine gs_ ?_
    refine s_call (sp := spl_) (hs := sbyte_c r (34 :: qB b) 34 (by omega)) (h := ?_)
    rintro v Bs ⟨rfl, rfl⟩
    refine gs_ ?_
    have e2 : (34 :: qB b) ++ [34] = quoteN b := rfl
    rw [e2]
    refine s_call (sp := spl_) (hs := string_c r (quoteN b) (quoteN_bys hb) (by have := quoteN_len b; omega)) (h := ?_)
    rintro v Bs ⟨rfl, rfl⟩
    refine gs_ ?_
    exact s_ret1 (rs := [.tmp 2]) Tryd.func10 rfl (by intro j; refine RVS.tmp _ rfl ?_; exact RVS.nil) (⟨rfl, rfl⟩) ent_
section
variable {P : Program} {f : FuncId} {n : Nat} {R : Value → HP} {k : List It} {l : List (Nat × Value)} {As Bs : List HP} {all : Array Oper} {rest : List Oper} {d : Nat} {dd : Option Nat} {oty : TypeId} {pos : String} {af : Array Edge} {g : Option (Nat × Bool)}
/-- bytes are put behind bytes -/
theorem st_appB {t e c : Nat} {p q : Operand} {a b : Option Addr} {x y : List Nat} {cap : Nat} [SL P t e 1 1]
    (u : Sel (SA (some e) 1 (.slice a x.length cap) x.length (byR x)) As Bs) (hr : SelR As 1 (.slice b y.length c) y.length (byR y)) (hroom : x.length + y.length + 512 ≤ 140737488355328 := by omega)
    (hp : ∀ j, ev (mk l j) p = .slice a x.length cap := by intro j; rfl) (hq : ∀ j, ev (mk l j) q = .slice b y.length c := by intro j; rfl) :
    StepL P ⟨dd, .call ⟨.builtin .append, #[p, q], #[t, t]⟩, t, pos, af, g⟩ l As (fun v Cs => ∃ a' cap', v = .slice a' (x ++ y).length cap' ∧ Cs = SA (some e) 1 (.slice a' (x ++ y).length cap') (x ++ y).length (byR (x ++ y)) :: Bs) := .mk fun j Fs H M s => by
  refine hmc_mono ((st_app (row := byR x) (row2 := byR y) u hr (by rw [flat_byR']; exact bcl_one y) (by omega) hp hq).h j Fs H M s) fun v H' M' ⟨Cs, ⟨a', cap', h1, h2⟩, h3⟩ => ?_
  subst h2
  rw [List.length_append]
  exact ⟨_, ⟨a', cap', h1, rfl⟩, star_monoL (SA.cg (byR (x ++ y)) fun i hi => byR_cat x y i hi) h3⟩
end
set_option maxHeartbeats 8000000 in
theorem rquote_c {A : HP} {a : Option Addr} {n c : Nat} (b : List Nat) [Rd A 1 (.slice a n c) n (byR b)] (hb : Bys b) (hn : b.length = n) (hl : n ≤ 10000000000000) : Ctr Tryd.prog 11 [.slice a n c] [A] (fun v Bs => v = .string (strB (quoteN b)) ∧ Bs = [A]) := by
  refine s_enter 38 [(0, _)] (fun F => [_, F]) Tryd.func11 fun F => ?_
  refine gs_ ?_
  refine s_step (st_bs1 (sz := 1) (cells := [.int .u8 34]) rfl) ?_
  rintro v Bs ⟨a0, rfl, rfl⟩
  refine s_open (SA.cg (byR (34 :: qB (b.take 0))) fun q hq => by rw [show q = 0 by omega]; rfl) ?_
  refine s_open (B := SA (some 5) 1 (.slice a0 (34 :: qB (b.take 0)).length 1) (34 :: qB (b.take 0)).length (byR (34 :: qB (b.take 0)))) (fun _ _ h => h) ?_
  refine gs_ ?_
  refine s_loop (fun y : Nat × Option Addr × Nat => [(0, .slice a n c), (3, .slice y.2.1 (34 :: qB (b.take y.1)).length y.2.2), (4, .int .i64 (y.1 : Int))]) (fun y => [SA (some 5) 1 (.slice y.2.1 (34 :: qB (b.take y.1)).length y.2.2) (34 :: qB (b.take y.1)).length (byR (34 :: qB (b.take y.1))), A, F]) (fun y => y.1 ≤ n) (fun y => n - y.1) (0, a0, 1) (Nat.zero_le _) ent_ ?_
  rintro ⟨i, a1, c1⟩ hi next
  dsimp only at hi
  show RunS _ _ _ _ _ [(0, .slice a n c), (3, .slice a1 (34 :: qB (b.take i)).length c1), (4, .int .i64 (i : Int))] [SA (some 5) 1 (.slice a1 (34 :: qB (b.take i)).length c1) (34 :: qB (b.take i)).length (byR (34 :: qB (b.take i))), A, F]
  have hlen : (34 :: qB (b.take i)).length ≤ 30000000000003 := by
    have := qB_len (b.take i)
    rw [List.length_take] at this
    rw [List.length_cons]; omega
  refine gs_ ?_
  refine s_if (fun h => ?_) (fun h => ?_)
  · have hi2 : i < n := by omega
    have hc := getD_lt hb i
    generalize hcc : b.getD i 0 = cc at hc
    have hsn : qB (b.take (i + 1)) = qB (b.take i) ++ q1 cc := by rw [← hcc]; exact qB_snoc b i (by omega)
    refine gs_ ?_
    rw [hcc]
    refine gs_ ?_
    refine s_call (sp := spl_) (hs := plain_c cc) (h := ?_)
    rintro v Bs ⟨rfl, rfl⟩
    cases hit : itselfN cc with
    | true =>
      refine gs_ ?_
      refine s_step (st_bs1 (sz := 1) (cells := [.int .u8 (cc : Int)]) rfl) ?_
      rintro v Bs ⟨a2, rfl, rfl⟩
      refine s_open (SA.cg (byR [cc]) fun q hq => by rw [show q = 0 by omega]; rfl) ?_
      refine s_step (st_appB (a := a1) (b := a2) (x := 34 :: qB (b.take i)) (y := [cc]) (cap := c1) (c := 1) sel_ (by repeat (first | with_reducible exact SelR.here | with_reducible apply SelR.there)) (by simp only [List.length_singleton]; omega)) ?_
      rintro v Bs ⟨a3, c3, rfl, rfl⟩
      refine gs_ ?_
      have e : (34 :: qB (b.take i)) ++ [cc] = 34 :: qB (b.take (i + 1)) := by rw [hsn, q1, if_pos hit]; rfl
      rw [e]
      exact s_entF ent_ (s_keep _ (next (i + 1, a3, c3) (by show i + 1 ≤ n; omega) (by show n - (i + 1) < n - i; omega)))
    | false =>
      refine gs_ ?_
      refine s_drawN 1 [.q 0, .q 1, .q 2, .q 3, .q 4, .q 5, .q 6, .s 7, .s 8, .q 9] ?_
      refine do_ ?_
      rw [show IntKind.u8.wrap ((cc : Int).tdiv 16) = ((cc / 16 : Nat) : Int) by rw [Int.tdiv_eq_ediv_of_nonneg (Int.natCast_nonneg _), show ((cc : Int) / 16) = ((cc / 16 : Nat) : Int) by omega, wrap_u8, Nat.mod_eq_of_lt (by omega)]]
      have h1 : cc / 16 < 16 := by omega
      have h2 : cc % 16 < 16 := by omega
      refine d_look rfl (lk_sidx (s := [48, 49, 50, 51, 52, 53, 54, 55, 56, 57, 97, 98, 99, 100, 101, 102]) (i := cc / 16) hexs h1) ?_
      refine do_ ?_
      rw [show (cc : Int).tmod 16 = ((cc % 16 : Nat) : Int) by rw [Int.tmod_eq_emod_of_nonneg (Int.natCast_nonneg _)]; omega]
      refine d_look rfl (lk_sidx (s := [48, 49, 50, 51, 52, 53, 54, 55, 56, 57, 97, 98, 99, 100, 101, 102]) (i := cc % 16) hexs h2) ?_
      rw [hex_at h1, hex_at h2]
      refine d_step rfl (st_bs (sz := 1) (cells := [.int .u8 37, .int .u8 (hexN (cc / 16) : Nat), .int .u8 (hexN (cc % 16) : Nat)]) (by intro j; rfl)) ?_
      rintro v Bs ⟨a2, rfl, rfl⟩
      refine d_open (SA.cg (byR [37, hexN (cc / 16), hexN (cc % 16)]) fun q hq => by
        match q, hq with
        | 0, _ => rfl
        | 1, _ => rfl
        | 2, _ => rfl) ?_
      refine d_step rfl (st_appB (a := a1) (b := a2) (x := 34 :: qB (b.take i)) (y := [37, hexN (cc / 16), hexN (cc % 16)]) (cap := c1) (c := 3) sel_ (by repeat (first | with_reducible exact SelR.here | with_reducible apply SelR.there)) (by simp only [List.length_cons, List.length_nil] at hlen ⊢; omega)) ?_
      rintro v Bs ⟨a3, c3, rfl, rfl⟩
      refine do_ ?_
      refine gs_ ?_
      have e : (34 :: qB (b.take i)) ++ [37, hexN (cc / 16), hexN (cc % 16)] = 34 :: qB (b.take (i + 1)) := by rw [hsn, q1, if_neg (by rw [hit]; decide)]; rfl
      rw [e]
      exact s_entF ent_ (s_keep _ (next (i + 1, a3, c3) (by show i + 1 ≤ n; omega) (by show n - (i + 1) < n - i; omega)))
  · have : i = n := by omega
    subst this
    have e : b.take i = b := List.take_of_length_le (by omega)
    rw [e] at hlen ⊢
    refine gs_ ?_
    refine s_step (st_bs1 (sz := 1) (cells := [.int .u8 34]) rfl) ?_
    rintro v Bs ⟨a2, rfl, rfl⟩
    refine s_open (SA.cg (byR [34]) fun q hq => by rw [show q = 0 by omega]; rfl) ?_
    refine s_step (st_appB (a := a1) (b := a2) (x := 34 :: qB b) (y := [34]) (cap := c1) (c := 1) sel_ (by repeat (first | with_reducible exact SelR.here | with_reducible apply SelR.there)) (by simp only [List.length_singleton]; omega)) ?_
    rintro v Bs ⟨a3, c3, rfl, rfl⟩
    have e2 : (34 :: qB b) ++ [34] = quoteN b := rfl
    rw [e2]
    refine s_look (lk_b2s (s := quoteN b) (a := a3) (m := (quoteN b).length) (c := c3) (by repeat (first | with_reducible exact SelR.here | with_reducible apply SelR.there)) rfl) ?_
    refine gs_ ?_
    exact s_ret1 (rs := [.tmp 2]) Tryd.func11 rfl (by intro j; refine RVS.tmp _ rfl ?_; exact RVS.nil) (⟨rfl, rfl⟩) ent_
end Go.Proofs.YtmlddafbenfilaaDoor
