/- The program's Parse. -/
import Derived.Test.YtmlddafbenfilaaDoorDskQ
import Derived.Test.YtmlddafbenfilaaDoorCamAO
import Derived.Test.YtmlddafbenfilaaDoorCards
import Derived.Test.YtmlddafbenfilaaDoorTie
import Derived.Handed
import Derived.HandedShaped
import Derived.Lay
import Derived.LaidMore
import Derived.SevenTiedAt
import Derived.Stop.LaidErr
import Derived.Stop.Joined
import Derived.Shelf.Vars
namespace Go.Proofs.YtmlddafbenfilaaDoor
open Go.Cam
set_option maxRecDepth 100000
def wput (w : Nat → Option Addr × Nat) (i : Nat) (x : Option Addr × Nat) : Nat → Option Addr × Nat := fun q => if q = i then x else w q
/-- events, as a slice's row; their data -/
def evRow (w : Nat → Option Addr × Nat) (l : List Ev) (i : Nat) : List Value := evL (l.getD i ev0) (w i).1 (w i).2
abbrev EvOne (w : Nat → Option Addr × Nat) (l : List Ev) (i : Nat) : HP := SA none 1 (.slice (w i).1 (l.getD i ev0).data.length (w i).2) (l.getD i ev0).data.length (byR (l.getD i ev0).data)
abbrev EvFam (w : Nat → Option Addr × Nat) (l : List Ev) : HP := Fam l.length (EvOne w l)
theorem evRow_snoc {w : Nat → Option Addr × Nat} {l : List Ev} {e : Ev} {a : Option Addr} {c : Nat} (i : Nat) (hi : i < l.length + 1) : rcat l.length (evRow w l) (fun _ => evL e a c) i = evRow (wput w l.length (a, c)) (l ++ [e]) i := by
  unfold rcat evRow wput
  by_cases h : i < l.length
  · rw [if_pos h, if_neg (by omega)]
    simp [List.getD_eq_getElem?_getD, List.getElem?_append_left h]
  · have : i = l.length := by omega
    subst this
    rw [if_neg h, if_pos rfl]
    simp [List.getD_eq_getElem?_getD]
theorem evFam_old {w : Nat → Option Addr × Nat} {l : List Ev} {e : Ev} {a : Option Addr} {c : Nat} (i : Nat) (hi : i < l.length) (H M : Heap) (h : (EvOne w l i).p H M) : (EvOne (wput w l.length (a, c)) (l ++ [e]) i).p H M := by
  have e1 : (l ++ [e]).getD i ev0 = l.getD i ev0 := by simp [List.getD_eq_getElem?_getD, List.getElem?_append_left hi]
  have e2 : wput w l.length (a, c) i = w i := by unfold wput; rw [if_neg (by omega)]
  unfold EvOne
  rw [e1, e2]; exact h
theorem evFam_new {w : Nat → Option Addr × Nat} {l : List Ev} {e : Ev} {a : Option Addr} {c : Nat} (H M : Heap) (h : (SA none 1 (.slice a e.data.length c) e.data.length (byR e.data)).p H M) : (EvOne (wput w l.length (a, c)) (l ++ [e]) l.length).p H M := by
  have e1 : (l ++ [e]).getD l.length ev0 = e := by simp [List.getD_eq_getElem?_getD]
  have e2 : wput w l.length (a, c) l.length = (a, c) := by unfold wput; rw [if_pos rfl]
  unfold EvOne
  rw [e1, e2]; exact h
/-- what a Parse answers -/
def parR (ev : List Nat → Option Ev) (s : List Nat) : List Ev × Int × Int :=
  if 65536 < s.length ∨ 4096 < s.count 10 then ([], 0, 7) else match parseN ev s.length s [] with
    | .ok l => (l, 0, 0)
    | .error k => ([], (k : Int), 240)
def ParP (r : List Ev × Int × Int) (v : Value) (Bs : List HP) : Prop := ∃ a c w, v = .tuple #[.slice a r.1.length c, .int .i64 r.2.1, .int .i64 r.2.2] ∧ Bs = [SA (some 42) 8 (.slice a r.1.length c) r.1.length (evRow w r.1), EvFam w r.1]
theorem cut10_len : ∀ (s : List Nat), (cut10 s).1.length ≤ s.length ∧ ∀ r, (cut10 s).2 = some r → r.length < s.length
  | [] => ⟨Nat.le_refl _, fun r h => by cases h⟩
  | c :: s => by
    have ih := cut10_len s
    rw [cut10]
    split
    · exact ⟨Nat.zero_le _, fun r h => by cases h; simp⟩
    · refine ⟨by simp only [List.length_cons]; omega, fun r h => ?_⟩
      have := ih.2 r h
      simp only [List.length_cons]; omega
theorem cut10_bys : ∀ (s : List Nat), Bys s → Bys (cut10 s).1 ∧ ∀ r, (cut10 s).2 = some r → Bys r
  | [], _ => ⟨emp_bys, fun r h => by cases h⟩
  | c :: s, hs => by
    have hss : Bys s := fun x hx => hs x (List.mem_cons_of_mem _ hx)
    have ih := cut10_bys s hss
    rw [cut10]
    split
    · exact ⟨emp_bys, fun r h => by cases h; exact hss⟩
    · refine ⟨fun x hx => ?_, fun r h => ih.2 r h⟩
      rcases List.mem_cons.1 hx with rfl | hx
      · exact hs _ (List.mem_cons_self ..)
      · exact ih.1 x hx
set_option maxHeartbeats 32000000 in
theorem parse_c (s : List Nat) (hs : Bys s) (hl : s.length ≤ 1000000) : Ctr Tryd.prog 12 [.string (strB s)] [GL] (ParP (parR evF s)) := by
  refine s_enter 47 [(0, _)] (fun F => [_, F]) Tryd.func12 fun F => ?_
  refine gt_ ?_
  cases h1 : decide ((s.length : Int) > 65536) with
  | true =>
    have h2 := of_decide_eq_true h1
    have e1 : parR evF s = ([], 0, 7) := by unfold parR; rw [if_pos (.inl (by omega))]
    rw [e1]
    refine gt_ ?_
    refine s_new0 (e := 42) (sz := 8) (row := evRow (fun _ => (none, 0)) []) (s_open (B := SA (some 42) 8 (.slice none ([] : List Ev).length 0) ([] : List Ev).length (evRow (fun _ => (none, 0)) [])) (fun _ _ h => h) ?_)
    refine s_fam0 (F := EvOne (fun _ => (none, 0)) []) (s_open (B := EvFam (fun _ => (none, 0)) []) (fun _ _ h => h) ?_)
    exact s_rett (rs := [.tmp 2, .tmp 3, .tmp 4]) (vs := [_, _, _]) Tryd.func12 rfl (by intro j; refine RVS.tmp _ rfl ?_; refine RVS.tmp _ rfl ?_; refine RVS.tmp _ rfl ?_; exact RVS.nil) rfl (⟨none, 0, fun _ => (none, 0), rfl, rfl⟩) ent_
  | false =>
    have h2 := of_decide_eq_false h1
    refine gt_ ?_
    refine s_call (sp := spl_) (hs := count_c s hs) (h := ?_)
    rintro v Bs ⟨rfl, rfl⟩
    refine gt_ ?_
    cases h3 : decide (((s.count 10 : Nat) : Int) > 4096) with
    | true =>
      have h4 := of_decide_eq_true h3
      have e1 : parR evF s = ([], 0, 7) := by unfold parR; rw [if_pos (.inr (by omega))]
      rw [e1]
      refine gt_ ?_
      refine s_new0 (e := 42) (sz := 8) (row := evRow (fun _ => (none, 0)) []) (s_open (B := SA (some 42) 8 (.slice none ([] : List Ev).length 0) ([] : List Ev).length (evRow (fun _ => (none, 0)) [])) (fun _ _ h => h) ?_)
      refine s_fam0 (F := EvOne (fun _ => (none, 0)) []) (s_open (B := EvFam (fun _ => (none, 0)) []) (fun _ _ h => h) ?_)
      exact s_rett (rs := [.tmp 2, .tmp 3, .tmp 4]) (vs := [_, _, _]) Tryd.func12 rfl (by intro j; refine RVS.tmp _ rfl ?_; refine RVS.tmp _ rfl ?_; refine RVS.tmp _ rfl ?_; exact RVS.nil) rfl (⟨none, 0, fun _ => (none, 0), rfl, rfl⟩) ent_
    | false =>
      have h4 := of_decide_eq_false h3
      have e1 : parR evF s = match parseN evF s.length s [] with
        | .ok l => (l, 0, 0)
        | .error k => ([], (k : Int), 240) := by unfold parR; rw [if_neg (by omega)]
      refine gt_ ?_
      refine s_new0 (e := 42) (sz := 8) (row := evRow (fun _ => (none, 0)) []) (s_open (B := SA (some 42) 8 (.slice none ([] : List Ev).length 0) ([] : List Ev).length (evRow (fun _ => (none, 0)) [])) (fun _ _ h => h) ?_)
      refine s_fam0 (F := EvOne (fun _ => (none, 0)) []) (s_open (B := EvFam (fun _ => (none, 0)) []) (fun _ _ h => h) ?_)
      refine s_loop (fun y : Nat × List Nat × List Ev × Option Addr × Nat × (Nat → Option Addr × Nat) => [(0, .string (strB y.2.1)), (5, .slice y.2.2.2.1 y.2.2.1.length y.2.2.2.2.1)]) (fun y => [GL, SA (some 42) 8 (.slice y.2.2.2.1 y.2.2.1.length y.2.2.2.2.1) y.2.2.1.length (evRow y.2.2.2.2.2 y.2.2.1), EvFam y.2.2.2.2.2 y.2.2.1, F]) (fun y => Bys y.2.1 ∧ y.2.1.length ≤ y.1 ∧ y.2.2.1.length + y.2.1.length ≤ s.length ∧ parseN evF s.length s [] = parseN evF y.1 y.2.1 y.2.2.1) (fun y => y.2.1.length) (s.length, s, [], none, 0, fun _ => (none, 0)) ⟨hs, Nat.le_refl _, by simp, rfl⟩ ent_ ?_
      rintro ⟨f, rest, acc, a, c, w⟩ ⟨hr, hrf, hra, hinv⟩ next
      dsimp only at hr hrf hra hinv
      show RunS _ _ _ _ _ [(0, .string (strB rest)), (5, .slice a acc.length c)] [GL, SA (some 42) 8 (.slice a acc.length c) acc.length (evRow w acc), EvFam w acc, F]
      refine gt_ ?_
      rw [show ((strB rest).toList == (ByteArray.mk #[]).toList) = decide (rest = []) from strB_beq hr emp_bys]
      cases rest with
      | nil =>
        have e2 : parR evF s = (acc, 0, 0) := by
          rw [e1, hinv]
          cases f <;> rw [parseN]
        rw [e2]
        refine gt_ ?_
        exact s_rett (rs := [.tmp 2, .tmp 3, .tmp 4]) (vs := [_, _, _]) Tryd.func12 rfl (by intro j; refine RVS.tmp _ rfl ?_; refine RVS.tmp _ rfl ?_; refine RVS.tmp _ rfl ?_; exact RVS.nil) rfl (⟨a, c, w, rfl, rfl⟩) ent_
      | cons h r =>
        have hd : (!decide (h :: r = [])) = true := by simp
        rw [hd]
        have hcl := cut10_len (h :: r)
        have hcb := cut10_bys (h :: r) hr
        obtain ⟨f', hf⟩ : ∃ f', f = f' + 1 := ⟨f - 1, by rw [List.length_cons] at hrf; omega⟩
        refine gt_ ?_
        refine s_call (sp := spl_) (hs := cut_c (h :: r) hr (by omega)) (h := ?_)
        rintro v Bs ⟨rfl, rfl⟩
        refine gt_ ?_
        refine s_call (sp := spl_) (hs := event_c (cut10 (h :: r)).1 hcb.1 (by omega)) (h := ?_)
        rintro v Bs ⟨e, ae, ce, rfl, he, rfl⟩
        refine gt_ ?_
        refine s_alloc fun r9 => ?_
        refine gt_ ?_
        cases hc2 : (cut10 (h :: r)).2 with
        | none =>
          have e2 : parR evF s = ([], ((acc.length + 1 : Nat) : Int), 240) := by rw [e1, hinv, hf, parseN, hc2]
          rw [e2]
          refine gt_ ?_
          refine s_drop (a := SA (some 42) 8 (.slice a acc.length c) acc.length (evRow w acc)) sel_ ?_
          refine s_drop (a := EvFam w acc) sel_ ?_
          refine s_new0 (e := 42) (sz := 8) (row := evRow (fun _ => (none, 0)) []) (s_open (B := SA (some 42) 8 (.slice none ([] : List Ev).length 0) ([] : List Ev).length (evRow (fun _ => (none, 0)) [])) (fun _ _ h => h) ?_)
          refine s_fam0 (F := EvOne (fun _ => (none, 0)) []) (s_open (B := EvFam (fun _ => (none, 0)) []) (fun _ _ h => h) ?_)
          exact s_rett (rs := [.tmp 2, .tmp 3, .tmp 4]) (vs := [_, _, _]) Tryd.func12 rfl (by intro j; refine RVS.tmp _ rfl ?_; refine RVS.tmp _ rfl ?_; refine RVS.tmp _ rfl ?_; exact RVS.nil) rfl (⟨none, 0, fun _ => (none, 0), rfl, rfl⟩) ent_
        | some r2 =>
          refine gt_ ?_
          cases hev : evF (cut10 (h :: r)).1 with
          | none =>
            have e2 : parR evF s = ([], ((acc.length + 1 : Nat) : Int), 240) := by rw [e1, hinv, hf, parseN, hc2, hev]
            rw [e2]
            refine gt_ ?_
            refine s_drop (a := SA (some 42) 8 (.slice a acc.length c) acc.length (evRow w acc)) sel_ ?_
            refine s_drop (a := EvFam w acc) sel_ ?_
            refine s_new0 (e := 42) (sz := 8) (row := evRow (fun _ => (none, 0)) []) (s_open (B := SA (some 42) 8 (.slice none ([] : List Ev).length 0) ([] : List Ev).length (evRow (fun _ => (none, 0)) [])) (fun _ _ h => h) ?_)
            refine s_fam0 (F := EvOne (fun _ => (none, 0)) []) (s_open (B := EvFam (fun _ => (none, 0)) []) (fun _ _ h => h) ?_)
            exact s_rett (rs := [.tmp 2, .tmp 3, .tmp 4]) (vs := [_, _, _]) Tryd.func12 rfl (by intro j; refine RVS.tmp _ rfl ?_; refine RVS.tmp _ rfl ?_; refine RVS.tmp _ rfl ?_; exact RVS.nil) rfl (⟨none, 0, fun _ => (none, 0), rfl, rfl⟩) ent_
          | some x =>
            have hx : e = x := he x hev
            subst hx
            have hr2 := hcl.2 r2 hc2
            have hb2 := hcb.2 r2 hc2
            have hinv2 : parseN evF s.length s [] = parseN evF f' r2 (acc ++ [e]) := by rw [hinv, hf, parseN, hc2, hev]
            refine gt_ ?_
            refine s_step (st_bs1 (sz := 8) (cells := evL e ae ce) rfl) ?_
            rintro v Bs ⟨a2, rfl, rfl⟩
            refine gt_ ?_
            refine s_app (a := a) (len := acc.length) (cap := c) (b := a2) (m := 1) (c := 1) sel_ (by repeat (first | with_reducible exact SelR.here | with_reducible apply SelR.there)) (by rw [flat_one]; rfl) (fun a3 c3 => ?_)
            refine s_open (SA.cg (evRow (wput w acc.length (ae, ce)) (acc ++ [e])) fun i hi => evRow_snoc i hi) ?_
            refine s_front (a := SA (some 5) 1 (.slice ae e.data.length ce) e.data.length (byR e.data)) sel_ ?_
            refine s_fz (e := 5) (sz := 1) (v := .slice ae e.data.length ce) (len := e.data.length) (row := byR e.data) sel_ (s_open (B := EvOne (wput w acc.length (ae, ce)) (acc ++ [e]) acc.length) evFam_new ?_)
            refine s_front (a := EvFam w acc) sel_ (s_open (B := Fam acc.length (EvOne (wput w acc.length (ae, ce)) (acc ++ [e]))) (Fam.cg _ fun i hi => evFam_old i hi) ?_)
            refine s_famS (m := acc.length) (F := EvOne (wput w acc.length (ae, ce)) (acc ++ [e])) sel_ sel_ ?_
            rw [show acc.length + 1 = (acc ++ [e]).length by simp]
            refine gt_ ?_
            exact s_entF ent_ (s_keep _ (next (f', r2, acc ++ [e], a3, c3, wput w acc.length (ae, ce)) ⟨hb2, by rw [List.length_cons] at hr2 hrf; show r2.length ≤ f'; omega, by rw [List.length_cons] at hr2 hra; show (acc ++ [e]).length + r2.length ≤ s.length; simp only [List.length_append, List.length_singleton]; omega, hinv2⟩ (by show r2.length < (h :: r).length; exact hr2)))
end Go.Proofs.YtmlddafbenfilaaDoor
/- The document's examples. -/
namespace Go.Proofs.YtmlddafbenfilaaDoor
open Go.Cam
set_option maxRecDepth 100000
abbrev evA : Ev := ⟨21, 1, 0, 0, 0, [], [97], []⟩
theorem dec_one {u : Nat} (h : u < 10) : Go.Lib.decDigits u = [UInt8.ofNat (48 + u)] := by rw [Go.Lib.decDigits, dif_pos h]
theorem dec_21 : Go.Lib.decDigits 21 = [50, 49] := by rw [Go.Lib.decDigits, dif_neg (by decide), dec_one (by decide)]; rfl
theorem words_A : wordsN evA = [[50, 49], [49], [48], [48], [48], [34, 34], [34, 97, 34], [34, 34]] := by
  have h1 : itoaN 21 = [50, 49] := by
    unfold itoaN Go.Lib.itoa
    rw [if_neg (by decide)]
    show (Go.Lib.decDigits 21).map UInt8.toNat = _
    rw [dec_21]; rfl
  have h2 : itoaN 1 = [49] := by
    unfold itoaN Go.Lib.itoa
    rw [if_neg (by decide)]
    show (Go.Lib.decDigits 1).map UInt8.toNat = _
    rw [dec_one (by decide)]; rfl
  have h3 : itoaN 0 = [48] := by
    unfold itoaN Go.Lib.itoa
    rw [if_neg (by decide)]
    show (Go.Lib.decDigits 0).map UInt8.toNat = _
    rw [dec_one (by decide)]; rfl
  unfold wordsN
  rw [h1, h2, h3]
  rfl
theorem line_A : lineN evA = [50, 49, 32, 49, 32, 48, 32, 48, 32, 48, 32, 34, 34, 32, 34, 97, 34] := by
  unfold lineN
  rw [words_A]
  decide
theorem evA_ok : evA.ok := ⟨by decide, by decide, by decide, by decide, by decide, emp_bys, by intro x hx; simp at hx; omega, emp_bys⟩
theorem par_A : parR evF [50, 49, 32, 49, 32, 48, 32, 48, 32, 48, 32, 34, 34, 32, 34, 97, 34, 10] = ([evA], 0, 0) := by
  have e : printN [evA] = [50, 49, 32, 49, 32, 48, 32, 48, 32, 48, 32, 34, 34, 32, 34, 97, 34, 10] := by
    show (lineN evA ++ [10]) ++ [] = _
    rw [line_A]; rfl
  have h := parse_print [evA] 18 [] (fun x hx => by rw [List.mem_singleton] at hx; subst hx; exact evA_ok) (by rw [e]; decide)
  rw [e] at h
  unfold parR
  rw [if_neg (by decide)]
  show (match parseN evF 18 _ [] with | .ok l => ((l, 0, 0) : List Ev × Int × Int) | .error k => ([], (k : Int), 240)) = _
  rw [h]; rfl
theorem unq_A : unquoteP [34, 97, 37, 50, 48, 98, 34] = some [97, 32, 98] := by
  have h := unquote_quote (b := [97, 32, 98]) (by intro x hx; simp at hx; omega)
  rw [show quoteN [97, 32, 98] = [34, 97, 37, 50, 48, 98, 34] by decide] at h
  exact h
theorem unq_B : unquoteP [34, 37, 54, 49, 34] = none := by
  unfold unquoteP
  rw [if_neg (by decide)]
  show unP [37, 54, 49] = none
  rw [unP_cons, if_neg (by decide), if_neg (by decide)]
  rfl
theorem litb {l : List Nat} (h : l.all (fun c => decide (c < 256)) = true) : Bys l := fun c hc => of_decide_eq_true (List.all_eq_true.1 h c hc)
set_option maxHeartbeats 32000000 in
theorem shown_c : Ctr Tryd.prog 7 [] [GL] (fun v Bs => v = .bool true ∧ Bs = []) := by
  have p1 := parse_c [50, 49, 32, 49, 32, 48, 32, 48, 32, 48, 32, 34, 34, 32, 34, 97, 34, 10] (litb rfl) (by decide)
  rw [par_A] at p1
  have p2 := unquote_c [34, 97, 37, 50, 48, 98, 34] (litb rfl) (by decide)
  rw [unq_A] at p2
  have p3 := unquote_c [34, 37, 54, 49, 34] (litb rfl) (by decide)
  rw [unq_B] at p3
  have q1 : Ctr Tryd.prog 12 [.string (strB [50, 49, 32, 49, 32, 48, 32, 48, 32, 48, 32, 34, 34, 32, 34, 97, 34, 10])] [GL] (fun v Bs => ∃ a c w, v = .tuple #[.slice a 1 c, .int .i64 0, .int .i64 0] ∧ Bs = [SA (some 42) 8 (.slice a 1 c) 1 (evRow w [evA]), EvFam w [evA]]) := p1
  have q2 : Ctr Tryd.prog 8 [.string (strB [34, 97, 37, 50, 48, 98, 34])] [] (fun v Bs => ∃ a c x, x = [97, 32, 98] ∧ v = .tuple #[.slice a x.length c, .int .i64 0] ∧ Bs = [SA (some 5) 1 (.slice a x.length c) x.length (byR x)]) := p2
  have q3 : Ctr Tryd.prog 8 [.string (strB [34, 37, 54, 49, 34])] [] (fun v Bs => ∃ a c x, x = [] ∧ v = .tuple #[.slice a x.length c, .int .i64 240] ∧ Bs = [SA (some 5) 1 (.slice a x.length c) x.length (byR x)]) := p3
  clear p1 p2 p3
  have hb1 : Bys [97] := litb rfl
  have hb2 : Bys (quoteN [97, 32, 98]) := quoteN_bys (litb rfl)
  have hb3 : Bys [97, 32, 98] := litb rfl
  refine s_enter 72 [] (fun F => [_, F]) Tryd.func7 fun F => ?_
  refine gt_ ?_
  refine s_call (sp := spl_) (hs := q1) (h := ?_)
  rintro v Bs ⟨a, c, w, rfl, rfl⟩
  refine s_nrm ?_
  refine s_open (SA.cg (fun _ => evL evA (w 0).1 (w 0).2) fun i hi => by rw [show i = 0 by omega]; rfl) ?_
  refine gt_ ?_
  refine s_call (sp := spl_) (hs := q2) (h := ?_)
  rintro v Bs ⟨a2, c2, x2, rfl, rfl, rfl⟩
  refine gt_ ?_
  refine s_call (sp := spl_) (hs := q3) (h := ?_)
  rintro v Bs ⟨a3, c3, o3, rfl, rfl, rfl⟩
  refine gt_ ?_
  refine s_look (lk_ixs (v := .slice a 1 c) (i := 0)) ?_
  refine gt_ ?_
  refine s_look (lk_ixs (v := .slice a 1 c) (i := 0)) ?_
  refine gt_ ?_
  refine s_look (lk_ixs (v := .slice a 1 c) (i := 0)) ?_
  refine gt_ ?_
  rw [show ((strB evA.name).toList == (ByteArray.mk #[97]).toList) = true from (strB_beq (a := [97]) (b := [97]) hb1 hb1).trans (by decide)]
  refine gt_ ?_
  refine s_bs (cells := [.int .u8 97, .int .u8 32, .int .u8 98]) (fun a1 => ?_) (fun j => rfl)
  refine s_full (a := a1) (m := 3) sel_ (by decide) fun r6 hr6 => ?_
  subst hr6
  refine s_step (st_cvb (b := r6) (cs := (flat 3 (rowsOf 1 [.int .u8 97, .int .u8 32, .int .u8 98])).toArray) (by repeat (first | with_reducible exact Upd.here | with_reducible apply Upd.there))) ?_
  rintro _ _ ⟨rfl, rfl⟩
  refine s_fzo (b := r6) (off := 0) (m := 3) (c := 3) (sz := 1) (row := byR [97, 32, 98]) sel_ (fun _ _ => rfl) (by decide) (by decide) (by rfl) ?_
  refine s_call (sp := spl_) (hs := quote_c (A := SA none 1 (.slice (some ⟨r6, 0, none⟩) 3 3) 3 (byR [97, 32, 98])) (a := some ⟨r6, 0, none⟩) (n := 3) (c := 3) [97, 32, 98] hb3 rfl (by decide)) (h := ?_)
  rintro v Bs ⟨rfl, rfl⟩
  refine gt_ ?_
  rw [show ((strB (quoteN [97, 32, 98])).toList == (ByteArray.mk #[34, 97, 37, 50, 48, 98, 34]).toList) = true from (strB_beq (b := [34, 97, 37, 50, 48, 98, 34]) hb2 (litb rfl)).trans (by decide)]
  refine gt_ ?_
  refine s_look (lk_b2s (s := [97, 32, 98]) (a := a2) (m := [97, 32, 98].length) (c := c2) (by repeat (first | with_reducible exact SelR.here | with_reducible apply SelR.there)) rfl) ?_
  refine gt_ ?_
  rw [show ((strB [97, 32, 98]).toList == (ByteArray.mk #[97, 32, 98]).toList) = true from (strB_beq (b := [97, 32, 98]) hb3 hb3).trans (by decide)]
  refine gt_ ?_
  exact s_ret1 (rs := [.tmp 0]) Tryd.func7 rfl (by intro j; refine RVS.tmp _ rfl ?_; exact RVS.nil) (⟨rfl, rfl⟩) ent_
end Go.Proofs.YtmlddafbenfilaaDoor
/- What the ties of this seat need: the library's variables as they are laid. -/
namespace Go.Proofs.YtmlddafbenfilaaDoor
open Go.Cam
set_option maxRecDepth 100000
theorem Tryd.own : ownKnob Tryd.prog.godebug = none := by kernel_rfl
theorem Tryd.laidOut : laidOutB Tryd.prog = true := by kernel_rfl
theorem Tryd.star : "*" ++ "errors.errorString" = "*errors.errorString" := by decide
theorem Tryd.rowErr (u : TypeId) (h : Tryd.prog.typeName? 3 u = some "*errors.errorString") : u = 117 :=
  typeName_ptr_named (nm := "errors.errorString") (by rw [Tryd.star]; kernel_rfl) (by kernel_rfl) (by decide) u (by rw [Tryd.star]; exact h)
abbrev laidL : List (String × DataW Unit) := Rows.deskQuotesRow.laid
theorem heap_of_var {P : Program} {W : World} {n : String} {g : Nat} {cs : Array Value} (hg : P.globalNamed n = some g) (h : W.var? P n = some cs) : ∃ t f, W.heap[g]? = some (.cells cs t f) := by
  unfold World.var? at h
  rw [hg, Option.bind_some] at h
  cases hh : W.heap[g]? with
  | none => rw [hh] at h; cases h
  | some o =>
    rw [hh] at h
    cases o with
    | cells c t f => cases h; exact ⟨t, f, rfl⟩
    | _ => cases h
theorem pow_is : (Rows.laid_internal_strconv_uint64pow10 : DataW Unit) = Go.Lib.tabData .u64 Go.Lib.pow10Tab := by kernel_rfl
theorem gl_of {W : World} (hL : laidMetH Tryd.prog laidL W) (hs : W.ShapedOpen Tryd.prog) : GLp (held W) := by
  rw [MakeChecks.laidMetH_plain _ _ _ (by kernel_rfl)] at hL
  have h2 : laidMet Tryd.prog (("internal/strconv.uint64pow10", Go.Lib.tabData .u64 Go.Lib.pow10Tab) :: laidL.drop 3) W := by rw [← pow_is]; exact hL.tail.tail
  have h4 := h2.tail.tail
  have h5 := h4.tail
  obtain ⟨m, hm⟩ := cell_of_shapedOpen_int (g := 0) (t := 3) (k := .i64) (zero := #[.int .i64 0]) hs (of_decide_eq_true (by kernel_rfl)) (by kernel_rfl) rfl (by kernel_rfl) (by kernel_rfl) (by kernel_rfl)
  obtain ⟨cs, hh, hsz, _⟩ := hs.1 0 #[.int .i64 0] 3 (of_decide_eq_true (by kernel_rfl)) (by kernel_rfl)
  have hcs : cs = #[.int .i64 m] := by
    have h1 : W.cell? ⟨0, 0, none⟩ = cs[0]? := cell_of hh 0
    rw [hm] at h1
    obtain ⟨l⟩ := cs
    match l, hsz, h1 with
    | [x], _, h1 => simp at h1; rw [h1]
  subst hcs
  obtain ⟨a1, s1, v1, _⟩ := laid_sentinel h5 (g := 1) (ti := 51) (tp := 117) (te := 119) (ts := 9) (by kernel_rfl) (by kernel_rfl) Tryd.underlying51 Tryd.rowErr Tryd.underlying117 Tryd.underlying119 rfl rfl Tryd.underlying9 (by kernel_rfl) (by kernel_rfl)
  obtain ⟨a2, s2, v2, _⟩ := laid_sentinel h4 (g := 2) (ti := 51) (tp := 117) (te := 119) (ts := 9) (by kernel_rfl) (by kernel_rfl) Tryd.underlying51 Tryd.rowErr Tryd.underlying117 Tryd.underlying119 rfl rfl Tryd.underlying9 (by kernel_rfl) (by kernel_rfl)
  have tab := Go.Lib.tabIs_of_head (g := 3) (t := 113) (e := 96) (n := 20) (by kernel_rfl) (by kernel_rfl) (by kernel_rfl) (by kernel_rfl) (by kernel_rfl) (by kernel_rfl) h2
  obtain ⟨t1, f1, e1⟩ := heap_of_var (g := 1) (by kernel_rfl) v1
  obtain ⟨t2, f2, e2⟩ := heap_of_var (g := 2) (by kernel_rfl) v2
  obtain ⟨t3, f3, e3⟩ := heap_of_var (g := 3) (by kernel_rfl) tab
  exact ⟨⟨m, _, _, hh⟩, ⟨_, _, t1, f1, e1⟩, ⟨_, _, t2, f2, e2⟩, t3, f3, e3⟩
theorem str_list (s : ByteArray) : s = strB (s.data.toList.map UInt8.toNat) := by
  rw [← strB_of]
theorem str_bys (s : ByteArray) : Bys (s.data.toList.map UInt8.toNat) := fun c hc => by
  obtain ⟨x, _, rfl⟩ := List.mem_map.1 hc
  exact x.toNat_lt
theorem str_len (s : ByteArray) : (s.data.toList.map UInt8.toNat).length = s.size := by rw [List.length_map, Array.length_toList]; rfl
end Go.Proofs.YtmlddafbenfilaaDoor
/- The document's words and numbers. -/
namespace Go.Proofs.YtmlddafbenfilaaDoor
open Go.Cam
set_option maxRecDepth 100000
end Go.Proofs.YtmlddafbenfilaaDoor
/- The document's line of an event. -/
namespace Go.Proofs.YtmlddafbenfilaaDoor
open Go.Cam
set_option maxRecDepth 100000
theorem wd_rows (e : Ev) : ∀ i, i < 8 → rowsOf 1 (wdL e) i = txR (wordsN e) i := fun i hi => by
  match i, hi with
  | 0, _ => rfl
  | 1, _ => rfl
  | 2, _ => rfl
  | 3, _ => rfl
  | 4, _ => rfl
  | 5, _ => rfl
  | 6, _ => rfl
  | 7, _ => rfl
theorem joinB_snoc : ∀ (ws : List (List Nat)) (w : List Nat), ws ≠ [] → joinB (ws ++ [w]) = joinB ws ++ 32 :: w
  | [], _, h => absurd rfl h
  | [x], w, _ => rfl
  | x :: y :: ws, w, _ => by
    have ih := joinB_snoc (y :: ws) w (by simp)
    show x ++ 32 :: joinB ((y :: ws) ++ [w]) = (x ++ 32 :: joinB (y :: ws)) ++ 32 :: w
    rw [ih, List.append_assoc]; rfl
theorem words_sum {e : Ev} (h : e.fit) : ((wordsN e).map (·.length)).sum ≤ 90000000000106 := by
  have a1 := itoaN_len h.ok.k1
  have a2 := itoaN_len h.ok.k2
  have a3 := itoaN_len h.ok.k3
  have a4 := itoaN_len h.ok.k4
  have a5 := itoaN_len h.ok.k5
  have a6 := quoteN_len e.path
  have a7 := quoteN_len e.name
  have a8 := quoteN_len e.data
  have b1 := h.l1
  have b2 := h.l2
  have b3 := h.l3
  simp only [wordsN, List.map_cons, List.map_nil, List.sum_cons, List.sum_nil]
  omega
theorem join_take {e : Ev} (h : e.fit) (k : Nat) : (joinB ((wordsN e).take k)).length ≤ 90000000000200 := by
  have h1 := joinB_len ((wordsN e).take k)
  have h2 := take_sum ((wordsN e).map (·.length)) k
  rw [← List.map_take] at h2
  have h3 := words_sum h
  have h4 : ((wordsN e).take k).length ≤ 8 := List.length_take_le' _ _
  omega
theorem word_len {e : Ev} (h : e.fit) (k : Nat) : ((wordsN e).getD k []).length ≤ 90000000000106 := by
  rw [List.getD_eq_getElem?_getD]
  cases hk : (wordsN e)[k]? with
  | none => simp
  | some w => exact Nat.le_trans (sum_mem (List.mem_map.2 ⟨w, List.mem_of_getElem? hk, rfl⟩)) (words_sum h)
theorem joinB_step (e : Ev) {i : Nat} (h1 : 1 ≤ i) (h2 : i < 8) : joinB ((wordsN e).take (i + 1)) = (joinB ((wordsN e).take i) ++ [32]) ++ (wordsN e).getD i [] := by
  have hl : i < (wordsN e).length := h2
  have e1 : (wordsN e).take (i + 1) = (wordsN e).take i ++ [(wordsN e).getD i []] := by
    rw [List.take_add_one, List.getElem?_eq_getElem hl, List.getD_eq_getElem?_getD, List.getElem?_eq_getElem hl]; rfl
  have hne : (wordsN e).take i ≠ [] := fun h => by
    have := congrArg List.length h
    rw [List.length_take, List.length_nil] at this
    omega
  rw [e1, joinB_snoc _ _ hne, List.append_assoc]; rfl
theorem dW_low {n : Nat} (h1 : 1 ≤ n) (h2 : n ≤ 5) : dW.getD (n - 1) [] = [48] := by
  match n, h1, h2 with
  | 1, _, _ => rfl
  | 2, _, _ => rfl
  | 3, _, _ => rfl
  | 4, _, _ => rfl
  | 5, _, _ => rfl
theorem dW_high {n : Nat} (h1 : 6 ≤ n) (h2 : n ≤ 8) : dW.getD (n - 1) [] = [34, 34] := by
  match n, h1, h2 with
  | 6, _, _ => rfl
  | 7, _, _ => rfl
  | 8, _, _ => rfl
set_option maxHeartbeats 32000000 in
theorem rline_c (e : Ev) (he : e.fit) {D : HP} {a : Option Addr} {c : Nat} [Rd D 1 (.slice a e.data.length c) e.data.length (byR e.data)] : Ctr Tryd.prog 31 [.agg (evL e a c).toArray] [GL, D] (fun v Bs => v = .string (strB (lineN e)) ∧ Bs = [D]) := by
  have hJ := join_take he
  have hWl := word_len he
  have hWb := getD_bys (wordsN_bys he.ok)
  have hb48 : Bys [48] := litb rfl
  have hb34 : Bys [34, 34] := litb rfl
  have hJl : ∀ n, cntW (wordsN e) dW 8 = n → joinB ((wordsN e).take n) = lineN e := fun n h => by unfold lineN; rw [h]
  refine s_enter 80 [(0, _)] (fun F => [_, _, F]) Tryd.func31 fun F => ?_
  refine gt_ ?_
  refine s_box fun r1 => ?_
  refine gt_ ?_
  apply s_join (α := Option Addr) (fun o => [(1, .pointer (some ⟨r1, 0, none⟩)), (3, .slice o 8 8), (4, .int .i64 ((8 : Nat) : Int))]) (fun o => [SA (some 9) 1 (.slice o 8 8) 8 (txR (wordsN e)), D, F]) (fun _ => True)
  case h =>
    intro K
    refine s_drawN 0 [.q 0, .q 1, .q 2, .q 3, .q 4, .q 5, .q 6, .q 7, .q 8, .q 9, .q 10, .q 11, .q 12, .q 13, .q 14, .q 15, .q 16, .q 19, .q 20, .q 23, .q 24, .alt2 17 18 21, .s 22, .q 25, .s 26, .q 27] ?_
    refine dt_ ?_
    refine d_call (ho := rfl) (v := .string (strB (itoaN e.kind))) (sp := spl_) (hs := itoa_c (n := e.kind) he.ok.k1) (hq := by rintro r Bs ⟨rfl, rfl⟩; exact ⟨rfl, (by first | ((try simp only [List.cons_append, List.nil_append]); (repeat (first | exact Ent.nil | refine Ent.per (by repeat (first | with_reducible exact Sel.here | with_reducible apply Sel.there)) ?_ | refine Ent.cons (by repeat (first | with_reducible exact Sel.here | with_reducible apply Sel.there)) ?_)); done) | ((repeat (first | rw [List.cons_append] | rw [List.nil_append])); (repeat (first | exact Ent.nil | refine Ent.per (by repeat (first | with_reducible exact Sel.here | with_reducible apply Sel.there)) ?_ | refine Ent.cons (by repeat (first | with_reducible exact Sel.here | with_reducible apply Sel.there)) ?_))))⟩) (h := ?_)
    refine dt_ ?_
    refine d_call (ho := rfl) (v := .string (strB (itoaN e.pid))) (sp := spl_) (hs := itoa_c (n := e.pid) he.ok.k2) (hq := by rintro r Bs ⟨rfl, rfl⟩; exact ⟨rfl, (by first | ((try simp only [List.cons_append, List.nil_append]); (repeat (first | exact Ent.nil | refine Ent.per (by repeat (first | with_reducible exact Sel.here | with_reducible apply Sel.there)) ?_ | refine Ent.cons (by repeat (first | with_reducible exact Sel.here | with_reducible apply Sel.there)) ?_)); done) | ((repeat (first | rw [List.cons_append] | rw [List.nil_append])); (repeat (first | exact Ent.nil | refine Ent.per (by repeat (first | with_reducible exact Sel.here | with_reducible apply Sel.there)) ?_ | refine Ent.cons (by repeat (first | with_reducible exact Sel.here | with_reducible apply Sel.there)) ?_))))⟩) (h := ?_)
    refine dt_ ?_
    refine d_call (ho := rfl) (v := .string (strB (itoaN e.fd))) (sp := spl_) (hs := itoa_c (n := e.fd) he.ok.k3) (hq := by rintro r Bs ⟨rfl, rfl⟩; exact ⟨rfl, (by first | ((try simp only [List.cons_append, List.nil_append]); (repeat (first | exact Ent.nil | refine Ent.per (by repeat (first | with_reducible exact Sel.here | with_reducible apply Sel.there)) ?_ | refine Ent.cons (by repeat (first | with_reducible exact Sel.here | with_reducible apply Sel.there)) ?_)); done) | ((repeat (first | rw [List.cons_append] | rw [List.nil_append])); (repeat (first | exact Ent.nil | refine Ent.per (by repeat (first | with_reducible exact Sel.here | with_reducible apply Sel.there)) ?_ | refine Ent.cons (by repeat (first | with_reducible exact Sel.here | with_reducible apply Sel.there)) ?_))))⟩) (h := ?_)
    refine dt_ ?_
    refine d_call (ho := rfl) (v := .string (strB (itoaN e.n))) (sp := spl_) (hs := itoa_c (n := e.n) he.ok.k4) (hq := by rintro r Bs ⟨rfl, rfl⟩; exact ⟨rfl, (by first | ((try simp only [List.cons_append, List.nil_append]); (repeat (first | exact Ent.nil | refine Ent.per (by repeat (first | with_reducible exact Sel.here | with_reducible apply Sel.there)) ?_ | refine Ent.cons (by repeat (first | with_reducible exact Sel.here | with_reducible apply Sel.there)) ?_)); done) | ((repeat (first | rw [List.cons_append] | rw [List.nil_append])); (repeat (first | exact Ent.nil | refine Ent.per (by repeat (first | with_reducible exact Sel.here | with_reducible apply Sel.there)) ?_ | refine Ent.cons (by repeat (first | with_reducible exact Sel.here | with_reducible apply Sel.there)) ?_))))⟩) (h := ?_)
    refine dt_ ?_
    refine d_call (ho := rfl) (v := .string (strB (itoaN e.m))) (sp := spl_) (hs := itoa_c (n := e.m) he.ok.k5) (hq := by rintro r Bs ⟨rfl, rfl⟩; exact ⟨rfl, (by first | ((try simp only [List.cons_append, List.nil_append]); (repeat (first | exact Ent.nil | refine Ent.per (by repeat (first | with_reducible exact Sel.here | with_reducible apply Sel.there)) ?_ | refine Ent.cons (by repeat (first | with_reducible exact Sel.here | with_reducible apply Sel.there)) ?_)); done) | ((repeat (first | rw [List.cons_append] | rw [List.nil_append])); (repeat (first | exact Ent.nil | refine Ent.per (by repeat (first | with_reducible exact Sel.here | with_reducible apply Sel.there)) ?_ | refine Ent.cons (by repeat (first | with_reducible exact Sel.here | with_reducible apply Sel.there)) ?_))))⟩) (h := ?_)
    refine dt_ ?_
    refine d_alt2 ?_ ?_
    · refine d_step rfl (st_s2R (s := e.path) he.ok.k6) ?_
      rintro v Bs ⟨rA, cA, rfl, rfl⟩
      refine dt_ ?_
      refine d_alt ?_ ?_
      · refine d_step rfl (st_call (sp := spl_) (hs := rquote_c (A := RO 5 rA e.path cA) (a := some ⟨rA, 0, none⟩) (n := e.path.length) (c := cA) e.path he.ok.k6 rfl he.l1)) ?_
        rintro v Bs ⟨Cs, ⟨rfl, rfl⟩, rfl⟩
        refine dt_ ?_
        refine d_step rfl (st_s2R (s := e.name) he.ok.k7) ?_
        rintro v Bs ⟨rB, cB, rfl, rfl⟩
        refine dt_ ?_
        refine d_step rfl (st_call (sp := spl_) (hs := rquote_c (A := RO 5 rB e.name cB) (a := some ⟨rB, 0, none⟩) (n := e.name.length) (c := cB) e.name he.ok.k7 rfl he.l2)) ?_
        rintro v Bs ⟨Cs, ⟨rfl, rfl⟩, rfl⟩
        refine dt_ ?_
        refine d_call (ho := rfl) (v := .string (strB (quoteN e.data))) (sp := spl_) (hs := rquote_c (A := D) (a := a) (n := e.data.length) (c := c) e.data he.ok.k8 rfl he.l3) (hq := by rintro r Bs ⟨rfl, rfl⟩; exact ⟨rfl, (by first | ((try simp only [List.cons_append, List.nil_append]); (repeat (first | exact Ent.nil | refine Ent.per (by repeat (first | with_reducible exact Sel.here | with_reducible apply Sel.there)) ?_ | refine Ent.cons (by repeat (first | with_reducible exact Sel.here | with_reducible apply Sel.there)) ?_)); done) | ((repeat (first | rw [List.cons_append] | rw [List.nil_append])); (repeat (first | exact Ent.nil | refine Ent.per (by repeat (first | with_reducible exact Sel.here | with_reducible apply Sel.there)) ?_ | refine Ent.cons (by repeat (first | with_reducible exact Sel.here | with_reducible apply Sel.there)) ?_))))⟩) (h := ?_)
        refine dt_ ?_
        refine d_step rfl (st_bs (sz := 1) (cells := wdL e) (by intro j; rfl)) ?_
        rintro v Bs ⟨o, rfl, rfl⟩
        refine dt_ ?_
        refine gt_ ?_
        refine s_open (SA.cg (txR (wordsN e)) (wd_rows e)) ?_
        exact s_entF ent_ (s_keep _ (K o trivial))
      · refine d_step rfl (st_s2R (s := e.name) he.ok.k7) ?_
        rintro v Bs ⟨rB, cB, rfl, rfl⟩
        refine dt_ ?_
        refine d_step rfl (st_call (sp := spl_) (hs := rquote_c (A := RO 5 rA e.path cA) (a := some ⟨rA, 0, none⟩) (n := e.path.length) (c := cA) e.path he.ok.k6 rfl he.l1)) ?_
        rintro v Bs ⟨Cs, ⟨rfl, rfl⟩, rfl⟩
        refine dt_ ?_
        refine d_step rfl (st_call (sp := spl_) (hs := rquote_c (A := RO 5 rB e.name cB) (a := some ⟨rB, 0, none⟩) (n := e.name.length) (c := cB) e.name he.ok.k7 rfl he.l2)) ?_
        rintro v Bs ⟨Cs, ⟨rfl, rfl⟩, rfl⟩
        refine dt_ ?_
        refine d_call (ho := rfl) (v := .string (strB (quoteN e.data))) (sp := spl_) (hs := rquote_c (A := D) (a := a) (n := e.data.length) (c := c) e.data he.ok.k8 rfl he.l3) (hq := by rintro r Bs ⟨rfl, rfl⟩; exact ⟨rfl, (by first | ((try simp only [List.cons_append, List.nil_append]); (repeat (first | exact Ent.nil | refine Ent.per (by repeat (first | with_reducible exact Sel.here | with_reducible apply Sel.there)) ?_ | refine Ent.cons (by repeat (first | with_reducible exact Sel.here | with_reducible apply Sel.there)) ?_)); done) | ((repeat (first | rw [List.cons_append] | rw [List.nil_append])); (repeat (first | exact Ent.nil | refine Ent.per (by repeat (first | with_reducible exact Sel.here | with_reducible apply Sel.there)) ?_ | refine Ent.cons (by repeat (first | with_reducible exact Sel.here | with_reducible apply Sel.there)) ?_))))⟩) (h := ?_)
        refine dt_ ?_
        refine d_step rfl (st_bs (sz := 1) (cells := wdL e) (by intro j; rfl)) ?_
        rintro v Bs ⟨o, rfl, rfl⟩
        refine dt_ ?_
        refine gt_ ?_
        refine s_open (SA.cg (txR (wordsN e)) (wd_rows e)) ?_
        exact s_entF ent_ (s_keep _ (K o trivial))
    · refine d_step rfl (st_s2R (s := e.name) he.ok.k7) ?_
      rintro v Bs ⟨rB, cB, rfl, rfl⟩
      refine dt_ ?_
      refine d_step rfl (st_s2R (s := e.path) he.ok.k6) ?_
      rintro v Bs ⟨rA, cA, rfl, rfl⟩
      refine dt_ ?_
      refine d_step rfl (st_call (sp := spl_) (hs := rquote_c (A := RO 5 rA e.path cA) (a := some ⟨rA, 0, none⟩) (n := e.path.length) (c := cA) e.path he.ok.k6 rfl he.l1)) ?_
      rintro v Bs ⟨Cs, ⟨rfl, rfl⟩, rfl⟩
      refine dt_ ?_
      refine d_step rfl (st_call (sp := spl_) (hs := rquote_c (A := RO 5 rB e.name cB) (a := some ⟨rB, 0, none⟩) (n := e.name.length) (c := cB) e.name he.ok.k7 rfl he.l2)) ?_
      rintro v Bs ⟨Cs, ⟨rfl, rfl⟩, rfl⟩
      refine dt_ ?_
      refine d_call (ho := rfl) (v := .string (strB (quoteN e.data))) (sp := spl_) (hs := rquote_c (A := D) (a := a) (n := e.data.length) (c := c) e.data he.ok.k8 rfl he.l3) (hq := by rintro r Bs ⟨rfl, rfl⟩; exact ⟨rfl, (by first | ((try simp only [List.cons_append, List.nil_append]); (repeat (first | exact Ent.nil | refine Ent.per (by repeat (first | with_reducible exact Sel.here | with_reducible apply Sel.there)) ?_ | refine Ent.cons (by repeat (first | with_reducible exact Sel.here | with_reducible apply Sel.there)) ?_)); done) | ((repeat (first | rw [List.cons_append] | rw [List.nil_append])); (repeat (first | exact Ent.nil | refine Ent.per (by repeat (first | with_reducible exact Sel.here | with_reducible apply Sel.there)) ?_ | refine Ent.cons (by repeat (first | with_reducible exact Sel.here | with_reducible apply Sel.there)) ?_))))⟩) (h := ?_)
      refine dt_ ?_
      refine d_step rfl (st_bs (sz := 1) (cells := wdL e) (by intro j; rfl)) ?_
      rintro v Bs ⟨o, rfl, rfl⟩
      refine dt_ ?_
      refine gt_ ?_
      refine s_open (SA.cg (txR (wordsN e)) (wd_rows e)) ?_
      exact s_entF ent_ (s_keep _ (K o trivial))
  case K =>
    rintro o _
    refine s_loop (fun n : Nat => [(1, .pointer (some ⟨r1, 0, none⟩)), (3, .slice o 8 8), (4, .int .i64 (n : Int))]) (fun _ => [SA (some 9) 1 (.slice o 8 8) 8 (txR (wordsN e)), D, F]) (fun n => 1 ≤ n ∧ n ≤ 8 ∧ cntW (wordsN e) dW 8 = cntW (wordsN e) dW n) (fun n => n) 8 ⟨by decide, by decide, rfl⟩ ent_ ?_
    rintro n ⟨hn1, hn8, hn⟩ next
    refine gt_ ?_
    cases hg : decide ((n : Int) > 1) with
    | false =>
      have hg2 := of_decide_eq_false hg
      have e1 : cntW (wordsN e) dW n = n := cntW_one _ _ _ (by omega)
      refine gt_ ?_
      refine s_look (lk_ixs (v := .slice o 8 8) (i := 0)) ?_
      refine s_look (lk_lde (v := .slice o 8 8) (u := .string (strB ((wordsN e).getD 0 [])))) ?_
      rw [show (wordsN e).getD 0 [] = joinB ((wordsN e).take 1) from rfl]
      refine gt_ ?_
      refine s_loop (fun i : Nat => [(3, .slice o 8 8), (4, .int .i64 (n : Int)), (5, .string (strB (joinB ((wordsN e).take i)))), (6, .int .i64 (i : Int))]) (fun _ => [SA (some 9) 1 (.slice o 8 8) 8 (txR (wordsN e)), D, F]) (fun i => 1 ≤ i ∧ i ≤ n) (fun i => n - i) 1 ⟨Nat.le_refl _, hn1⟩ ent_ ?_
      rintro i ⟨hi1, hi2⟩ next2
      have hJi := hJ i
      have hWi := hWl i
      refine gt_ ?_
      refine s_if (fun hlt => ?_) (fun hlt => ?_)
      · have hi3 : i < n := by omega
        refine gt_ ?_
        refine s_look (lk_cat (a := joinB ((wordsN e).take i)) (b := [32]) (by simp only [List.length_singleton]; omega)) ?_
        refine gt_ ?_
        try refine s_look (lk_cat (a := joinB ((wordsN e).take i) ++ [32]) (b := (wordsN e).getD i []) (by simp only [List.length_append, List.length_singleton]; omega)) ?_
        rw [← joinB_step e hi1 (by omega)]
        refine gt_ ?_
        exact s_entF ent_ (s_keep _ (next2 (i + 1) ⟨by omega, by omega⟩ (by omega)))
      · have hin : i = n := by omega
        subst hin
        rw [hJl _ (hn.trans e1)]
        refine gt_ ?_
        exact s_ret1 (rs := [.tmp 2]) Tryd.func31 rfl (by intro j; refine RVS.tmp _ rfl ?_; exact RVS.nil) (⟨rfl, rfl⟩) ent_
    | true =>
      have hg2 := of_decide_eq_true hg
      refine gt_ ?_
      cases hg5 : decide ((n : Int) ≤ 5) with
      | true =>
        have hg6 := of_decide_eq_true hg5
        have hlow := dW_low hn1 (by omega : n ≤ 5)
        refine gt_ ?_
        rw [show ((n : Int) - 1) = ((n - 1 : Nat) : Int) by omega]
        refine s_look (lk_ixs (v := .slice o 8 8) (i := n - 1)) ?_
        refine s_look (lk_lde (v := .slice o 8 8) (u := .string (strB ((wordsN e).getD (n - 1) [])))) ?_
        refine gt_ ?_
        rw [show ((strB ((wordsN e).getD (n - 1) [])).toList == (ByteArray.mk #[48]).toList) = decide ((wordsN e).getD (n - 1) [] = [48]) from strB_beq (hWb _) hb48]
        cases heq : decide ((wordsN e).getD (n - 1) [] = [48]) with
        | true =>
          have e1 : cntW (wordsN e) dW n = cntW (wordsN e) dW (n - 1) := by rw [cntW_step _ _ _ (by omega), hlow, if_pos (of_decide_eq_true heq)]
          refine gt_ ?_
          rw [show ((n : Int) - 1) = ((n - 1 : Nat) : Int) by omega]
          exact s_entF ent_ (s_keep _ (next (n - 1) ⟨by omega, by omega, hn.trans e1⟩ (by omega)))
        | false =>
          have e1 : cntW (wordsN e) dW n = n := by rw [cntW_step _ _ _ (by omega), hlow, if_neg (of_decide_eq_false heq)]
          refine gt_ ?_
          cases hx : decide ((n : Int) > 5) with
          | true => exact absurd (of_decide_eq_true hx) (by omega)
          | false =>
            refine gt_ ?_
            refine s_look (lk_ixs (v := .slice o 8 8) (i := 0)) ?_
            refine s_look (lk_lde (v := .slice o 8 8) (u := .string (strB ((wordsN e).getD 0 [])))) ?_
            rw [show (wordsN e).getD 0 [] = joinB ((wordsN e).take 1) from rfl]
            refine gt_ ?_
            refine s_loop (fun i : Nat => [(3, .slice o 8 8), (4, .int .i64 (n : Int)), (5, .string (strB (joinB ((wordsN e).take i)))), (6, .int .i64 (i : Int))]) (fun _ => [SA (some 9) 1 (.slice o 8 8) 8 (txR (wordsN e)), D, F]) (fun i => 1 ≤ i ∧ i ≤ n) (fun i => n - i) 1 ⟨Nat.le_refl _, hn1⟩ ent_ ?_
            rintro i ⟨hi1, hi2⟩ next2
            have hJi := hJ i
            have hWi := hWl i
            refine gt_ ?_
            refine s_if (fun hlt => ?_) (fun hlt => ?_)
            · have hi3 : i < n := by omega
              refine gt_ ?_
              refine s_look (lk_cat (a := joinB ((wordsN e).take i)) (b := [32]) (by simp only [List.length_singleton]; omega)) ?_
              refine gt_ ?_
              try refine s_look (lk_cat (a := joinB ((wordsN e).take i) ++ [32]) (b := (wordsN e).getD i []) (by simp only [List.length_append, List.length_singleton]; omega)) ?_
              rw [← joinB_step e hi1 (by omega)]
              refine gt_ ?_
              exact s_entF ent_ (s_keep _ (next2 (i + 1) ⟨by omega, by omega⟩ (by omega)))
            · have hin : i = n := by omega
              subst hin
              rw [hJl _ (hn.trans e1)]
              refine gt_ ?_
              exact s_ret1 (rs := [.tmp 2]) Tryd.func31 rfl (by intro j; refine RVS.tmp _ rfl ?_; exact RVS.nil) (⟨rfl, rfl⟩) ent_
      | false =>
        have hg6 := of_decide_eq_false hg5
        have hhigh := dW_high (by omega : 6 ≤ n) hn8
        refine gt_ ?_
        cases hx : decide ((n : Int) > 5) with
        | false => exact absurd (of_decide_eq_false hx) (by omega)
        | true =>
          refine gt_ ?_
          rw [show ((n : Int) - 1) = ((n - 1 : Nat) : Int) by omega]
          refine s_look (lk_ixs (v := .slice o 8 8) (i := n - 1)) ?_
          refine s_look (lk_lde (v := .slice o 8 8) (u := .string (strB ((wordsN e).getD (n - 1) [])))) ?_
          refine gt_ ?_
          rw [show ((strB ((wordsN e).getD (n - 1) [])).toList == (ByteArray.mk #[34, 34]).toList) = decide ((wordsN e).getD (n - 1) [] = [34, 34]) from strB_beq (hWb _) hb34]
          cases heq : decide ((wordsN e).getD (n - 1) [] = [34, 34]) with
          | true =>
            have e1 : cntW (wordsN e) dW n = cntW (wordsN e) dW (n - 1) := by rw [cntW_step _ _ _ (by omega), hhigh, if_pos (of_decide_eq_true heq)]
            refine gt_ ?_
            rw [show ((n : Int) - 1) = ((n - 1 : Nat) : Int) by omega]
            exact s_entF ent_ (s_keep _ (next (n - 1) ⟨by omega, by omega, hn.trans e1⟩ (by omega)))
          | false =>
            have e1 : cntW (wordsN e) dW n = n := by rw [cntW_step _ _ _ (by omega), hhigh, if_neg (of_decide_eq_false heq)]
            refine gt_ ?_
            refine s_look (lk_ixs (v := .slice o 8 8) (i := 0)) ?_
            refine s_look (lk_lde (v := .slice o 8 8) (u := .string (strB ((wordsN e).getD 0 [])))) ?_
            rw [show (wordsN e).getD 0 [] = joinB ((wordsN e).take 1) from rfl]
            refine gt_ ?_
            refine s_loop (fun i : Nat => [(3, .slice o 8 8), (4, .int .i64 (n : Int)), (5, .string (strB (joinB ((wordsN e).take i)))), (6, .int .i64 (i : Int))]) (fun _ => [SA (some 9) 1 (.slice o 8 8) 8 (txR (wordsN e)), D, F]) (fun i => 1 ≤ i ∧ i ≤ n) (fun i => n - i) 1 ⟨Nat.le_refl _, hn1⟩ ent_ ?_
            rintro i ⟨hi1, hi2⟩ next2
            have hJi := hJ i
            have hWi := hWl i
            refine gt_ ?_
            refine s_if (fun hlt => ?_) (fun hlt => ?_)
            · have hi3 : i < n := by omega
              refine gt_ ?_
              refine s_look (lk_cat (a := joinB ((wordsN e).take i)) (b := [32]) (by simp only [List.length_singleton]; omega)) ?_
              refine gt_ ?_
              try refine s_look (lk_cat (a := joinB ((wordsN e).take i) ++ [32]) (b := (wordsN e).getD i []) (by simp only [List.length_append, List.length_singleton]; omega)) ?_
              rw [← joinB_step e hi1 (by omega)]
              refine gt_ ?_
              exact s_entF ent_ (s_keep _ (next2 (i + 1) ⟨by omega, by omega⟩ (by omega)))
            · have hin : i = n := by omega
              subst hin
              rw [hJl _ (hn.trans e1)]
              refine gt_ ?_
              exact s_ret1 (rs := [.tmp 2]) Tryd.func31 rfl (by intro j; refine RVS.tmp _ rfl ?_; exact RVS.nil) (⟨rfl, rfl⟩) ent_
end Go.Proofs.YtmlddafbenfilaaDoor
