/- The document's event of a line. -/
import Derived.Test.YtmlddafbenfilaaDoorDskV
import Derived.Test.YtmlddafbenfilaaDoorDskG
import Derived.Deep.DeepHandedRow
namespace Go.Proofs.YtmlddafbenfilaaDoor
open Go.Cam
set_option maxRecDepth 100000
end Go.Proofs.YtmlddafbenfilaaDoor
/- The document's Parse. -/
namespace Go.Proofs.YtmlddafbenfilaaDoor
open Go.Cam
set_option maxRecDepth 100000
end Go.Proofs.YtmlddafbenfilaaDoor
/- Two rows of the same events are the same. -/
namespace Go.Proofs.YtmlddafbenfilaaDoor
open Go.Cam
set_option maxRecDepth 100000
end Go.Proofs.YtmlddafbenfilaaDoor
/- The law of quotes. -/
namespace Go.Proofs.YtmlddafbenfilaaDoor
open Go.Cam
set_option maxRecDepth 100000
theorem take_bys {b : List Nat} (h : Bys b) (n : Nat) : Bys (b.take n) := fun x hx => h x (List.mem_of_mem_take hx)
theorem byR_take (b : List Nat) (m : Nat) (i : Nat) (hi : i < m) (_ : m ≤ b.length) : byR b (0 + i) = byR (b.take m) i := by
  simp [byR, List.getD_eq_getElem?_getD, List.getElem?_take, hi]
end Go.Proofs.YtmlddafbenfilaaDoor
/- The law of scripts. -/
namespace Go.Proofs.YtmlddafbenfilaaDoor
open Go.Cam
set_option maxRecDepth 100000
end Go.Proofs.YtmlddafbenfilaaDoor
/- At most 60 events, with at most 300 bytes each. -/
namespace Go.Proofs.YtmlddafbenfilaaDoor
open Go.Cam
set_option maxRecDepth 100000
def cutE (e : Ev) : Ev := { e with data := e.data.take 300 }
def fewN (l : List Ev) : List Ev := (l.take 60).map cutE
theorem cut_snoc (l : List Ev) (i : Nat) (hi : i < l.length) : (l.take (i + 1)).map cutE = (l.take i).map cutE ++ [cutE (l.getD i ev0)] := by
  rw [List.take_add_one, List.getElem?_eq_getElem hi, List.getD_eq_getElem?_getD, List.getElem?_eq_getElem hi, List.map_append]; rfl
theorem few_len (l : List Ev) : (fewN l).length ≤ 60 := by
  unfold fewN
  rw [List.length_map, List.length_take]; omega
set_option maxHeartbeats 32000000 in
theorem few_c (l : List Ev) {a : Option Addr} {c : Nat} {w : Nat → Option Addr × Nat} {X : HP} [Rd X 8 (.slice a l.length c) l.length (evRow w l)] : Ctr Tryd.prog 15 [.slice a l.length c] [X, EvFam w l] (fun v Bs => ∃ a2 c2 w2, v = .slice a2 (fewN l).length c2 ∧ Bs = [SA (some 42) 8 (.slice a2 (fewN l).length c2) (fewN l).length (evRow w2 (fewN l)), EvFam w2 (fewN l)]) := by
  refine s_enter 34 [(0, _)] (fun F => [_, _, F]) Tryd.func15 fun F => ?_
  refine gt_ ?_
  refine s_bs0 (sz := 8) (row := evRow (fun _ => (none, 0)) []) fun a0 => ?_
  refine s_open (B := SA (some 42) 8 (.slice a0 ([] : List Ev).length 0) ([] : List Ev).length (evRow (fun _ => (none, 0)) [])) (fun _ _ h => h) ?_
  refine s_fam0 (F := EvOne (fun _ => (none, 0)) []) (s_open (B := EvFam (fun _ => (none, 0)) []) (fun _ _ h => h) ?_)
  refine gt_ ?_
  refine s_loop (fun y : Nat × List Ev × Option Addr × Nat × (Nat → Option Addr × Nat) => [(0, .slice a l.length c), (3, .slice y.2.2.1 y.2.1.length y.2.2.2.1), (4, .int .i64 (y.1 : Int))]) (fun y => [X, EvFam w l, SA (some 42) 8 (.slice y.2.2.1 y.2.1.length y.2.2.2.1) y.2.1.length (evRow y.2.2.2.2 y.2.1), EvFam y.2.2.2.2 y.2.1, F]) (fun y => y.1 ≤ l.length ∧ y.1 ≤ 60 ∧ y.2.1 = (l.take y.1).map cutE) (fun y => l.length - y.1) (0, [], a0, 0, fun _ => (none, 0)) ⟨Nat.zero_le _, Nat.zero_le _, rfl⟩ ent_ ?_
  rintro ⟨i, acc, a3, c3, w3⟩ ⟨hi, hi6, hacc⟩ next
  dsimp only at hi hi6 hacc
  show RunS _ _ _ _ _ [(0, .slice a l.length c), (3, .slice a3 acc.length c3), (4, .int .i64 (i : Int))] [X, EvFam w l, SA (some 42) 8 (.slice a3 acc.length c3) acc.length (evRow w3 acc), EvFam w3 acc, F]
  refine gt_ ?_
  cases h1 : decide ((i : Int) < (l.length : Int)) with
  | false =>
    have h2 := of_decide_eq_false h1
    have hfin : fewN l = acc := by unfold fewN; rw [hacc, List.take_of_length_le (by omega : l.length ≤ 60), List.take_of_length_le (by omega : l.length ≤ i)]
    rw [hfin]
    refine gt_ ?_
    exact s_ret1 (rs := [.tmp 2]) Tryd.func15 rfl (by intro j; refine RVS.tmp _ rfl ?_; exact RVS.nil) (⟨a3, c3, w3, rfl, rfl⟩) ent_
  | true =>
    have h2 := of_decide_eq_true h1
    refine gt_ ?_
    cases h3 : decide ((i : Int) < 60) with
    | false =>
      have h4 := of_decide_eq_false h3
      have hfin : fewN l = acc := by unfold fewN; rw [hacc, show i = 60 by omega]
      rw [hfin]
      refine gt_ ?_
      exact s_ret1 (rs := [.tmp 2]) Tryd.func15 rfl (by intro j; refine RVS.tmp _ rfl ?_; exact RVS.nil) (⟨a3, c3, w3, rfl, rfl⟩) ent_
    | true =>
      have h4 := of_decide_eq_true h3
      have h3n : i < l.length := by omega
      have hal : acc.length ≤ 60 := by rw [hacc, List.length_map, List.length_take]; omega
      have hsn := cut_snoc l i h3n
      rw [← hacc] at hsn
      refine s_dup (a := EvFam w l) sel_ (s_open (B := SA none 1 (.slice (w i).1 (l.getD i ev0).data.length (w i).2) (l.getD i ev0).data.length (byR (l.getD i ev0).data)) (Fam.get h3n) ?_)
      refine gt_ ?_
      refine s_look (lk_ldeN (sz := 8) (fo := 0) (n := l.length) (i := i) (v := .slice a l.length c) (vs := evL (l.getD i ev0) (w i).1 (w i).2) (s := (by repeat (first | with_reducible exact SelR.here | with_reducible apply SelR.there))) (hv := ⟨rfl⟩)) ?_
      refine gt_ ?_
      refine s_alloc fun r5 => ?_
      generalize l.getD i ev0 = e at *
      generalize w i = q at *
      obtain ⟨ae, ce⟩ := q
      dsimp only
      refine gt_ ?_
      cases h5 : decide ((e.data.length : Int) > 300) with
      | false =>
        have h6 := of_decide_eq_false h5
        have hcut : cutE e = e := by unfold cutE; rw [List.take_of_length_le (by omega)]
        rw [hcut] at hsn
        refine gt_ ?_
        refine s_step (st_bs1 (sz := 8) (cells := evL e ae ce) rfl) ?_
        rintro v Bs ⟨a2, rfl, rfl⟩
        refine gt_ ?_
        refine s_app (a := a3) (len := acc.length) (cap := c3) (b := a2) (m := 1) (c := 1) sel_ (by repeat (first | with_reducible exact SelR.here | with_reducible apply SelR.there)) (by rw [flat_one]; rfl) (fun a4 c4 => ?_)
        refine s_open (SA.cg (evRow (wput w3 acc.length (ae, ce)) (acc ++ [e])) fun i hi => evRow_snoc i hi) ?_
        refine s_front (a := SA none 1 (.slice ae e.data.length ce) e.data.length (byR e.data)) sel_ (s_open (B := EvOne (wput w3 acc.length (ae, ce)) (acc ++ [e]) acc.length) evFam_new ?_)
        refine s_front (a := EvFam w3 acc) sel_ (s_open (B := Fam acc.length (EvOne (wput w3 acc.length (ae, ce)) (acc ++ [e]))) (Fam.cg _ fun i hi => evFam_old i hi) ?_)
        refine s_famS (m := acc.length) (F := EvOne (wput w3 acc.length (ae, ce)) (acc ++ [e])) sel_ sel_ ?_
        rw [show acc.length + 1 = (acc ++ [e]).length by simp]
        refine gt_ ?_
        exact s_entF ent_ (s_keep _ (next (i + 1, acc ++ [e], a4, c4, wput w3 acc.length (ae, ce)) ⟨h3n, by show i + 1 ≤ 60; omega, hsn.symm⟩ (by show l.length - (i + 1) < l.length - i; omega)))
      | true =>
        have h6 := of_decide_eq_true h5
        have hl3 : (cutE e).data.length = 300 := by show (e.data.take 300).length = 300; rw [List.length_take]; omega
        refine gt_ ?_
        refine s_know (a := SA none 1 (.slice ae e.data.length ce) e.data.length (byR e.data)) sel_ (rd_pure (a := ae) (n := e.data.length) (c := ce) (row := byR e.data)) fun hcap => ?_
        refine s_look (lk_slv 0 300 (.slice (sladdr ae 1 0 ce) 300 (ce - 0)) (len := e.data.length) (cap := ce) (a := ae) (hh := by have := hcap.1; omega)) ?_
        refine s_part 0 300 (by decide) (by omega) (a := ae) (cap := ce) (m := e.data.length) sel_ ?_
        refine s_open (B := SA none 1 (.slice (sladdr ae 1 0 ce) (cutE e).data.length (ce - 0)) (cutE e).data.length (byR (cutE e).data)) (fun H M h => by rw [hl3]; exact SA.cg (byR (e.data.take 300)) (fun i hi => byR_take e.data 300 i hi (by omega)) H M h) ?_
        refine gt_ ?_
        rw [show (Value.slice (sladdr ae 1 0 ce) 300 (ce - 0)) = Value.slice (sladdr ae 1 0 ce) (cutE e).data.length (ce - 0) by rw [hl3]]
        refine s_step (st_bs1 (sz := 8) (cells := evL (cutE e) (sladdr ae 1 0 ce) (ce - 0)) rfl) ?_
        rintro v Bs ⟨a2, rfl, rfl⟩
        refine gt_ ?_
        refine s_app (a := a3) (len := acc.length) (cap := c3) (b := a2) (m := 1) (c := 1) sel_ (by repeat (first | with_reducible exact SelR.here | with_reducible apply SelR.there)) (by rw [flat_one]; rfl) (fun a4 c4 => ?_)
        refine s_open (SA.cg (evRow (wput w3 acc.length (sladdr ae 1 0 ce, ce - 0)) (acc ++ [cutE e])) fun i hi => evRow_snoc i hi) ?_
        refine s_front (a := SA none 1 (.slice (sladdr ae 1 0 ce) (cutE e).data.length (ce - 0)) (cutE e).data.length (byR (cutE e).data)) sel_ (s_open (B := EvOne (wput w3 acc.length (sladdr ae 1 0 ce, ce - 0)) (acc ++ [cutE e]) acc.length) evFam_new ?_)
        refine s_front (a := EvFam w3 acc) sel_ (s_open (B := Fam acc.length (EvOne (wput w3 acc.length (sladdr ae 1 0 ce, ce - 0)) (acc ++ [cutE e]))) (Fam.cg _ fun i hi => evFam_old i hi) ?_)
        refine s_famS (m := acc.length) (F := EvOne (wput w3 acc.length (sladdr ae 1 0 ce, ce - 0)) (acc ++ [cutE e])) sel_ sel_ ?_
        rw [show acc.length + 1 = (acc ++ [cutE e]).length by simp]
        refine gt_ ?_
        exact s_entF ent_ (s_keep _ (next (i + 1, acc ++ [cutE e], a4, c4, wput w3 acc.length (sladdr ae 1 0 ce, ce - 0)) ⟨h3n, by show i + 1 ≤ 60; omega, hsn.symm⟩ (by show l.length - (i + 1) < l.length - i; omega)))
end Go.Proofs.YtmlddafbenfilaaDoor
/- Both Prints. -/
namespace Go.Proofs.YtmlddafbenfilaaDoor
open Go.Cam
set_option maxRecDepth 100000
theorem print_snoc (l : List Ev) (i : Nat) (hi : i < l.length) : printN (l.take (i + 1)) = printN (l.take i) ++ (lineN (l.getD i ev0) ++ [10]) := by
  unfold printN
  rw [List.take_add_one, List.getElem?_eq_getElem hi, List.getD_eq_getElem?_getD, List.getElem?_eq_getElem hi, List.flatMap_append]
  simp
theorem print_take (l : List Ev) (i : Nat) : (printN (l.take i)).length ≤ (printN l).length := by
  have h : printN l = printN (l.take i) ++ printN (l.drop i) := by
    unfold printN
    rw [← List.flatMap_append, List.take_append_drop]
  rw [h, List.length_append]; omega
theorem print_bys {l : List Ev} (h : ∀ e ∈ l, e.fit) : Bys (printN l) := fun x hx => by
  obtain ⟨e, he, hx⟩ := List.mem_flatMap.1 hx
  rcases List.mem_append.1 hx with hx | hx
  · exact lineN_bys (h e he).ok x hx
  · rw [List.mem_singleton.1 hx]; decide
theorem fit_get {l : List Ev} (h : ∀ e ∈ l, e.fit) {i : Nat} (hi : i < l.length) : (l.getD i ev0).fit := by
  rw [List.getD_eq_getElem?_getD, List.getElem?_eq_getElem hi]
  exact h _ (List.getElem_mem hi)
set_option maxHeartbeats 32000000 in
theorem print_c (l : List Ev) (hf : ∀ e ∈ l, e.fit) (hn : l.length ≤ 4096) (hp : (printN l).length ≤ 10000000000) {a : Option Addr} {c : Nat} {w : Nat → Option Addr × Nat} {X : HP} [Rd X 8 (.slice a l.length c) l.length (evRow w l)] : Ctr Tryd.prog 16 [.slice a l.length c] [GL, X, EvFam w l] (fun v Bs => v = .tuple #[.string (strB (printN l)), .int .i64 0] ∧ Bs = [X, EvFam w l]) := by
  have hpb := print_bys hf
  refine s_enter 22 [(0, _)] (fun F => [_, _, _, F]) Tryd.func16 fun F => ?_
  refine gt_ ?_
  cases h1 : decide ((l.length : Int) > 4096) with
  | true => exact absurd (of_decide_eq_true h1) (by omega)
  | false =>
    refine gt_ ?_
    refine s_alloc fun r4 => ?_
    refine s_sb0 (b := r4) sel_ ?_
    refine s_open (B := SB r4 (printN (l.take 0))) (fun _ _ h => h) ?_
    refine gt_ ?_
    refine s_loop (fun i : Nat => [(4, .pointer (some ⟨r4, 0, none⟩)), (10, .slice a l.length c), (11, .int .i64 (l.length : Int)), (12, .int .i64 (i : Int))]) (fun i => [GL, X, EvFam w l, SB r4 (printN (l.take i)), F]) (fun i => i ≤ l.length) (fun i => l.length - i) 0 (Nat.zero_le _) ent_ ?_
    rintro i hi next
    have hpt := print_take l i
    have hpt2 := print_take l (i + 1)
    refine gt_ ?_
    refine s_if (fun hlt => ?_) (fun hlt => ?_)
    · have h3 : i < l.length := by omega
      have hfe := fit_get hf h3
      have hlb := lineN_bys hfe.ok
      have hsn := print_snoc l i h3
      rw [hsn] at hpt2
      simp only [List.length_append, List.length_singleton] at hpt2
      refine s_dup (a := EvFam w l) sel_ (s_open (B := SA none 1 (.slice (w i).1 (l.getD i ev0).data.length (w i).2) (l.getD i ev0).data.length (byR (l.getD i ev0).data)) (Fam.get h3) ?_)
      refine gt_ ?_
      refine s_look (lk_ldeN (sz := 8) (fo := 0) (n := l.length) (i := i) (v := .slice a l.length c) (vs := evL (l.getD i ev0) (w i).1 (w i).2) (s := (by repeat (first | with_reducible exact SelR.here | with_reducible apply SelR.there))) (hv := ⟨rfl⟩)) ?_
      refine gt_ ?_
      refine s_alloc fun r6 => ?_
      generalize l.getD i ev0 = e at *
      refine gt_ ?_
      refine s_call (sp := spl_) (hs := line_c e hfe (D := SA none 1 (.slice (w i).1 e.data.length (w i).2) e.data.length (byR e.data)) (a := (w i).1) (c := (w i).2)) (h := ?_)
      rintro v Bs ⟨rfl, rfl⟩
      refine gt_ ?_
      try refine s_look (lk_cat (a := lineN e) (b := [10]) (by simp only [List.length_singleton]; omega)) ?_
      refine gt_ ?_
      have hb10 : Bys (lineN e ++ [10]) := fun x hx => by
        rcases List.mem_append.1 hx with hx | hx
        · exact hlb x hx
        · rw [List.mem_singleton.1 hx]; decide
      refine s_call (sp := spl_) (hs := sstr_c r4 (printN (l.take i)) (lineN e ++ [10]) hb10 (by simp) (by rw [List.length_append, List.length_singleton]; omega)) (h := ?_)
      rintro v Bs ⟨rfl, rfl⟩
      rw [← hsn]
      refine gt_ ?_
      exact s_entF ent_ (s_keep _ (next (i + 1) (by show i + 1 ≤ l.length; omega) (by show l.length - (i + 1) < l.length - i; omega)))
    · have hil : l.take i = l := List.take_of_length_le (by omega)
      rw [hil]
      refine gt_ ?_
      refine s_call (sp := spl_) (hs := string_c r4 (printN l) hpb (by omega)) (h := ?_)
      rintro v Bs ⟨rfl, rfl⟩
      refine gt_ ?_
      exact s_rett (rs := [.tmp 2, .tmp 3]) (vs := [_, _]) Tryd.func16 rfl (by intro j; refine RVS.tmp _ rfl ?_; refine RVS.tmp _ rfl ?_; exact RVS.nil) rfl (⟨rfl, rfl⟩) ent_
set_option maxHeartbeats 32000000 in
theorem rprint_c (l : List Ev) (hf : ∀ e ∈ l, e.fit) (hn : l.length ≤ 4096) (hp : (printN l).length ≤ 10000000000) {a : Option Addr} {c : Nat} {w : Nat → Option Addr × Nat} {X : HP} [Rd X 8 (.slice a l.length c) l.length (evRow w l)] : Ctr Tryd.prog 17 [.slice a l.length c] [GL, X, EvFam w l] (fun v Bs => v = .tuple #[.string (strB (printN l)), .int .i64 0] ∧ Bs = [X, EvFam w l]) := by
  have hpb := print_bys hf
  refine s_enter 24 [(0, _)] (fun F => [_, _, _, F]) Tryd.func17 fun F => ?_
  refine gt_ ?_
  cases h1 : decide ((l.length : Int) > 4096) with
  | true => exact absurd (of_decide_eq_true h1) (by omega)
  | false =>
    refine gt_ ?_
    refine s_loop (fun i : Nat => [(0, .slice a l.length c), (4, .string (strB (printN (l.take i)))), (5, .int .i64 (i : Int))]) (fun i => [GL, X, EvFam w l, F]) (fun i => i ≤ l.length) (fun i => l.length - i) 0 (Nat.zero_le _) ent_ ?_
    rintro i hi next
    have hpt := print_take l i
    have hpt2 := print_take l (i + 1)
    refine gt_ ?_
    refine s_if (fun hlt => ?_) (fun hlt => ?_)
    · have h3 : i < l.length := by omega
      have hfe := fit_get hf h3
      have hlb := lineN_bys hfe.ok
      have hsn := print_snoc l i h3
      rw [hsn] at hpt2
      simp only [List.length_append, List.length_singleton] at hpt2
      refine s_dup (a := EvFam w l) sel_ (s_open (B := SA none 1 (.slice (w i).1 (l.getD i ev0).data.length (w i).2) (l.getD i ev0).data.length (byR (l.getD i ev0).data)) (Fam.get h3) ?_)
      refine gt_ ?_
      refine s_look (lk_ldeN (sz := 8) (fo := 0) (n := l.length) (i := i) (v := .slice a l.length c) (vs := evL (l.getD i ev0) (w i).1 (w i).2) (s := (by repeat (first | with_reducible exact SelR.here | with_reducible apply SelR.there))) (hv := ⟨rfl⟩)) ?_
      generalize l.getD i ev0 = e at *
      refine gt_ ?_
      refine s_call (sp := spl_) (hs := rline_c e hfe (D := SA none 1 (.slice (w i).1 e.data.length (w i).2) e.data.length (byR e.data)) (a := (w i).1) (c := (w i).2)) (h := ?_)
      rintro v Bs ⟨rfl, rfl⟩
      refine gt_ ?_
      try refine s_look (lk_cat (a := printN (l.take i)) (b := lineN e) (by omega)) ?_
      refine gt_ ?_
      try refine s_look (lk_cat (a := printN (l.take i) ++ lineN e) (b := [10]) (by simp only [List.length_append, List.length_singleton]; omega)) ?_
      rw [List.append_assoc, ← hsn]
      refine gt_ ?_
      exact s_entF ent_ (s_keep _ (next (i + 1) (by show i + 1 ≤ l.length; omega) (by show l.length - (i + 1) < l.length - i; omega)))
    · have hil : l.take i = l := List.take_of_length_le (by omega)
      rw [hil]
      refine gt_ ?_
      exact s_rett (rs := [.tmp 2, .tmp 3]) (vs := [_, _]) Tryd.func17 rfl (by intro j; refine RVS.tmp _ rfl ?_; refine RVS.tmp _ rfl ?_; exact RVS.nil) rfl (⟨rfl, rfl⟩) ent_
end Go.Proofs.YtmlddafbenfilaaDoor
/- What was written is read as it was, and what was read is written as it was: the law. -/
namespace Go.Proofs.YtmlddafbenfilaaDoor
open Go.Cam
set_option maxRecDepth 100000
/-- an event of a size that a machine may hold -/
structure Ev.small (e : Ev) : Prop where
  ok : e.ok
  l1 : e.path.length ≤ 1048576
  l2 : e.name.length ≤ 1048576
  l3 : e.data.length ≤ 1048576
theorem few_small {l : List Ev} (h : ∀ e ∈ l, e.small) : ∀ e ∈ fewN l, e.small := fun e he => by
  obtain ⟨x, hx, rfl⟩ := List.mem_map.1 he
  have q := h x (List.mem_of_mem_take hx)
  refine ⟨⟨q.ok.k1, q.ok.k2, q.ok.k3, q.ok.k4, q.ok.k5, q.ok.k6, q.ok.k7, take_bys q.ok.k8 300⟩, q.l1, q.l2, ?_⟩
  have := q.l3
  show (x.data.take 300).length ≤ _
  rw [List.length_take]; omega
theorem small_fit {e : Ev} (h : e.small) : e.fit := ⟨h.ok, by have := h.l1; omega, by have := h.l2; omega, by have := h.l3; omega⟩
theorem print_small : ∀ {l : List Ev}, (∀ e ∈ l, e.small) → (printN l).length ≤ l.length * 10000000
  | [], _ => Nat.zero_le _
  | e :: l, h => by
    have ih := print_small (l := l) fun x hx => h x (List.mem_cons_of_mem _ hx)
    have q := h e (List.mem_cons_self ..)
    have q0 := lineN_len q.ok
    have q1 := q.l1
    have q2 := q.l2
    have q3 := q.l3
    show ((lineN e ++ [10]) ++ printN l).length ≤ _
    rw [List.length_append, List.length_append, List.length_singleton, List.length_cons]
    omega
end Go.Proofs.YtmlddafbenfilaaDoor
/- Events that are handed in, of a bounded bulk. -/
namespace Go.Proofs.YtmlddafbenfilaaDoor
open Go.Cam Go.ChangeShapes Go.WideShapes Go.ChangeAt Go.RowKit
set_option maxRecDepth 100000
theorem bulk_in {H : Type} {d : DataW H} : ∀ {l : List (DataW H)}, d ∈ l → Rows.uptoBulk d ≤ Rows.uptoBulkAll l
  | [], h => by cases h
  | x :: r, h => by
    simp only [Rows.uptoBulkAll]
    rcases List.mem_cons.1 h with e | e
    · subst e; omega
    · have := bulk_in e; omega
theorem bulk_len {H : Type} : ∀ (l : List (DataW H)), l.length ≤ Rows.uptoBulkAll l
  | [] => Nat.zero_le _
  | x :: r => by
    have ih := bulk_len r
    have h1 : 1 ≤ Rows.uptoBulk x := by
      cases x with
      | lit v => cases v <;> simp [Rows.uptoBulk]
      | _ => simp [Rows.uptoBulk]
    simp only [Rows.uptoBulkAll, List.length_cons]; omega
theorem bulk_wt {H : Type} : Wt (H := H) Rows.uptoBulk where
  str b := by simp [Rows.uptoBulk]
  agg l d h := by
    have := bulk_in h
    simp only [Rows.uptoBulk]; omega
  sl l r := by
    have : ∀ (l : List (DataW H)), (l.map Rows.uptoBulk).sum = Rows.uptoBulkAll l := fun l => by
      induction l with
      | nil => rfl
      | cons x l ih => rw [List.map_cons, List.sum_cons, ih]; rfl
    rw [this]
    simp only [Rows.uptoBulk]; omega
  len l r := by
    have h1 := bulk_len l
    have h2 := bulk_len r
    simp only [Rows.uptoBulk]; omega
abbrev evSh : Sh := .cat (.int .i64) (.cat (.int .i64) (.cat (.int .i64) (.cat (.int .i64) (.cat (.int .i64) (.cat .str (.cat .str (.cat (.slice 1 (.int .u8)) .emp)))))))
instance : Inhabited Ev := ⟨ev0⟩
theorem ev_of {Hp : Heap} {B : Nat} {cs : List Value} (hB : B ≤ 1048576) (h : evSh.okB Hp B cs) : ∃ (y : Ev × Option Addr × Nat), cs = evL y.1 y.2.1 y.2.2 ∧ y.1.small ∧ ∀ M, (SA none 1 (.slice y.2.1 y.1.data.length y.2.2) y.1.data.length (byR y.1.data)).p Hp M := by
  obtain ⟨_, _, rfl, ⟨n0, rfl, h0⟩, h⟩ := h
  obtain ⟨_, _, rfl, ⟨n1, rfl, h1⟩, h⟩ := h
  obtain ⟨_, _, rfl, ⟨n2, rfl, h2⟩, h⟩ := h
  obtain ⟨_, _, rfl, ⟨n3, rfl, h3⟩, h⟩ := h
  obtain ⟨_, _, rfl, ⟨n4, rfl, h4⟩, h⟩ := h
  obtain ⟨_, _, rfl, ⟨s5, rfl, h5⟩, h⟩ := h
  obtain ⟨_, _, rfl, ⟨s6, rfl, h6⟩, h⟩ := h
  obtain ⟨_, _, rfl, h7, h⟩ := h
  have he : _ = [] := h
  subst he
  obtain ⟨a, c, d, rfl, hd, hl, hM⟩ := Sh.bytesB h7
  refine ⟨(⟨n0, n1, n2, n3, n4, s5.data.toList.map UInt8.toNat, s6.data.toList.map UInt8.toNat, d⟩, a, c), ?_, ⟨⟨wf_i64 h0, wf_i64 h1, wf_i64 h2, wf_i64 h3, wf_i64 h4, str_bys s5, str_bys s6, hd⟩, ?_, ?_, ?_⟩, hM⟩
  · show _ = ([.int .i64 n0, .int .i64 n1, .int .i64 n2, .int .i64 n3, .int .i64 n4, .string (strB (s5.data.toList.map UInt8.toNat)), (.string (strB (s6.data.toList.map UInt8.toNat))), .slice a d.length c] : List Value)
    rw [← str_list s5, ← str_list s6]; rfl
  · show (s5.data.toList.map UInt8.toNat).length ≤ _
    rw [str_len]; omega
  · show (s6.data.toList.map UInt8.toNat).length ≤ _
    rw [str_len]; omega
  · show d.length ≤ _
    omega
theorem evs_of {Hp : Heap} {B : Nat} {cs : List Value} (hB : B ≤ 1048576) (h : (Sh.slice 8 evSh).okB Hp B cs) : ∃ a c l w, cs = [.slice a (List.length l) c] ∧ (∀ e ∈ l, Ev.small e) ∧ (∀ M, (SA none 8 (.slice a l.length c) l.length (evRow w l)).p Hp M) ∧ ∀ M, (EvFam w l).p Hp M := by
  obtain ⟨a, len, cap, row, rfl, h1, h2, h3, b, hb, h4⟩ := h
  obtain ⟨l, rfl, hl⟩ := list_choose (α := Ev × Option Addr × Nat) (φ := fun i y => row i = evL y.1 y.2.1 y.2.2 ∧ y.1.small ∧ ∀ M, (SA none 1 (.slice y.2.1 y.1.data.length y.2.2) y.1.data.length (byR y.1.data)).p Hp M) len fun i hi => ev_of (Nat.le_trans (Nat.le_trans (range_ge b hi) hb) hB) (h4 i hi)
  have hg : ∀ i, i < l.length → (l.map (·.1)).getD i ev0 = (l.getD i default).1 := fun i hi => by
    simp [List.getD_eq_getElem?_getD, hi]
  refine ⟨a, cap, l.map (·.1), fun i => (l.getD i default).2, by rw [List.length_map], fun e he => ?_, fun M => ?_, fun M i hi => ?_⟩
  · obtain ⟨y, hy, rfl⟩ := List.mem_map.1 he
    obtain ⟨i, hi, rfl⟩ := List.mem_iff_getElem.1 hy
    have := (hl i hi).2.1
    rwa [List.getD_eq_getElem?_getD, List.getElem?_eq_getElem hi, Option.getD_some] at this
  · rw [List.length_map]
    refine SA.cg _ (fun i hi => ?_) Hp M (h3 M)
    show _ = evL ((l.map (·.1)).getD i ev0) _ _
    rw [hg i hi]; exact (hl i hi).1
  · rw [List.length_map] at hi
    unfold EvOne
    rw [hg i hi]
    exact (hl i hi).2.2 M
/-- there is an input that fits -/
theorem upto_witness {H : Type} {enc : TypeId × Value → H} {os : Os} {f : FuncId} {fn : Func} {s : OpenSpec} {args : Array Value}
    (hok : Input.okWideB Tryd.checked.prog ((World.laidAll Tryd.prog os laidL).forCall (fun _ _ => 0) ⟨#[], args, []⟩) f ⟨#[], args, []⟩ = true)
    (hrow : s.preRow enc Tryd.prog fn [] false laidL ((World.laidAll Tryd.prog os laidL).forCall (fun _ _ => 0) ⟨#[], args, []⟩).memory args) :
    ∃ (w : World) (tape : Tape) (i : Input), w.os = os ∧ (w.forCall tape i).Shaped Tryd.checked.prog ∧ i.vars = [] ∧ Input.okWide Tryd.checked.prog (w.forCall tape i) .any w.heap.size f i ∧
      s.preRow enc Tryd.checked.prog fn [] false laidL (w.forCall tape i).memory i.args ∧ ({} : Assume).holds Tryd.checked.prog (lone (Frame.enter Tryd.checked.prog f i.args .normal) [] (w.forCall tape i)) :=
  ⟨World.laidAll Tryd.prog os laidL, fun _ _ => 0, ⟨#[], args, []⟩, World.laidAll_os _ _ _, World.shaped_of_ZipB (by kernel_rfl) (by kernel_rfl), (Input.okWide_of_okWideB (base := 0) hok).1, (Input.okWide_of_okWideB hok).2, hrow, by
    simp only [Assume.holds]
    exact ⟨by simp, by simp, fun _ => Modest.zero, by simp, by simp⟩⟩
end Go.Proofs.YtmlddafbenfilaaDoor
