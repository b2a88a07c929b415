/- The reference's Seek. -/
import Derived.Test.YtgbbcpfnmkeijaaCamAN
import Derived.Test.YtgbbcpfnmkeijaaFindBL
namespace Go.Proofs.Ytgbbcpfnmkeijaa
open Go.Cam
set_option maxRecDepth 100000
theorem rise_lt {l : List Key} (h : KeysRise l) {i : Nat} : ∀ {j : Nat}, i < j → j < l.length → (l.getD i default).lt (l.getD j default) = true
  | j + 1, hij, hj => by
    have h1 := (h (j + 1) hj).2 (by omega)
    rw [Nat.add_sub_cancel] at h1
    by_cases e : i = j
    · subst e; exact h1
    · exact Key.trans (rise_lt h (show i < j by omega) (by omega)) h1
theorem nodeOk_rise {x : Node} (h : nodeOk x = true) (h0 : x.level ≠ 0) : KeysRise (x.kids.map Kid.key) := by
  unfold nodeOk at h; rw [if_neg h0] at h
  simp only [Bool.and_eq_true, decide_eq_true_eq] at h; exact h.2
/-- in a node that is in order the kids' keys that are not above a key are the first ones -/
theorem seek_last {x : Node} (k : Key) (h : nodeOk x = true) (h0 : x.level ≠ 0) (i : Nat) (hi : i < x.kids.length) : (!(k.lt (x.kids.getD i default).key)) = decide (i < seekN (fun i => !(k.lt (x.kids.getD i default).key)) x.kids.length 0) := by
  obtain ⟨h1, h2, h3⟩ := seekN_spec (fun i => !(k.lt (x.kids.getD i default).key)) x.kids.length 0
  have hle := seekN_le (fun i => !(k.lt (x.kids.getD i default).key)) x.kids.length 0
  generalize hz : seekN (fun i => !(k.lt (x.kids.getD i default).key)) x.kids.length 0 = z at *
  by_cases e : i < z
  · rw [decide_eq_true e]; exact h2 i (by omega) e
  · rw [decide_eq_false e]
    have h4 := h3 (by omega)
    by_cases e2 : i = z
    · subst e2; exact h4
    · have hr := rise_lt (nodeOk_rise h h0) (show z < i by omega) (by simpa using hi)
      have g1 : ∀ j, j < x.kids.length → (x.kids.map Kid.key).getD j default = (x.kids.getD j default).key := fun j hj => by simp [List.getD_eq_getElem?_getD, hj]
      rw [g1 z (by omega), g1 i hi] at hr
      simp only [Bool.not_eq_false'] at h4 ⊢
      exact Key.trans h4 hr
set_option maxHeartbeats 16000000 in
theorem rseek_c (x : Node) (u : Plc) (k : Key) (hx : x.small) (hok : nodeOk x = true) : Ctr Try.prog 23 [ndV x u, k.v] [Nd1 x u, Nd3 x u] (fun v Bs => v = .tuple #[.int .i64 (seekX x k : Nat), .bool (seekHit x k)] ∧ Bs = []) := by
  have hl := nkeys_len x
  have h1 := hx.i
  have h2 := hx.k
  refine s_enter 69 [(0, _), (1, _)] (fun F => [_, _, F]) Try.func23 fun F => ?_
  refine go_ ?_
  refine s_box fun r2 => ?_
  refine s_box fun r3 => ?_
  refine go_ ?_
  refine s_call (sp := (by repeat (first | exact Split.nil | apply Split.perx (by repeat (first | with_reducible exact Sel.here | with_reducible apply Sel.there)) (by infer_instance) | apply Split.cons (by repeat (first | with_reducible exact Sel.here | with_reducible apply Sel.there))))) (hs := rkeys_c x u hx) (h := ?_)
  rintro v Bs ⟨a, c, rfl, rfl⟩
  refine go_ ?_
  refine s_ieq (fun h0 => ?_) (fun h0 => ?_)
  · obtain ⟨i1, i2, i3⟩ := nodeOk_items hok h0
    have hn : (nkeys x).length = x.items.length := by omega
    rw [hn]
    refine s_open (SO.cg (fun i => (x.items.getD i default).key.row) fun q hq => by unfold keyR; rw [nkeys_i x hq]) ?_
    have hs : seekX x k = seekN (fun i => (x.items.getD i default).key.lt k) x.items.length 0 := by unfold seekX; rw [if_pos h0]
    refine go_ ?_
    apply s_join (α := Nat) (fun q => [(3, .pointer (some ⟨r3, 0, none⟩)), (6, .slice a x.items.length c), (7, .int .i64 (q : Nat))])
      (fun _ => [SO 27 3 (.slice a x.items.length c) x.items.length (fun i => (x.items.getD i default).key.row), Box r3 27 k.row, F]) (fun q => q = seekX x k)
    case h =>
      intro K
      refine s_loop (fun i : Nat => [(3, .pointer (some ⟨r3, 0, none⟩)), (6, .slice a x.items.length c), (7, .int .i64 i)])
        (fun _ => [SO 27 3 (.slice a x.items.length c) x.items.length (fun i => (x.items.getD i default).key.row), Box r3 27 k.row, F]) (fun i => i ≤ x.items.length ∧ seekX x k = seekN (fun i => (x.items.getD i default).key.lt k) (x.items.length - i) i) (fun i => x.items.length - i) 0 ⟨Nat.zero_le _, hs⟩ (by repeat (first | exact Ent.nil | refine Ent.per (by repeat (first | with_reducible exact Sel.here | with_reducible apply Sel.there)) ?_ | refine Ent.cons (by repeat (first | with_reducible exact Sel.here | with_reducible apply Sel.there)) ?_)) ?_
      rintro i ⟨hi, hq⟩ next
      refine go_ ?_
      refine s_drawN 0 [.q 0, .q 1, .q 2, .q 3, .q 4, .q 5, .q 6, .q 7, .q 8, .q 9, .q 10, .q 11] ?_
      refine do_ ?_
      cases h3 : decide ((i : Int) < (x.items.length : Int)) with
      | true =>
        have h3' := of_decide_eq_true h3
        have hi2 : i < x.items.length := by omega
        obtain ⟨m, hm⟩ : ∃ m, x.items.length - i = m + 1 := ⟨x.items.length - i - 1, by omega⟩
        rw [hm, seekN] at hq
        refine do_ ?_
        refine d_call (ho := rfl) (v := .bool ((x.items.getD i default).key.lt k)) (sp := (by repeat (first | exact Split.nil | apply Split.perx (by repeat (first | with_reducible exact Sel.here | with_reducible apply Sel.there)) (by infer_instance) | apply Split.cons (by repeat (first | with_reducible exact Sel.here | with_reducible apply Sel.there))))) (hs := rless_c (x.items.getD i default).key k) (hq := by rintro r Bs ⟨rfl, rfl⟩; exact ⟨rfl, (by (try simp only [List.cons_append, List.nil_append]); repeat (first | exact Ent.nil | refine Ent.per (by repeat (first | with_reducible exact Sel.here | with_reducible apply Sel.there)) ?_ | refine Ent.cons (by repeat (first | with_reducible exact Sel.here | with_reducible apply Sel.there)) ?_))⟩) (h := ?_)
        refine do_ ?_
        cases h4 : (x.items.getD i default).key.lt k with
        | true =>
          rw [h4, if_pos rfl] at hq
          refine do_ ?_
          refine go_ ?_
          exact s_entF (by repeat (first | exact Ent.nil | refine Ent.per (by repeat (first | with_reducible exact Sel.here | with_reducible apply Sel.there)) ?_ | refine Ent.cons (by repeat (first | with_reducible exact Sel.here | with_reducible apply Sel.there)) ?_)) (s_keep _ (next (i + 1) ⟨by omega, by rw [show x.items.length - (i + 1) = m by omega]; exact hq⟩ (by omega)))
        | false =>
          rw [h4, if_neg (by simp)] at hq
          refine do_ ?_
          refine go_ ?_
          exact s_entF (by repeat (first | exact Ent.nil | refine Ent.per (by repeat (first | with_reducible exact Sel.here | with_reducible apply Sel.there)) ?_ | refine Ent.cons (by repeat (first | with_reducible exact Sel.here | with_reducible apply Sel.there)) ?_)) (s_keep _ (K i hq.symm))
      | false =>
        have h3' := of_decide_eq_false h3
        have e : i = x.items.length := by omega
        rw [show x.items.length - i = 0 by omega, seekN] at hq
        refine do_ ?_
        refine go_ ?_
        exact s_entF (by repeat (first | exact Ent.nil | refine Ent.per (by repeat (first | with_reducible exact Sel.here | with_reducible apply Sel.there)) ?_ | refine Ent.cons (by repeat (first | with_reducible exact Sel.here | with_reducible apply Sel.there)) ?_)) (s_keep _ (K i (by omega)))
    case K =>
      intro q hq
      have hle : q ≤ x.items.length := by
        rw [hq, hs]
        have := seekN_le (fun i => (x.items.getD i default).key.lt k) x.items.length 0
        omega
      refine s_drawN 0 [.q 0, .q 1, .q 2, .q 3, .q 4, .q 5, .q 6, .q 7, .q 8, .q 9, .q 10, .q 11, .q 12, .q 13, .q 14] ?_
      refine do_ ?_
      cases h3 : decide ((q : Int) < (x.items.length : Int)) with
      | false =>
        have h3' := of_decide_eq_false h3
        have e : seekHit x k = false := by unfold seekHit; rw [if_pos h0, ← hq, decide_eq_false (p := q < x.items.length) (by omega)]; rfl
        rw [← hq, e]
        refine do_ ?_
        refine go_ ?_
        exact s_rett (rs := [.tmp 4, .tmp 5]) (vs := [_, _]) Try.func23 rfl (by intro j; refine RVS.tmp _ rfl ?_; refine RVS.tmp _ rfl ?_; exact RVS.nil) rfl (⟨rfl, rfl⟩) (by repeat (first | exact Ent.nil | refine Ent.per (by repeat (first | with_reducible exact Sel.here | with_reducible apply Sel.there)) ?_ | refine Ent.cons (by repeat (first | with_reducible exact Sel.here | with_reducible apply Sel.there)) ?_))
      | true =>
        have h3' := of_decide_eq_true h3
        have e : seekHit x k = decide ((x.items.getD q default).key = k) := by unfold seekHit; rw [if_pos h0, ← hq, decide_eq_true (p := q < x.items.length) (by omega)]; rfl
        rw [← hq, e]
        refine do_ ?_
        refine d_look rfl lk_eqs ?_
        refine do_ ?_
        refine go_ ?_
        exact s_rett (rs := [.tmp 4, .tmp 5]) (vs := [_, _]) Try.func23 rfl (by intro j; refine RVS.tmp _ rfl ?_; refine RVS.tmp _ rfl ?_; exact RVS.nil) rfl (⟨rfl, rfl⟩) (by repeat (first | exact Ent.nil | refine Ent.per (by repeat (first | with_reducible exact Sel.here | with_reducible apply Sel.there)) ?_ | refine Ent.cons (by repeat (first | with_reducible exact Sel.here | with_reducible apply Sel.there)) ?_))
  · obtain ⟨i1, i2, i3⟩ := nodeOk_kids hok h0
    have hn : (nkeys x).length = x.kids.length := by omega
    rw [hn]
    refine s_open (SO.cg (fun i => (x.kids.getD i default).key.row) fun q hq => by unfold keyR; have := nkeys_k x hq; rw [i3, Nat.zero_add] at this; rw [this]) ?_
    have hlast := fun i hi => seek_last k hok h0 i hi
    have hle := seekN_le (fun i => !(k.lt (x.kids.getD i default).key)) x.kids.length 0
    have hs : seekX x k = seekN (fun i => !(k.lt (x.kids.getD i default).key)) x.kids.length 0 - 1 := by unfold seekX; rw [if_neg h0]
    generalize seekN (fun i => !(k.lt (x.kids.getD i default).key)) x.kids.length 0 = z at *
    refine go_ ?_
    refine s_loop (fun i : Nat => [(3, .pointer (some ⟨r3, 0, none⟩)), (6, .slice a x.kids.length c), (8, .int .i64 (min i z - 1 : Nat)), (9, .int .i64 i)])
      (fun _ => [SO 27 3 (.slice a x.kids.length c) x.kids.length (fun i => (x.kids.getD i default).key.row), Box r3 27 k.row, F]) (fun i => i ≤ x.kids.length) (fun i => x.kids.length - i) 0 (Nat.zero_le _) (by repeat (first | exact Ent.nil | refine Ent.per (by repeat (first | with_reducible exact Sel.here | with_reducible apply Sel.there)) ?_ | refine Ent.cons (by repeat (first | with_reducible exact Sel.here | with_reducible apply Sel.there)) ?_)) ?_
    rintro i hi next
    refine go_ ?_
    refine s_if (fun h3 => ?_) (fun h3 => ?_)
    · have hi2 : i < x.kids.length := by omega
      refine go_ ?_
      refine s_drawN 0 [.q 0, .q 1, .q 2, .q 3, .q 4, .q 5, .q 6] ?_
      refine do_ ?_
      refine d_call (ho := rfl) (v := .bool (k.lt (x.kids.getD i default).key)) (sp := (by repeat (first | exact Split.nil | apply Split.perx (by repeat (first | with_reducible exact Sel.here | with_reducible apply Sel.there)) (by infer_instance) | apply Split.cons (by repeat (first | with_reducible exact Sel.here | with_reducible apply Sel.there))))) (hs := rless_c k (x.kids.getD i default).key) (hq := by rintro r Bs ⟨rfl, rfl⟩; exact ⟨rfl, (by (try simp only [List.cons_append, List.nil_append]); repeat (first | exact Ent.nil | refine Ent.per (by repeat (first | with_reducible exact Sel.here | with_reducible apply Sel.there)) ?_ | refine Ent.cons (by repeat (first | with_reducible exact Sel.here | with_reducible apply Sel.there)) ?_))⟩) (h := ?_)
      have hli := hlast i hi2
      cases h4 : k.lt (x.kids.getD i default).key with
      | true =>
        rw [h4] at hli
        have h5 : ¬ i < z := of_decide_eq_false hli.symm
        refine do_ ?_
        refine go_ ?_
        rw [show min i z - 1 = min (i + 1) z - 1 by omega]
        exact s_entF (by repeat (first | exact Ent.nil | refine Ent.per (by repeat (first | with_reducible exact Sel.here | with_reducible apply Sel.there)) ?_ | refine Ent.cons (by repeat (first | with_reducible exact Sel.here | with_reducible apply Sel.there)) ?_)) (s_keep _ (next (i + 1) (by omega) (by omega)))
      | false =>
        rw [h4] at hli
        have h5 : i < z := of_decide_eq_true hli.symm
        have e : min (i + 1) z - 1 = i := by omega
        have K := next (i + 1) (by omega) (by omega)
        rw [e] at K
        refine do_ ?_
        refine go_ ?_
        exact s_entF (by repeat (first | exact Ent.nil | refine Ent.per (by repeat (first | with_reducible exact Sel.here | with_reducible apply Sel.there)) ?_ | refine Ent.cons (by repeat (first | with_reducible exact Sel.here | with_reducible apply Sel.there)) ?_)) (s_keep _ (K))
    · have e : min i z - 1 = seekX x k := by omega
      rw [e]
      have hq : seekX x k < x.kids.length := by omega
      refine go_ ?_
      refine s_drawN 0 [.q 0, .q 1, .q 2, .q 3, .q 4, .q 5, .q 6, .q 7, .q 8, .q 9, .q 10, .q 11, .q 12, .q 13, .q 14] ?_
      refine do_ ?_
      rw [show decide (((seekX x k : Nat) : Int) < (x.kids.length : Int)) = true from decide_eq_true (by omega)]
      have e2 : seekHit x k = decide ((x.kids.getD (seekX x k) default).key = k) := by unfold seekHit; rw [if_neg h0, decide_eq_true hq]; rfl
      rw [e2]
      refine do_ ?_
      refine d_look rfl lk_eqs ?_
      refine do_ ?_
      refine go_ ?_
      exact s_rett (rs := [.tmp 4, .tmp 5]) (vs := [_, _]) Try.func23 rfl (by intro j; refine RVS.tmp _ rfl ?_; refine RVS.tmp _ rfl ?_; exact RVS.nil) rfl (⟨rfl, rfl⟩) (by repeat (first | exact Ent.nil | refine Ent.per (by repeat (first | with_reducible exact Sel.here | with_reducible apply Sel.there)) ?_ | refine Ent.cons (by repeat (first | with_reducible exact Sel.here | with_reducible apply Sel.there)) ?_))
end Go.Proofs.Ytgbbcpfnmkeijaa
/- FindPaths. -/
namespace Go.Proofs.Ytgbbcpfnmkeijaa
open Go.Cam
set_option maxRecDepth 100000
theorem kid_step {g : Int → Option (Node × Plc)} {h : Nat} {k : Int} (key : Key) (w : WF g (h + 1) k) (hr : Ris (itemsT g (h + 1) k)) :
    getT (itemsT g (h + 1) k) key = getT (itemsT g h (kidN g key k)) key ∧ WF g h (kidN g key k) ∧ Ris (itemsT g h (kidN g key k)) := by
  have e := getT_tree g key (h + 1) k w hr
  obtain ⟨w0, w1, w2⟩ := w
  rw [itemsT] at hr
  obtain ⟨s1, s2, s3⟩ := seek_kids (g := g) (T := itemsT g h) key (by rw [w0]; omega) w1 hr fun y hy => (w2 y hy).2
  have hm := getD_mem s1
  have h5 := (kid_lo hr s1 (w2 _ hm).2).2.2
  exact ⟨e.trans (getT_tree g key h _ (w2 _ hm).1 h5).symm, (w2 _ hm).1, h5⟩
/-- where a path is -/
structure PaOk (σ : Ct) (g : Int → Option (Node × Plc)) (key : Key) (L : List Item) (way : List Int) (h i : Nat) (at_ : Int) : Prop where
  tr : Tr σ g (h - i) at_
  wf : WF g (h - i) at_
  ris : Ris (itemsT g (h - i) at_)
  get : getT (itemsT g (h - i) at_) key = getT L key
  way : way.drop i = wayN g key (h - i) at_
theorem PaOk.head {σ : Ct} {g : Int → Option (Node × Plc)} {key : Key} {L : List Item} {way : List Int} {h i : Nat} {at_ : Int} (q : PaOk σ g key L way h i at_) : way.getD i 0 = at_ := by
  have := q.way
  rw [wayN_head] at this
  have h2 := congrArg (fun l => l[0]?) this
  simp only [List.getElem?_drop, List.getElem?_cons_zero, Nat.add_zero] at h2
  rw [List.getD_eq_getElem?_getD, h2]; rfl
theorem PaOk.next {σ : Ct} {g : Int → Option (Node × Plc)} {key : Key} {L : List Item} {way : List Int} {h i : Nat} {at_ : Int} (q : PaOk σ g key L way h i at_) (hi : i < h) : PaOk σ g key L way h (i + 1) (kidN g key at_) := by
  obtain ⟨m, hm⟩ : ∃ m, h - i = m + 1 := ⟨h - i - 1, by omega⟩
  have e : h - (i + 1) = m := by omega
  obtain ⟨q1, q2, q3, q4, q5⟩ := q
  rw [hm] at q1 q2 q3 q4 q5
  obtain ⟨a1, a2, a3⟩ := kid_step key q2 q3
  rw [wayN] at q5
  refine ⟨by rw [e]; exact q1.2.2.2 _ (q1.seek key), by rw [e]; exact a2, by rw [e]; exact a3, by rw [e, ← a1]; exact q4, ?_⟩
  rw [e, ← List.drop_drop, q5]; rfl
set_option maxHeartbeats 16000000 in
theorem paths_c (x : Wrld) (hx : x.ok) (k : Key) : Ctr Try.prog 7 [x.v, k.v] [x.A, IFam x.w x.l, x.C] (fun v Bs => v = .bool true ∧ Bs = []) := by
  obtain ⟨hro, hrl⟩ := rowL_ok x.l 150 hx.b
  refine s_enter 138 [(0, _), (1, _)] (fun F => [_, _, _, F]) Try.func7 fun F => ?_
  refine go_ ?_
  refine s_box fun r2 => ?_
  refine s_box fun r3 => ?_
  refine go_ ?_
  refine s_call (sp := (by repeat (first | exact Split.nil | apply Split.perx (by repeat (first | with_reducible exact Sel.here | with_reducible apply Sel.there)) (by infer_instance) | apply Split.cons (by repeat (first | with_reducible exact Sel.here | with_reducible apply Sel.there))))) (hs := shown_c) (h := ?_)
  rintro v Bs ⟨rfl, rfl⟩
  refine go_ ?_
  refine s_call (sp := (by repeat (first | exact Split.nil | apply Split.perx (by repeat (first | with_reducible exact Sel.here | with_reducible apply Sel.there)) (by infer_instance) | apply Split.cons (by repeat (first | with_reducible exact Sel.here | with_reducible apply Sel.there))))) (hs := row_c (A := x.A) (a := x.a) (c := x.c) (w := x.w) x.l 150 (by decide) hx.n) (h := ?_)
  rintro v Bs ⟨a2, c2, w2, rfl, rfl⟩
  generalize hL : rowL x.l 150 = L at *
  refine go_ ?_
  refine s_fzO (e := 48) (v := .slice a2 L.length c2) (by repeat (first | with_reducible exact Sel.here | with_reducible apply Sel.there)) ?_
  refine s_call (sp := (by repeat (first | exact Split.nil | apply Split.perx (by repeat (first | with_reducible exact Sel.here | with_reducible apply Sel.there)) (by infer_instance) | apply Split.cons (by repeat (first | with_reducible exact Sel.here | with_reducible apply Sel.there))))) (hs := grown_c (C := x.C) (la := a2) (lc := c2) (w := w2) (b := x.b) (d := x.d) L x.cs hro hrl hx.m hx.r) (h := ?_)
  rintro v Bs ⟨p, z, σ, g, root, rfl, ht, rfl⟩
  rcases ht with ⟨hL0, hr0⟩ | ⟨hL0, hr0, h, hh, t, w, e⟩
  · subst hr0
    subst hL0
    refine go_ ?_
    refine s_call (sp := (by repeat (first | exact Split.nil | apply Split.perx (by repeat (first | with_reducible exact Sel.here | with_reducible apply Sel.there)) (by infer_instance) | apply Split.cons (by repeat (first | with_reducible exact Sel.here | with_reducible apply Sel.there))))) (hs := height0_c p 0 rfl) (h := ?_)
    rintro v Bs ⟨rfl, rfl⟩
    refine go_ ?_
    refine s_call (sp := (by repeat (first | exact Split.nil | apply Split.perx (by repeat (first | with_reducible exact Sel.here | with_reducible apply Sel.there)) (by infer_instance) | apply Split.cons (by repeat (first | with_reducible exact Sel.here | with_reducible apply Sel.there))))) (hs := path0_c p 0 k rfl) (h := ?_)
    rintro v Bs ⟨rfl, rfl⟩
    refine go_ ?_
    refine s_unroll ?_
    refine go_ ?_
    exact s_ret1 (rs := [.tmp 4]) Try.func7 rfl (by intro j; refine RVS.tmp _ rfl ?_; exact RVS.nil) (⟨rfl, rfl⟩) (by repeat (first | exact Ent.nil | refine Ent.per (by repeat (first | with_reducible exact Sel.here | with_reducible apply Sel.there)) ?_ | refine Ent.cons (by repeat (first | with_reducible exact Sel.here | with_reducible apply Sel.there)) ?_))
  · refine go_ ?_
    refine s_call (sp := (by repeat (first | exact Split.nil | apply Split.perx (by repeat (first | with_reducible exact Sel.here | with_reducible apply Sel.there)) (by infer_instance) | apply Split.cons (by repeat (first | with_reducible exact Sel.here | with_reducible apply Sel.there))))) (hs := height_c p z σ g root h t hr0 (by omega)) (h := ?_)
    rintro v Bs ⟨rfl, rfl⟩
    refine go_ ?_
    refine s_call (sp := (by repeat (first | exact Split.nil | apply Split.perx (by repeat (first | with_reducible exact Sel.here | with_reducible apply Sel.there)) (by infer_instance) | apply Split.cons (by repeat (first | with_reducible exact Sel.here | with_reducible apply Sel.there))))) (hs := path_c p z σ g root k h t hr0 (by omega)) (h := ?_)
    have hwl := wayN_len g k h root
    rintro v Bs ⟨a3, c3, rfl, rfl⟩
    rw [hwl]
    refine go_ ?_
    rw [show (((h + 1 : Nat) : Int) != ((h + 1 : Nat) : Int)) = false by simp]
    refine go_ ?_
    have hLp : 0 < L.length := List.length_pos_iff.2 hL0
    rw [show (((h + 1 : Nat) : Int) == 0) = false from beq_eq_false_iff_ne.2 (by omega), show ((L.length : Int) == 0) = false from beq_eq_false_iff_ne.2 (by omega)]
    refine go_ ?_
    have hP0 : PaOk σ g k L (wayN g k h root) h 0 root := ⟨t, w, by rw [Nat.sub_zero, e]; exact hro.ris, by rw [Nat.sub_zero, e], rfl⟩
    generalize hway : wayN g k h root = way at *
    refine s_loop (fun q : Nat × Int => [(3, .pointer (some ⟨r3, 0, none⟩)), (6, .slice a2 L.length c2), (7, .pointer (some ⟨p, 0, none⟩)), (10, .int .i64 (h + 1 : Nat)), (12, .slice a3 (h + 1) c3), (14, .int .i64 q.2), (15, .int .i64 q.1)])
      (fun _ => [Po p z σ g, SO 3 1 (.slice a3 (h + 1) c3) (h + 1) (pathR way), SA none 4 (.slice a2 L.length c2) L.length (itemRow w2 L), IFam w2 L, Box r3 27 k.row, F])
      (fun q => q.1 ≤ h + 1 ∧ (q.1 ≤ h → PaOk σ g k L way h q.1 q.2)) (fun q => h + 1 - q.1) (0, root) ⟨Nat.zero_le _, fun _ => hP0⟩ (by repeat (first | exact Ent.nil | refine Ent.per (by repeat (first | with_reducible exact Sel.here | with_reducible apply Sel.there)) ?_ | refine Ent.cons (by repeat (first | with_reducible exact Sel.here | with_reducible apply Sel.there)) ?_)) ?_
    rintro ⟨i, at_⟩ ⟨hi, hq⟩ next
    dsimp only at hi hq next ⊢
    refine go_ ?_
    refine s_if (fun h1 => ?_) (fun h1 => ?_)
    · have hi2 : i ≤ h := by omega
      have hp := hq hi2
      obtain ⟨u, hu⟩ := hp.tr.held
      have hlv := hp.tr.lv
      have hhd := hp.head
      refine s_opn (φ := fun _ : Unit => True) (X := Po.parts p z σ g) (by repeat (first | with_reducible exact Sel.here | with_reducible apply Sel.there)) fun _ _ => ?_
      unfold Po.parts
      refine s_nrm ?_
      refine go_ ?_
      rw [hhd]
      refine s_call (sp := (by repeat (first | exact Split.nil | apply Split.perx (by repeat (first | with_reducible exact Sel.here | with_reducible apply Sel.there)) (by infer_instance) | apply Split.cons (by repeat (first | with_reducible exact Sel.here | with_reducible apply Sel.there))))) (hs := pnode_c p z.b z.gen z.n z.bc z.m σ g at_ (nd g at_) u hu.hs hu.hk hu.hc hu.hg) (h := ?_)
      rintro v Bs ⟨u', rfl, rfl⟩
      refine go_ ?_
      refine s_fzO (e := 48) (v := .slice u'.a (nd g at_).items.length u'.c) (by repeat (first | with_reducible exact Sel.here | with_reducible apply Sel.there)) ?_
      refine s_fzO (e := 67) (v := .slice u'.b (nd g at_).kids.length u'.d) (by repeat (first | with_reducible exact Sel.here | with_reducible apply Sel.there)) ?_
      refine s_cls (φ := fun _ : Unit => True) (X := Po.parts p z σ g) () trivial (by repeat (first | exact Split.nil | apply Split.perx (by repeat (first | with_reducible exact Sel.here | with_reducible apply Sel.there)) (by infer_instance) | apply Split.cons (by repeat (first | with_reducible exact Sel.here | with_reducible apply Sel.there)))) ?_
      refine s_alloc fun r16 => ?_
      refine go_ ?_
      rw [hhd, show (at_ != at_) = false by simp]
      refine go_ ?_
      rw [show ((nd g at_).level != ((h + 1 : Nat) : Int) - 1 - (i : Int)) = false by rw [hlv, bne_eq_false_iff_eq]; omega]
      refine go_ ?_
      refine s_call (sp := (by repeat (first | exact Split.nil | apply Split.perx (by repeat (first | with_reducible exact Sel.here | with_reducible apply Sel.there)) (by infer_instance) | apply Split.cons (by repeat (first | with_reducible exact Sel.here | with_reducible apply Sel.there))))) (hs := rseek_c (nd g at_) u' k hu.hs hu.ok) (h := ?_)
      rintro v Bs ⟨rfl, rfl⟩
      refine go_ ?_
      refine s_call (sp := (by repeat (first | exact Split.nil | apply Split.perx (by repeat (first | with_reducible exact Sel.here | with_reducible apply Sel.there)) (by infer_instance) | apply Split.cons (by repeat (first | with_reducible exact Sel.here | with_reducible apply Sel.there))))) (hs := rget_c (A := SA none 4 (.slice a2 L.length c2) L.length (itemRow w2 L)) (a := a2) (c := c2) (w := w2) L k (by omega)) (h := ?_)
      have hT := getT_row L k
      rintro v Bs hv
      apply s_join (α := Option Addr × Nat × Nat × Int) (fun q => [(3, .pointer (some ⟨r3, 0, none⟩)), (6, .slice a2 L.length c2), (7, .pointer (some ⟨p, 0, none⟩)), (10, .int .i64 (h + 1 : Nat)), (12, .slice a3 (h + 1) c3), (14, .int .i64 at_), (15, .int .i64 i), (16, .pointer (some ⟨r16, 0, none⟩)), (18, .int .i64 (seekX (nd g at_) k : Nat)), (19, .bool (seekHit (nd g at_) k)), (21, .int .i64 q.2.2.2), (123, .bool ((nd g at_).level == 0))])
        (fun _ => [Po p z σ g, Nd1 (nd g at_) u', Nd2 (nd g at_) u', Nd3 (nd g at_) u', Box r16 60 [.int .i64 (nd g at_).level, .slice u'.a (nd g at_).items.length u'.c, .slice u'.b (nd g at_).kids.length u'.d], SO 3 1 (.slice a3 (h + 1) c3) (h + 1) (pathR way), SA none 4 (.slice a2 L.length c2) L.length (itemRow w2 L), IFam w2 L, Box r3 27 k.row, F])
        (fun q => q.2.2.2 = if (getT L k).isSome then 0 else 10)
      case h =>
        intro K
        rcases hv with ⟨g1, rfl, rfl⟩ | ⟨g1, a9, c9, rfl, rfl⟩
        · rw [if_neg (by omega)] at hT
          refine go_ ?_
          exact s_entF (by repeat (first | exact Ent.nil | refine Ent.per (by repeat (first | with_reducible exact Sel.here | with_reducible apply Sel.there)) ?_ | refine Ent.cons (by repeat (first | with_reducible exact Sel.here | with_reducible apply Sel.there)) ?_)) (s_keep _ (K (none, 0, 0, 10) (by rw [hT]; rfl)))
        · rw [if_pos g1] at hT
          refine go_ ?_
          exact s_entF (by repeat (first | exact Ent.nil | refine Ent.per (by repeat (first | with_reducible exact Sel.here | with_reducible apply Sel.there)) ?_ | refine Ent.cons (by repeat (first | with_reducible exact Sel.here | with_reducible apply Sel.there)) ?_)) (s_keep _ (K (none, 0, 0, 0) (by rw [hT]; rfl)))
      case K =>
        rintro ⟨_, _, _, E⟩ hE
        dsimp only at hE ⊢
        cases h5 : ((nd g at_).level == 0) with
        | true =>
          have h6 : (nd g at_).level = 0 := eq_of_beq h5
          have h7 : h - i = 0 := by omega
          have hG := hp.get
          have hR := hp.ris
          rw [h7] at hG hR
          have hG2 : getT (nd g at_).items k = getT L k := hG
          rw [getT_leaf h6 hR] at hG2
          have hE2 : (E == 0) = seekHit (nd g at_) k := by
            rw [hE, ← hG2]
            cases seekHit (nd g at_) k <;> rfl
          refine go_ ?_
          rw [hE2, show (!(seekHit (nd g at_) k == seekHit (nd g at_) k)) = false by simp]
          refine go_ ?_
          rw [show decide ((nd g at_).level > 0) = false from decide_eq_false (by omega)]
          refine go_ ?_
          exact s_entF (by repeat (first | exact Ent.nil | refine Ent.per (by repeat (first | with_reducible exact Sel.here | with_reducible apply Sel.there)) ?_ | refine Ent.cons (by repeat (first | with_reducible exact Sel.here | with_reducible apply Sel.there)) ?_)) (s_keep _ (next (i + 1, at_) ⟨by dsimp only; omega, fun h8 => by dsimp only at h8; omega⟩ (by dsimp only; omega)))
        | false =>
          have h6 : ¬ (nd g at_).level = 0 := ne_of_beq_false h5
          have h7 : i < h := by omega
          have hp' := hp.next h7
          have hsk : seekX (nd g at_) k < (nd g at_).kids.length := by
            have := hp.tr
            obtain ⟨m, hm⟩ : ∃ m, h - i = m + 1 := ⟨h - i - 1, by omega⟩
            rw [hm] at this
            exact this.seek k
          refine go_ ?_
          rw [show decide ((nd g at_).level > 0) = true from decide_eq_true (by omega)]
          refine go_ ?_
          exact s_entF (by repeat (first | exact Ent.nil | refine Ent.per (by repeat (first | with_reducible exact Sel.here | with_reducible apply Sel.there)) ?_ | refine Ent.cons (by repeat (first | with_reducible exact Sel.here | with_reducible apply Sel.there)) ?_)) (s_keep _ (next (i + 1, kidN g k at_) ⟨by dsimp only; omega, fun _ => hp'⟩ (by dsimp only; omega)))
    · refine go_ ?_
      exact s_ret1 (rs := [.tmp 4]) Try.func7 rfl (by intro j; refine RVS.tmp _ rfl ?_; exact RVS.nil) (⟨rfl, rfl⟩) (by repeat (first | exact Ent.nil | refine Ent.per (by repeat (first | with_reducible exact Sel.here | with_reducible apply Sel.there)) ?_ | refine Ent.cons (by repeat (first | with_reducible exact Sel.here | with_reducible apply Sel.there)) ?_))
end Go.Proofs.Ytgbbcpfnmkeijaa
