/- The document's event of a line. -/
import Derived.Test.YtmlddafbenfilaaDoorDskV
import Derived.Test.YtmlddafbenfilaaDoorDskS
namespace Go.Proofs.YtmlddafbenfilaaDoor
open Go.Cam
set_option maxRecDepth 100000
theorem pad_get (ws : List (List Nat)) (k i : Nat) (h : i < ws.length + k) : (ws ++ List.replicate k [48]).getD i [] = ws.getD i [48] := by
  by_cases hi : i < ws.length
  · simp [List.getD_eq_getElem?_getD, List.getElem?_append_left hi, hi]
  · rw [List.getD_eq_getElem?_getD, List.getD_eq_getElem?_getD, List.getElem?_append_right (by omega), List.getElem?_eq_none (by omega : ws.length ≤ i), List.getElem?_replicate, if_pos (by omega)]
    rfl
theorem fillR_len (s : List Nat) (i : Nat) : (fillR s i).length ≤ s.length + 1 := by
  unfold fillR
  rw [List.getD_eq_getElem?_getD]
  cases h : (splitB s)[i]? with
  | none => simp
  | some w => exact Nat.le_trans (splitB_len s w (List.mem_of_getElem? h)) (Nat.le_succ _)
theorem unR_len {s : List Nat} (hs : Bys s) : ((unquoteR s).getD []).length ≤ s.length := by
  rw [← unquote_same s hs]
  cases h : unquoteP s with
  | none => simp
  | some o => exact unq_len hs h
theorem evR_fit {s : List Nat} (hs : Bys s) (hl : s.length ≤ 1000000) : (evR s).fit := {
  ok := evR_ok hs
  l1 := by have := unR_len (fillR_bys hs 5); have := fillR_len s 5; show ((unquoteR (fillR s 5)).getD []).length ≤ _; omega
  l2 := by have := unR_len (fillR_bys hs 6); have := fillR_len s 6; show ((unquoteR (fillR s 6)).getD []).length ≤ _; omega
  l3 := by have := unR_len (fillR_bys hs 7); have := fillR_len s 7; show ((unquoteR (fillR s 7)).getD []).length ≤ _; omega }
set_option maxHeartbeats 32000000 in
theorem revent_c (s : List Nat) (hs : Bys s) (hl : s.length ≤ 900000) : Ctr Tryd.prog 30 [.string (strB s)] [] (fun v Bs => ∃ a c, v = .agg (evL (evR s) a c).toArray ∧ Bs = [SA (some 5) 1 (.slice a (evR s).data.length c) (evR s).data.length (byR (evR s).data)]) := by
  refine s_enter 65 [(0, _)] (fun F => [F]) Tryd.func30 fun F => ?_
  refine gt_ ?_
  refine s_alloc fun r2 => ?_
  refine gt_ ?_
  refine s_call (sp := spl_) (hs := rwords_c s hs (by omega)) (h := ?_)
  rintro v Bs ⟨a0, c0, rfl, rfl⟩
  refine gt_ ?_
  refine s_loop (fun y : List (List Nat) × Option Addr × Nat => [(2, .pointer (some ⟨r2, 0, none⟩)), (3, .slice y.2.1 y.1.length y.2.2)]) (fun y => [SA (some 9) 1 (.slice y.2.1 y.1.length y.2.2) y.1.length (txR y.1), Box r2 42 [.int .i64 0, .int .i64 0, .int .i64 0, .int .i64 0, .int .i64 0, .string ByteArray.empty, .string ByteArray.empty, .slice none 0 0], F]) (fun y => ∃ k, y.1 = splitB s ++ List.replicate k [48]) (fun y => 8 - y.1.length) (splitB s, a0, c0) ⟨0, by simp⟩ ent_ ?_
  rintro ⟨W, a, c⟩ ⟨k, hk⟩ next
  dsimp only at hk
  show RunS _ _ _ _ _ [(2, .pointer (some ⟨r2, 0, none⟩)), (3, .slice a W.length c)] [SA (some 9) 1 (.slice a W.length c) W.length (txR W), Box r2 42 [.int .i64 0, .int .i64 0, .int .i64 0, .int .i64 0, .int .i64 0, .string ByteArray.empty, .string ByteArray.empty, .slice none 0 0], F]
  refine gt_ ?_
  cases h8 : decide ((W.length : Int) < 8) with
  | true =>
    have h9 := of_decide_eq_true h8
    refine gt_ ?_
    refine s_step (st_bs1 (sz := 1) (cells := [.string (strB [48])]) rfl) ?_
    rintro v Bs ⟨a2, rfl, rfl⟩
    refine s_app (a := a) (len := W.length) (cap := c) (b := a2) (m := 1) (c := 1) sel_ (by repeat (first | with_reducible exact SelR.here | with_reducible apply SelR.there)) rfl (fun a3 c3 => ?_)
    refine s_open (SA.cg (txR (W ++ [[48]])) fun i hi => txR_snoc i hi) ?_
    rw [show W.length + 1 = (W ++ [[48]]).length by simp]
    refine gt_ ?_
    exact s_entF ent_ (s_keep _ (next (W ++ [[48]], a3, c3) ⟨k + 1, by show W ++ [[48]] = _; rw [List.replicate_succ', hk, List.append_assoc]⟩ (by show 8 - (W ++ [[48]]).length < 8 - W.length; rw [List.length_append, List.length_singleton]; omega)))
  | false =>
    have h9 := of_decide_eq_false h8
    have hW : 8 ≤ W.length := by omega
    have hG : ∀ i, i < 8 → W.getD i [] = fillR s i := fun i hi => by
      have h1 : (splitB s ++ List.replicate k [48]).length = W.length := by rw [hk]
      rw [List.length_append, List.length_replicate] at h1
      rw [hk]; exact pad_get _ _ _ (by omega)
    have hFb := fillR_bys hs
    have hFl := fillR_len s
    have hW5 : 5 < W.length := by omega
    have hW6 : 6 < W.length := by omega
    have hW7 : 7 < W.length := by omega
    have g0 := hG 0 (by decide)
    have g1 := hG 1 (by decide)
    have g2 := hG 2 (by decide)
    have g3 := hG 3 (by decide)
    have g4 := hG 4 (by decide)
    refine gt_ ?_
    rw [hG 5 (by decide)]
    refine s_call (sp := spl_) (hs := runquote_c (fillR s 5) (hFb 5) (by have := hFl 5; omega)) (h := ?_)
    rintro v Bs ⟨ap, cp, op, hp, rfl, rfl⟩
    refine gt_ ?_
    rw [hG 6 (by decide)]
    refine s_call (sp := spl_) (hs := runquote_c (fillR s 6) (hFb 6) (by have := hFl 6; omega)) (h := ?_)
    rintro v Bs ⟨aq, cq, oq, hq, rfl, rfl⟩
    refine gt_ ?_
    rw [hG 7 (by decide)]
    refine s_call (sp := spl_) (hs := runquote_c (fillR s 7) (hFb 7) (by have := hFl 7; omega)) (h := ?_)
    rintro v Bs ⟨ad, cd, od, hd, rfl, rfl⟩
    have hb : ∀ i, i < 8 → Bys (W.getD i []) ∧ (W.getD i []).length ≤ 1000000 := fun i hi => by rw [hG i hi]; exact ⟨hFb i, by have := hFl i; omega⟩
    have hE : evR s = ⟨numR (W.getD 0 []), numR (W.getD 1 []), numR (W.getD 2 []), numR (W.getD 3 []), numR (W.getD 4 []), op, oq, od⟩ := by rw [hp, hq, hd, g0, g1, g2, g3, g4]; rfl
    rw [hE]
    refine gt_ ?_
    refine s_front (a := Box r2 42 [.int .i64 0, .int .i64 0, .int .i64 0, .int .i64 0, .int .i64 0, .string ByteArray.empty, .string ByteArray.empty, .slice none 0 0]) sel_ ?_
    refine s_drawN 1 [.q 0, .q 1, .q 2, .q 3, .q 4, .q 5, .q 6, .q 7, .q 8, .q 9, .q 10, .q 11, .q 12, .q 13, .q 14, .q 15, .q 16, .q 17, .q 18, .q 19, .q 20, .q 21, .q 22, .q 23, .q 24, .q 25, .s 26] ?_
    refine dt_ ?_
    refine d_look rfl (lk_ixs (v := .slice a W.length c) (i := 0)) ?_
    refine dt_ ?_
    refine d_call (ho := rfl) (v := .int .i64 (numR (W.getD 0 []))) (sp := spl_) (hs := rnumber_c (W.getD 0 []) (hb 0 (by decide)).1 (hb 0 (by decide)).2) (hq := by rintro r Bs ⟨rfl, rfl⟩; exact ⟨rfl, (by (try simp only [List.cons_append, List.nil_append]); repeat (first | exact Ent.nil | refine Ent.per (by repeat (first | with_reducible exact Sel.here | with_reducible apply Sel.there)) ?_ | refine Ent.cons (by repeat (first | with_reducible exact Sel.here | with_reducible apply Sel.there)) ?_))⟩) (h := ?_)
    refine dt_ ?_
    try refine d_look rfl (lk_ixs (v := .slice a W.length c) (i := 1)) ?_
    refine dt_ ?_
    refine d_call (ho := rfl) (v := .int .i64 (numR (W.getD 1 []))) (sp := spl_) (hs := rnumber_c (W.getD 1 []) (hb 1 (by decide)).1 (hb 1 (by decide)).2) (hq := by rintro r Bs ⟨rfl, rfl⟩; exact ⟨rfl, (by (try simp only [List.cons_append, List.nil_append]); repeat (first | exact Ent.nil | refine Ent.per (by repeat (first | with_reducible exact Sel.here | with_reducible apply Sel.there)) ?_ | refine Ent.cons (by repeat (first | with_reducible exact Sel.here | with_reducible apply Sel.there)) ?_))⟩) (h := ?_)
    refine dt_ ?_
    try refine d_look rfl (lk_ixs (v := .slice a W.length c) (i := 2)) ?_
    refine dt_ ?_
    refine d_call (ho := rfl) (v := .int .i64 (numR (W.getD 2 []))) (sp := spl_) (hs := rnumber_c (W.getD 2 []) (hb 2 (by decide)).1 (hb 2 (by decide)).2) (hq := by rintro r Bs ⟨rfl, rfl⟩; exact ⟨rfl, (by (try simp only [List.cons_append, List.nil_append]); repeat (first | exact Ent.nil | refine Ent.per (by repeat (first | with_reducible exact Sel.here | with_reducible apply Sel.there)) ?_ | refine Ent.cons (by repeat (first | with_reducible exact Sel.here | with_reducible apply Sel.there)) ?_))⟩) (h := ?_)
    refine dt_ ?_
    try refine d_look rfl (lk_ixs (v := .slice a W.length c) (i := 3)) ?_
    refine dt_ ?_
    refine d_call (ho := rfl) (v := .int .i64 (numR (W.getD 3 []))) (sp := spl_) (hs := rnumber_c (W.getD 3 []) (hb 3 (by decide)).1 (hb 3 (by decide)).2) (hq := by rintro r Bs ⟨rfl, rfl⟩; exact ⟨rfl, (by (try simp only [List.cons_append, List.nil_append]); repeat (first | exact Ent.nil | refine Ent.per (by repeat (first | with_reducible exact Sel.here | with_reducible apply Sel.there)) ?_ | refine Ent.cons (by repeat (first | with_reducible exact Sel.here | with_reducible apply Sel.there)) ?_))⟩) (h := ?_)
    refine dt_ ?_
    try refine d_look rfl (lk_ixs (v := .slice a W.length c) (i := 4)) ?_
    refine dt_ ?_
    refine d_call (ho := rfl) (v := .int .i64 (numR (W.getD 4 []))) (sp := spl_) (hs := rnumber_c (W.getD 4 []) (hb 4 (by decide)).1 (hb 4 (by decide)).2) (hq := by rintro r Bs ⟨rfl, rfl⟩; exact ⟨rfl, (by (try simp only [List.cons_append, List.nil_append]); repeat (first | exact Ent.nil | refine Ent.per (by repeat (first | with_reducible exact Sel.here | with_reducible apply Sel.there)) ?_ | refine Ent.cons (by repeat (first | with_reducible exact Sel.here | with_reducible apply Sel.there)) ?_))⟩) (h := ?_)
    refine dt_ ?_
    refine d_look rfl (lk_b2s (s := op) (a := ap) (m := op.length) (c := cp) (by repeat (first | with_reducible exact SelR.here | with_reducible apply SelR.there)) rfl) ?_
    refine dt_ ?_
    refine d_look rfl (lk_b2s (s := oq) (a := aq) (m := oq.length) (c := cq) (by repeat (first | with_reducible exact SelR.here | with_reducible apply SelR.there)) rfl) ?_
    refine dt_ ?_
    refine d_look rfl (lk_bd8 (r := [.int .i64 (numR (W.getD 0 [])), .int .i64 (numR (W.getD 1 [])), .int .i64 (numR (W.getD 2 [])), .int .i64 (numR (W.getD 3 [])), .int .i64 (numR (W.getD 4 [])), .string (strB op), .string (strB oq), .slice ad od.length cd]) (hf := ⟨rfl⟩)) ?_
    refine dt_ ?_
    refine d_stepU rfl (st_st (b := r2) (off := 0) (m := 8) (c := [.int .i64 0, .int .i64 0, .int .i64 0, .int .i64 0, .int .i64 0, .string ByteArray.empty, .string ByteArray.empty, .slice none 0 0]) (c' := [.int .i64 (numR (W.getD 0 [])), .int .i64 (numR (W.getD 1 [])), .int .i64 (numR (W.getD 2 [])), .int .i64 (numR (W.getD 3 [])), .int .i64 (numR (W.getD 4 [])), .string (strB op), .string (strB oq), .slice ad od.length cd]) (vs := [.int .i64 (numR (W.getD 0 [])), .int .i64 (numR (W.getD 1 [])), .int .i64 (numR (W.getD 2 [])), .int .i64 (numR (W.getD 3 [])), .int .i64 (numR (W.getD 4 [])), .string (strB op), .string (strB oq), .slice ad od.length cd]) (v := .agg ([.int .i64 (numR (W.getD 0 [])), .int .i64 (numR (W.getD 1 [])), .int .i64 (numR (W.getD 2 [])), .int .i64 (numR (W.getD 3 [])), .int .i64 (numR (W.getD 4 [])), .string (strB op), .string (strB oq), .slice ad od.length cd] : List Value).toArray)) ?_
    rintro _ _ rfl
    refine dt_ ?_
    refine gt_ ?_
    exact s_ret1 (rs := [.cell 2 42]) Tryd.func30 rfl (by intro j; refine RVS.cell _ _ rfl sel_ (by rfl) ?_; exact RVS.nil) (⟨ad, cd, rfl, rfl⟩) ent_
end Go.Proofs.YtmlddafbenfilaaDoor
/- The document's Parse. -/
namespace Go.Proofs.YtmlddafbenfilaaDoor
open Go.Cam
set_option maxRecDepth 100000
/-- the document's event of a line, if its line is that one -/
def evD (w : List Nat) : Option Ev := if lineN (evR w) = w then some (evR w) else none
theorem cut10_none : ∀ (w : List Nat), 10 ∉ w → (cut10 w).2 = none
  | [], _ => rfl
  | c :: w, h => by
    have hc : c ≠ 10 := fun e => h (by rw [e]; exact List.mem_cons_self ..)
    rw [cut10, if_neg hc]
    exact cut10_none w fun q => h (List.mem_cons_of_mem _ q)
theorem parseN_line (ev : List Nat → Option Ev) (f : Nat) (w r : List Nat) (acc : List Ev) (h : 10 ∉ w) : parseN ev (f + 1) (w ++ 10 :: r) acc = match ev w with
    | none => .error (acc.length + 1)
    | some e => parseN ev f r (acc ++ [e]) := by
  have hc := cut10_line w r h
  cases hs : w ++ 10 :: r with
  | nil => exact absurd hs (by simp)
  | cons c s =>
    rw [hs] at hc
    rw [parseN, hc]
    rfl
theorem parseN_stop (ev : List Nat → Option Ev) (f : Nat) (w : List Nat) (acc : List Ev) (h : 10 ∉ w) (hn : w ≠ []) : parseN ev f w acc = .error (acc.length + 1) := by
  cases w with
  | nil => exact absurd rfl hn
  | cons c s =>
    cases f with
    | zero => rw [parseN]
    | succ f =>
      rw [parseN, cut10_none _ h]
theorem parseN_nil (ev : List Nat → Option Ev) (f : Nat) (acc : List Ev) : parseN ev f [] acc = .ok acc := by
  cases f <;> rw [parseN]
theorem count_snoc (s : List Nat) (i : Nat) (hi : i < s.length) : (s.take (i + 1)).count 10 = (s.take i).count 10 + (if s.getD i 0 = 10 then 1 else 0) := by
  have e : s.take (i + 1) = s.take i ++ [s.getD i 0] := by
    rw [List.take_add_one, List.getElem?_eq_getElem hi, List.getD_eq_getElem?_getD, List.getElem?_eq_getElem hi]; rfl
  rw [e, List.count_append, List.count_singleton]
  by_cases h : s.getD i 0 = 10 <;> simp [h]
set_option maxHeartbeats 32000000 in
theorem rparse_c (s : List Nat) (hs : Bys s) (hl : s.length ≤ 900000) : Ctr Tryd.prog 13 [.string (strB s)] [GL] (ParP (parR evD s)) := by
  refine s_enter 69 [(0, _)] (fun F => [_, F]) Tryd.func13 fun F => ?_
  refine gt_ ?_
  refine s_loop (fun y : Nat × Nat => [(0, .string (strB s)), (5, .int .i64 (y.2 : Int)), (6, .int .i64 (y.1 : Int))]) (fun _ => [GL, F]) (fun y => y.1 ≤ s.length ∧ y.2 = (s.take y.1).count 10 ∧ y.2 ≤ y.1) (fun y => s.length - y.1) (0, 0) ⟨Nat.zero_le _, rfl, Nat.le_refl _⟩ ent_ ?_
  rintro ⟨i, n⟩ ⟨hi, hn, hni⟩ next
  dsimp only at hi hn hni
  show RunS _ _ _ _ _ [(0, .string (strB s)), (5, .int .i64 (n : Int)), (6, .int .i64 (i : Int))] [GL, F]
  refine gt_ ?_
  cases h1 : decide ((i : Int) < (s.length : Int)) with
  | true =>
    have h2 := of_decide_eq_true h1
    have h2n : i < s.length := by omega
    have hcs := count_snoc s i h2n
    rw [← hn] at hcs
    refine gt_ ?_
    cases h3 : (((s.getD i 0 : Nat) : Int) == 10) with
    | true =>
      have h4 : s.getD i 0 = 10 := by have := eq_of_beq h3; omega
      rw [if_pos h4] at hcs
      refine gt_ ?_
      exact s_entF ent_ (s_keep _ (next (i + 1, n + 1) ⟨h2n, hcs.symm, by show n + 1 ≤ i + 1; omega⟩ (by show s.length - (i + 1) < s.length - i; omega)))
    | false =>
      have h4 : s.getD i 0 ≠ 10 := fun e => by rw [e] at h3; exact absurd h3 (by decide)
      rw [if_neg h4] at hcs
      refine gt_ ?_
      exact s_entF ent_ (s_keep _ (next (i + 1, n) ⟨h2n, hcs.symm, by show n ≤ i + 1; omega⟩ (by show s.length - (i + 1) < s.length - i; omega)))
  | false =>
    have h2 := of_decide_eq_false h1
    have hct : n = s.count 10 := by rw [hn, List.take_of_length_le (by omega)]
    clear next hn hni
    refine gt_ ?_
    cases h3 : decide ((s.length : Int) > 65536) with
    | true =>
      have h4 := of_decide_eq_true h3
      have e1 : parR evD s = ([], 0, 7) := by unfold parR; rw [if_pos (.inl (by omega))]
      rw [e1]
      refine gt_ ?_
      refine s_new0 (e := 42) (sz := 8) (row := evRow (fun _ => (none, 0)) []) (s_open (B := SA (some 42) 8 (.slice none ([] : List Ev).length 0) ([] : List Ev).length (evRow (fun _ => (none, 0)) [])) (fun _ _ h => h) ?_)
      refine s_fam0 (F := EvOne (fun _ => (none, 0)) []) (s_open (B := EvFam (fun _ => (none, 0)) []) (fun _ _ h => h) ?_)
      exact s_rett (rs := [.tmp 2, .tmp 3, .tmp 4]) (vs := [_, _, _]) Tryd.func13 rfl (by intro j; refine RVS.tmp _ rfl ?_; refine RVS.tmp _ rfl ?_; refine RVS.tmp _ rfl ?_; exact RVS.nil) rfl (⟨none, 0, fun _ => (none, 0), rfl, rfl⟩) ent_
    | false =>
      have h4 := of_decide_eq_false h3
      refine gt_ ?_
      cases h5 : decide ((n : Int) > 4096) with
      | true =>
        have h6 := of_decide_eq_true h5
        have e1 : parR evD s = ([], 0, 7) := by unfold parR; rw [if_pos (.inr (by omega))]
        rw [e1]
        refine gt_ ?_
        refine s_new0 (e := 42) (sz := 8) (row := evRow (fun _ => (none, 0)) []) (s_open (B := SA (some 42) 8 (.slice none ([] : List Ev).length 0) ([] : List Ev).length (evRow (fun _ => (none, 0)) [])) (fun _ _ h => h) ?_)
        refine s_fam0 (F := EvOne (fun _ => (none, 0)) []) (s_open (B := EvFam (fun _ => (none, 0)) []) (fun _ _ h => h) ?_)
        exact s_rett (rs := [.tmp 2, .tmp 3, .tmp 4]) (vs := [_, _, _]) Tryd.func13 rfl (by intro j; refine RVS.tmp _ rfl ?_; refine RVS.tmp _ rfl ?_; refine RVS.tmp _ rfl ?_; exact RVS.nil) rfl (⟨none, 0, fun _ => (none, 0), rfl, rfl⟩) ent_
      | false =>
        have h6 := of_decide_eq_false h5
        have e1 : parR evD s = match parseN evD s.length s [] with
          | .ok l => (l, 0, 0)
          | .error k => ([], (k : Int), 240) := by unfold parR; rw [if_neg (by omega)]; rfl
        refine gt_ ?_
        refine s_new0 (e := 42) (sz := 8) (row := evRow (fun _ => (none, 0)) []) (s_open (B := SA (some 42) 8 (.slice none ([] : List Ev).length 0) ([] : List Ev).length (evRow (fun _ => (none, 0)) [])) (fun _ _ h => h) ?_)
        refine s_fam0 (F := EvOne (fun _ => (none, 0)) []) (s_open (B := EvFam (fun _ => (none, 0)) []) (fun _ _ h => h) ?_)
        refine gt_ ?_
        refine s_loop (fun y : (Nat × Nat) × List Ev × Option Addr × Nat × (Nat → Option Addr × Nat) => [(0, .string (strB s)), (7, .slice y.2.2.1 y.2.1.length y.2.2.2.1), (8, .int .i64 (y.1.2 : Int)), (9, .int .i64 (y.1.1 : Int))]) (fun y => [GL, SA (some 42) 8 (.slice y.2.2.1 y.2.1.length y.2.2.2.1) y.2.1.length (evRow y.2.2.2.2 y.2.1), EvFam y.2.2.2.2 y.2.1, F]) (fun y => y.1.1 ≤ s.length ∧ y.1.2 ≤ y.1.1 ∧ y.2.1.length ≤ y.1.2 ∧ 10 ∉ (s.take y.1.1).drop y.1.2 ∧ ∃ f, s.length - y.1.2 ≤ f ∧ parseN evD s.length s [] = parseN evD f (s.drop y.1.2) y.2.1) (fun y => s.length - y.1.1) ((0, 0), [], none, 0, fun _ => (none, 0)) ⟨Nat.zero_le _, Nat.le_refl _, Nat.le_refl _, by simp, s.length, Nat.le_refl _, rfl⟩ ent_ ?_
        rintro ⟨⟨i, p⟩, acc, a, c, w⟩ ⟨hi, hpi, hap, hno, f, hf, hinv⟩ next
        dsimp only at hi hpi hap hno hf hinv
        show RunS _ _ _ _ _ [(0, .string (strB s)), (7, .slice a acc.length c), (8, .int .i64 (p : Int)), (9, .int .i64 (i : Int))] [GL, SA (some 42) 8 (.slice a acc.length c) acc.length (evRow w acc), EvFam w acc, F]
        refine gt_ ?_
        cases h7 : decide ((i : Int) < (s.length : Int)) with
        | false =>
          have h8 := of_decide_eq_false h7
          have hfull : s.take i = s := List.take_of_length_le (by omega)
          rw [hfull] at hno
          refine gt_ ?_
          cases h9 : ((p : Int) != (s.length : Int)) with
          | true =>
            have h10 : p ≠ s.length := by intro e; rw [e] at h9; simp at h9
            have hne : s.drop p ≠ [] := fun e => by have := congrArg List.length e; rw [List.length_drop, List.length_nil] at this; omega
            have e2 : parR evD s = ([], ((acc.length + 1 : Nat) : Int), 240) := by rw [e1, hinv, parseN_stop _ _ _ _ hno hne]
            rw [e2]
            refine gt_ ?_
            refine s_drop (a := SA (some 42) 8 (.slice a acc.length c) acc.length (evRow w acc)) sel_ ?_
            refine s_drop (a := EvFam w acc) sel_ ?_
            refine s_new0 (e := 42) (sz := 8) (row := evRow (fun _ => (none, 0)) []) (s_open (B := SA (some 42) 8 (.slice none ([] : List Ev).length 0) ([] : List Ev).length (evRow (fun _ => (none, 0)) [])) (fun _ _ h => h) ?_)
            refine s_fam0 (F := EvOne (fun _ => (none, 0)) []) (s_open (B := EvFam (fun _ => (none, 0)) []) (fun _ _ h => h) ?_)
            exact s_rett (rs := [.tmp 2, .tmp 3, .tmp 4]) (vs := [_, _, _]) Tryd.func13 rfl (by intro j; refine RVS.tmp _ rfl ?_; refine RVS.tmp _ rfl ?_; refine RVS.tmp _ rfl ?_; exact RVS.nil) rfl (⟨none, 0, fun _ => (none, 0), rfl, rfl⟩) ent_
          | false =>
            have h10 : p = s.length := by
              have h11 : (p : Int) = (s.length : Int) := by simpa using h9
              omega
            have e2 : parR evD s = (acc, 0, 0) := by rw [e1, hinv, h10, List.drop_length, parseN_nil]
            rw [e2]
            refine gt_ ?_
            exact s_rett (rs := [.tmp 2, .tmp 3, .tmp 4]) (vs := [_, _, _]) Tryd.func13 rfl (by intro j; refine RVS.tmp _ rfl ?_; refine RVS.tmp _ rfl ?_; refine RVS.tmp _ rfl ?_; exact RVS.nil) rfl (⟨a, c, w, rfl, rfl⟩) ent_
        | true =>
          have h8 := of_decide_eq_true h7
          have h8n : i < s.length := by omega
          have hmid := drop_mid hpi hi
          have hcs := drop_cons h8n
          refine gt_ ?_
          cases h9 : (((s.getD i 0 : Nat) : Int) != 10) with
          | true =>
            have h10 : s.getD i 0 ≠ 10 := fun e => by rw [e] at h9; exact absurd h9 (by decide)
            refine gt_ ?_
            exact s_entF ent_ (s_keep _ (next ((i + 1, p), acc, a, c, w) ⟨h8n, by show p ≤ i + 1; omega, hap, mid_not hpi h8n hno h10, f, hf, hinv⟩ (by show s.length - (i + 1) < s.length - i; omega)))
          | false =>
            have h10 : s.getD i 0 = 10 := by
              have h11 : (((s.getD i 0 : Nat) : Int)) = 10 := by simpa using h9
              omega
            obtain ⟨f', hf'⟩ : ∃ f', f = f' + 1 := ⟨f - 1, by omega⟩
            have hst : parseN evD s.length s [] = match evD ((s.take i).drop p) with
                | none => .error (acc.length + 1)
                | some e => parseN evD f' (s.drop (i + 1)) (acc ++ [e]) := by
              rw [hinv, hf', hmid, hcs, h10, parseN_line _ _ _ _ _ hno]
            have hml : ((s.take i).drop p).length ≤ s.length := by rw [List.length_drop, List.length_take]; omega
            have hmb : Bys ((s.take i).drop p) := fun x hx => hs x (List.mem_of_mem_take (List.mem_of_mem_drop hx))
            refine gt_ ?_
            refine s_look (lk_ssl p i (s := s) hpi hi) ?_
            generalize hL : (s.take i).drop p = L at hst hml hmb
            have hfit := evR_fit hmb (by omega)
            have hlb := lineN_bys hfit.ok
            refine gt_ ?_
            refine s_call (sp := spl_) (hs := revent_c L hmb (by omega)) (h := ?_)
            rintro v Bs ⟨ae, ce, rfl, rfl⟩
            refine gt_ ?_
            refine s_alloc fun r10 => ?_
            refine gt_ ?_
            refine s_front (a := SA (some 5) 1 (.slice ae (evR L).data.length ce) (evR L).data.length (byR (evR L).data)) sel_ ?_
            refine s_front (a := GL) sel_ ?_
            refine s_drawN 2 [.q 0, .q 2, .q 3, .q 4, .q 5, .s 1, .q 6] ?_
            refine dt_ ?_
            refine d_look rfl (lk_ssl p i (s := s) hpi hi) ?_
            rw [hL]
            refine dt_ ?_
            refine d_step rfl (st_call (sp := spl_) (hs := rline_c (evR L) hfit (D := SA (some 5) 1 (.slice ae (evR L).data.length ce) (evR L).data.length (byR (evR L).data)) (a := ae) (c := ce))) ?_
            rintro v Bs ⟨Cs, ⟨rfl, rfl⟩, rfl⟩
            refine dt_ ?_
            refine gt_ ?_
            cases hq : decide (lineN (evR L) = L) with
            | false =>
              have hev : evD L = none := by unfold evD; rw [if_neg (of_decide_eq_false hq)]
              have e2 : parR evD s = ([], ((acc.length + 1 : Nat) : Int), 240) := by rw [e1, hst, hev]
              rw [e2]
              refine gt_ ?_
              refine s_drop (a := SA (some 42) 8 (.slice a acc.length c) acc.length (evRow w acc)) sel_ ?_
              refine s_drop (a := EvFam w acc) sel_ ?_
              refine s_new0 (e := 42) (sz := 8) (row := evRow (fun _ => (none, 0)) []) (s_open (B := SA (some 42) 8 (.slice none ([] : List Ev).length 0) ([] : List Ev).length (evRow (fun _ => (none, 0)) [])) (fun _ _ h => h) ?_)
              refine s_fam0 (F := EvOne (fun _ => (none, 0)) []) (s_open (B := EvFam (fun _ => (none, 0)) []) (fun _ _ h => h) ?_)
              exact s_rett (rs := [.tmp 2, .tmp 3, .tmp 4]) (vs := [_, _, _]) Tryd.func13 rfl (by intro j; refine RVS.tmp _ rfl ?_; refine RVS.tmp _ rfl ?_; refine RVS.tmp _ rfl ?_; exact RVS.nil) rfl (⟨none, 0, fun _ => (none, 0), rfl, rfl⟩) ent_
            | true =>
              have hev : evD L = some (evR L) := by unfold evD; rw [if_pos (of_decide_eq_true hq)]
              have hinv2 : parseN evD s.length s [] = parseN evD f' (s.drop (i + 1)) (acc ++ [evR L]) := by rw [hst, hev]
              generalize evR L = e at *
              refine gt_ ?_
              refine s_step (st_bs1 (sz := 8) (cells := evL e ae ce) rfl) ?_
              rintro v Bs ⟨a2, rfl, rfl⟩
              refine gt_ ?_
              refine s_app (a := a) (len := acc.length) (cap := c) (b := a2) (m := 1) (c := 1) sel_ (by repeat (first | with_reducible exact SelR.here | with_reducible apply SelR.there)) (by rw [flat_one]; rfl) (fun a3 c3 => ?_)
              refine s_open (SA.cg (evRow (wput w acc.length (ae, ce)) (acc ++ [e])) fun i hi => evRow_snoc i hi) ?_
              refine s_front (a := SA (some 5) 1 (.slice ae e.data.length ce) e.data.length (byR e.data)) sel_ ?_
              refine s_fz (e := 5) (sz := 1) (v := .slice ae e.data.length ce) (len := e.data.length) (row := byR e.data) sel_ (s_open (B := EvOne (wput w acc.length (ae, ce)) (acc ++ [e]) acc.length) evFam_new ?_)
              refine s_front (a := EvFam w acc) sel_ (s_open (B := Fam acc.length (EvOne (wput w acc.length (ae, ce)) (acc ++ [e]))) (Fam.cg _ fun i hi => evFam_old i hi) ?_)
              refine s_famS (m := acc.length) (F := EvOne (wput w acc.length (ae, ce)) (acc ++ [e])) sel_ sel_ ?_
              rw [show acc.length + 1 = (acc ++ [e]).length by simp]
              refine gt_ ?_
              exact s_entF ent_ (s_keep _ (next ((i + 1, i + 1), acc ++ [e], a3, c3, wput w acc.length (ae, ce)) ⟨h8n, Nat.le_refl _, by show (acc ++ [e]).length ≤ i + 1; simp only [List.length_append, List.length_singleton]; omega, by show 10 ∉ (s.take (i + 1)).drop (i + 1); rw [mid_nil]; simp, f', by show s.length - (i + 1) ≤ f'; omega, hinv2⟩ (by show s.length - (i + 1) < s.length - i; omega)))
end Go.Proofs.YtmlddafbenfilaaDoor
/- Two rows of the same events are the same. -/
namespace Go.Proofs.YtmlddafbenfilaaDoor
open Go.Cam
set_option maxRecDepth 100000
theorem ok_get {l : List Ev} (h : ∀ e ∈ l, e.ok) {i : Nat} (hi : i < l.length) : (l.getD i ev0).ok := by
  rw [List.getD_eq_getElem?_getD, List.getElem?_eq_getElem hi]
  exact h _ (List.getElem_mem hi)
set_option maxHeartbeats 32000000 in
theorem same_c (l : List Ev) (hl : ∀ e ∈ l, e.ok) (hn : l.length ≤ 4611686018427387904) {a a' : Option Addr} {c c' : Nat} {w w' : Nat → Option Addr × Nat} {X Y : HP} [Rd X 8 (.slice a l.length c) l.length (evRow w l)] [Rd Y 8 (.slice a' l.length c') l.length (evRow w' l)] : Ctr Tryd.prog 14 [.slice a l.length c, .slice a' l.length c'] [X, EvFam w l, Y, EvFam w' l] (fun v Bs => v = .bool true ∧ Bs = []) := by
  refine s_enter 83 [(0, _), (1, _)] (fun F => [_, _, _, _, F]) Tryd.func14 fun F => ?_
  refine gt_ ?_
  rw [show ((l.length : Int) != (l.length : Int)) = false from bne_self_eq_false _]
  refine gt_ ?_
  refine s_loop (fun i : Nat => [(0, .slice a l.length c), (1, .slice a' l.length c'), (5, .int .i64 (i : Int))]) (fun _ => [X, EvFam w l, Y, EvFam w' l, F]) (fun i => i ≤ l.length) (fun i => l.length - i) 0 (Nat.zero_le _) ent_ ?_
  rintro i hi next
  refine gt_ ?_
  cases h1 : decide ((i : Int) < (l.length : Int)) with
  | false =>
    refine gt_ ?_
    exact s_ret1 (rs := [.tmp 4]) Tryd.func14 rfl (by intro j; refine RVS.tmp _ rfl ?_; exact RVS.nil) (⟨rfl, rfl⟩) ent_
  | true =>
    have h2 := of_decide_eq_true h1
    have h3 : i < l.length := by omega
    have hok := ok_get hl h3
    have k6 := hok.k6
    have k7 := hok.k7
    have k8 := hok.k8
    refine s_dup (a := EvFam w l) sel_ (s_open (B := SA none 1 (.slice (w i).1 (l.getD i ev0).data.length (w i).2) (l.getD i ev0).data.length (byR (l.getD i ev0).data)) (Fam.get h3) ?_)
    refine s_dup (a := EvFam w' l) sel_ (s_open (B := SA none 1 (.slice (w' i).1 (l.getD i ev0).data.length (w' i).2) (l.getD i ev0).data.length (byR (l.getD i ev0).data)) (Fam.get h3) ?_)
    refine gt_ ?_
    refine s_look (lk_ldeN (sz := 8) (fo := 0) (n := l.length) (i := i) (v := .slice a l.length c) (vs := evL (l.getD i ev0) (w i).1 (w i).2) (s := (by repeat (first | with_reducible exact SelR.here | with_reducible apply SelR.there))) (hv := ⟨rfl⟩)) ?_
    refine gt_ ?_
    refine s_alloc fun r6 => ?_
    refine gt_ ?_
    refine s_look (lk_ldeN (sz := 8) (fo := 0) (n := l.length) (i := i) (v := .slice a' l.length c') (vs := evL (l.getD i ev0) (w' i).1 (w' i).2) (s := (by repeat (first | with_reducible exact SelR.here | with_reducible apply SelR.there))) (hv := ⟨rfl⟩)) ?_
    refine gt_ ?_
    refine s_alloc fun r7 => ?_
    generalize l.getD i ev0 = e at *
    refine gt_ ?_
    rw [show (e.kind != e.kind) = false from bne_self_eq_false _]
    refine gt_ ?_
    rw [show (e.pid != e.pid) = false from bne_self_eq_false _]
    refine gt_ ?_
    rw [show (e.fd != e.fd) = false from bne_self_eq_false _]
    refine gt_ ?_
    rw [show (e.n != e.n) = false from bne_self_eq_false _]
    refine gt_ ?_
    rw [show (e.m != e.m) = false from bne_self_eq_false _]
    refine gt_ ?_
    rw [decide_eq_true (rfl : e.path = e.path)]
    refine gt_ ?_
    rw [decide_eq_true (rfl : e.name = e.name)]
    refine gt_ ?_
    refine s_look (lk_b2s (s := e.data) (a := (w i).1) (m := e.data.length) (c := (w i).2) (by repeat (first | with_reducible exact SelR.here | with_reducible apply SelR.there)) rfl) ?_
    refine gt_ ?_
    refine s_look (lk_b2s (s := e.data) (a := (w' i).1) (m := e.data.length) (c := (w' i).2) (by repeat (first | with_reducible exact SelR.here | with_reducible apply SelR.there)) rfl) ?_
    refine gt_ ?_
    rw [decide_eq_true (rfl : e.data = e.data)]
    refine gt_ ?_
    exact s_entF ent_ (s_keep _ (next (i + 1) (by show i + 1 ≤ l.length; omega) (by show l.length - (i + 1) < l.length - i; omega)))
end Go.Proofs.YtmlddafbenfilaaDoor
/- The law of quotes. -/
namespace Go.Proofs.YtmlddafbenfilaaDoor
open Go.Cam
set_option maxRecDepth 100000
theorem take_bys {b : List Nat} (h : Bys b) (n : Nat) : Bys (b.take n) := fun x hx => h x (List.mem_of_mem_take hx)
end Go.Proofs.YtmlddafbenfilaaDoor
/- The law of scripts. -/
namespace Go.Proofs.YtmlddafbenfilaaDoor
open Go.Cam
set_option maxRecDepth 100000
theorem par_same {s : List Nat} (hs : Bys s) : parR evD s = parR evF s := by
  have h : parseN evF s.length s [] = parseN evD s.length s [] := parse_same _ _ _ hs
  unfold parR
  rw [h]
theorem parseN_ok (ev : List Nat → Option Ev) (hev : ∀ w e, Bys w → ev w = some e → e.ok) : ∀ (f : Nat) (s : List Nat) (acc l : List Ev), Bys s → (∀ e ∈ acc, e.ok) → parseN ev f s acc = .ok l → (∀ e ∈ l, e.ok) ∧ l.length ≤ acc.length + s.length
  | f, [], acc, l, _, ha, h => by
    rw [parseN_nil] at h; cases h
    exact ⟨ha, Nat.le_add_right _ _⟩
  | 0, c :: s, acc, l, _, _, h => by rw [parseN] at h; cases h
  | f + 1, c :: s, acc, l, hs, ha, h => by
    rw [parseN] at h
    have hcl := cut10_len (c :: s)
    have hcb := cut10_bys (c :: s) hs
    cases hc : (cut10 (c :: s)).2 with
    | none => rw [hc] at h; cases h
    | some r =>
      rw [hc] at h
      dsimp only at h
      cases he : ev (cut10 (c :: s)).1 with
      | none => rw [he] at h; cases h
      | some e =>
        rw [he] at h
        dsimp only at h
        obtain ⟨h1, h2⟩ := parseN_ok ev hev f r (acc ++ [e]) l (hcb.2 r hc) (fun x hx => by
          rcases List.mem_append.1 hx with hx | hx
          · exact ha x hx
          · rw [List.mem_singleton.1 hx]; exact hev _ _ hcb.1 he) h
        refine ⟨h1, ?_⟩
        have := hcl.2 r hc
        rw [List.length_append, List.length_singleton] at h2
        rw [List.length_cons] at this ⊢
        omega
theorem evF_ok {w : List Nat} {e : Ev} (hw : Bys w) (h : evF w = some e) : e.ok := by
  unfold evF at h
  exact evP_ok hw (Option.filter_eq_some_iff.1 h).1
theorem parR_ok {s : List Nat} (hs : Bys s) : (∀ e ∈ (parR evF s).1, e.ok) ∧ (parR evF s).1.length ≤ s.length := by
  unfold parR
  split
  · exact ⟨fun e h => (by cases h), Nat.zero_le _⟩
  · cases h : parseN evF s.length s [] with
    | error k => exact ⟨fun e h => (by cases h), Nat.zero_le _⟩
    | ok l =>
      obtain ⟨h1, h2⟩ := parseN_ok evF (fun _ _ => evF_ok) _ _ _ _ hs (fun e h => by cases h) h
      exact ⟨h1, by simpa using h2⟩
set_option maxHeartbeats 32000000 in
theorem parses_c (s : List Nat) (hs : Bys s) (hsl : s.length ≤ 9223372036854775807) : Ctr Tryd.prog 4 [.string (strB s)] [GL] (fun v Bs => v = .bool true ∧ Bs = []) := by
  refine s_enter 46 [(0, _)] (fun F => [_, F]) Tryd.func4 fun F => ?_
  refine gt_ ?_
  refine s_call (sp := spl_) (hs := shown_c) (h := ?_)
  rintro v Bs ⟨rfl, rfl⟩
  refine gt_ ?_
  cases hs0 : decide ((s.length : Int) > 66000) with
  | false =>
    have hs1 := of_decide_eq_false hs0
    have hS := hs
    refine gt_ ?_
    refine s_call (sp := spl_) (hs := parse_c s hS (by omega)) (h := ?_)
    rintro v Bs ⟨a1, c1, w1, rfl, rfl⟩
    refine gt_ ?_
    refine s_call (sp := spl_) (hs := rparse_c s hS (by omega)) (h := ?_)
    rw [par_same hS]
    rintro v Bs ⟨a2, c2, w2, rfl, rfl⟩
    obtain ⟨hok, hln⟩ := parR_ok hS
    generalize parR evF s = R at *
    obtain ⟨l, n, e⟩ := R
    dsimp only at hok hln ⊢
    refine gt_ ?_
    refine s_call (sp := spl_) (hs := same_c l hok (by omega) (a := a1) (a' := a2) (c := c1) (c' := c2) (w := w1) (w' := w2) (X := SA (some 42) 8 (.slice a1 l.length c1) l.length (evRow w1 l)) (Y := SA (some 42) 8 (.slice a2 l.length c2) l.length (evRow w2 l))) (h := ?_)
    rintro v Bs ⟨rfl, rfl⟩
    refine gt_ ?_
    rw [show (n == n) = true from beq_self_eq_true _]
    refine gt_ ?_
    exact s_ret1 (rs := [.tmp 2]) Tryd.func4 rfl (by intro j; refine RVS.tmp _ rfl ?_; exact RVS.nil) (⟨by rw [beq_self_eq_true], rfl⟩) ent_
  | true =>
    have hs1 := of_decide_eq_true hs0
    have hS := take_bys hs 66000
    have hs3 : (s.take 66000).length ≤ 66000 := List.length_take_le _ _
    refine gt_ ?_
    refine s_look (lk_ssl 0 66000 (s := s) (by decide) (by omega)) ?_
    rw [List.drop_zero]
    refine gt_ ?_
    refine s_call (sp := spl_) (hs := parse_c (s.take 66000) hS (by omega)) (h := ?_)
    rintro v Bs ⟨a1, c1, w1, rfl, rfl⟩
    refine gt_ ?_
    refine s_call (sp := spl_) (hs := rparse_c (s.take 66000) hS (by omega)) (h := ?_)
    rw [par_same hS]
    rintro v Bs ⟨a2, c2, w2, rfl, rfl⟩
    obtain ⟨hok, hln⟩ := parR_ok hS
    generalize parR evF (s.take 66000) = R at *
    obtain ⟨l, n, e⟩ := R
    dsimp only at hok hln ⊢
    refine gt_ ?_
    refine s_call (sp := spl_) (hs := same_c l hok (by omega) (a := a1) (a' := a2) (c := c1) (c' := c2) (w := w1) (w' := w2) (X := SA (some 42) 8 (.slice a1 l.length c1) l.length (evRow w1 l)) (Y := SA (some 42) 8 (.slice a2 l.length c2) l.length (evRow w2 l))) (h := ?_)
    rintro v Bs ⟨rfl, rfl⟩
    refine gt_ ?_
    rw [show (n == n) = true from beq_self_eq_true _]
    refine gt_ ?_
    exact s_ret1 (rs := [.tmp 2]) Tryd.func4 rfl (by intro j; refine RVS.tmp _ rfl ?_; exact RVS.nil) (⟨by rw [beq_self_eq_true], rfl⟩) ent_
end Go.Proofs.YtmlddafbenfilaaDoor
