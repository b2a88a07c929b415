/- The event of a line, as the program reads it. -/
import Derived.Test.YtmlddafbenfilaaDoorDskP
import Derived.Test.YtmlddafbenfilaaDoorCamAS
import Derived.Test.YtmlddafbenfilaaDoorCards
import Derived.Test.YtmlddafbenfilaaDoorTie
import Derived.Handed
import Derived.HandedShaped
import Derived.Lay
import Derived.LaidMore
import Derived.SevenTiedAt
import Derived.Stop.LaidErr
import Derived.Stop.Joined
import Derived.Shelf.Vars
namespace Go.Proofs.YtmlddafbenfilaaDoor
open Go.Cam
set_option maxRecDepth 100000
/-- what the reading of a line answers -/
def EvP (s : List Nat) (v : Value) (Bs : List HP) : Prop := ∃ e a c, v = .tuple #[.agg (evL e a c).toArray, .bool (evF s).isSome] ∧ (∀ x, evF s = some x → e = x) ∧ Bs = [SA (some 5) 1 (.slice a e.data.length c) e.data.length (byR e.data)]
abbrev txL (ws : List (List Nat)) : List Value := ws.map fun w => .string (strB w)
theorem tx_at (ws : List (List Nat)) {i : Nat} (h : i < ws.length) : (txL ws)[i]? = some (.string (strB (ws.getD i []))) := by
  rw [List.getElem?_map, List.getElem?_eq_getElem h, List.getD_eq_getElem?_getD, List.getElem?_eq_getElem h]; rfl
theorem splitB_sum : ∀ (s : List Nat), ((splitB s).map (·.length)).sum ≤ s.length
  | [] => by simp [splitB]
  | c :: r => by
    have ih := splitB_sum r
    rw [splitB]
    split
    · simp only [List.map_cons, List.length_nil, List.sum_cons, List.length_cons]; omega
    · split
      · rename_i w ws e
        rw [e] at ih
        simp only [List.map_cons, List.sum_cons, List.length_cons] at ih ⊢; omega
      · simp
theorem sum_mem {l : List Nat} {x : Nat} (h : x ∈ l) : x ≤ l.sum := by
  induction l with
  | nil => cases h
  | cons y l ih =>
    rw [List.sum_cons]
    rcases List.mem_cons.1 h with rfl | h
    · omega
    · have := ih h; omega
theorem splitB_len (s : List Nat) : ∀ w ∈ splitB s, w.length ≤ s.length := fun w hw => Nat.le_trans (sum_mem (List.mem_map.2 ⟨w, hw, rfl⟩)) (splitB_sum s)
theorem fill_len (s : List Nat) (i : Nat) : ((fillN s).getD i []).length ≤ s.length + 2 := by
  rw [List.getD_eq_getElem?_getD]
  cases h : (fillN s)[i]? with
  | none => simp
  | some w =>
    rcases List.mem_append.1 (List.mem_of_getElem? h) with h | h
    · have := splitB_len s w h
      show w.length ≤ _; omega
    · have h2 := List.mem_of_mem_drop h
      unfold dW at h2
      simp only [List.mem_cons, List.not_mem_nil, or_false] at h2
      show w.length ≤ _
      rcases h2 with rfl | rfl | rfl | rfl | rfl | rfl | rfl | rfl <;> simp
theorem fill_eight {s : List Nat} (h : (splitB s).length ≤ 8) : (fillN s).length = 8 := by
  unfold fillN
  rw [List.length_append, List.length_drop]
  show _ + (8 - _) = 8
  omega
theorem evF_none {s : List Nat} (h : evP s = none) : evF s = none := by unfold evF; rw [h]; rfl
theorem evF_ev {s : List Nat} {e : Ev} (h : evP s = some e) : evF s = if lineN e = s then some e else none := by
  unfold evF; rw [h]
  show (if decide (lineN e = s) = true then some e else none) = _
  by_cases q : lineN e = s
  · rw [if_pos q, if_pos (decide_eq_true q)]
  · rw [if_neg q, if_neg (by rw [decide_eq_false q]; decide)]
theorem qB_ge : ∀ (o : List Nat), o.length ≤ (qB o).length
  | [] => Nat.le_refl _
  | c :: o => by
    have ih := qB_ge o
    show (c :: o).length ≤ (q1 c ++ qB o).length
    have : 1 ≤ (q1 c).length := by unfold q1; split <;> simp
    rw [List.length_append, List.length_cons]; omega
theorem wd_zero : wdL ev0 = txL dW := by
  show txL (wordsN ev0) = _
  rw [dW_is]
theorem unq_len {s o : List Nat} (hs : Bys s) (h : unquoteP s = some o) : o.length ≤ s.length := by
  unfold unquoteP at h
  split at h
  · cases h
  · obtain ⟨h1, _, _⟩ := unP_spec _ _ o (Nat.le_refl _) h fun x hx => hs x (List.mem_of_mem_drop (List.dropLast_subset _ hx))
    have h2 := qB_ge o
    rw [h1, List.length_dropLast, List.length_drop] at h2
    omega
set_option maxHeartbeats 32000000 in
theorem event_c (s : List Nat) (hs : Bys s) (hl : s.length ≤ 100000) : Ctr Tryd.prog 29 [.string (strB s)] [GL] (EvP s) := by
  refine s_enter 97 [(0, _)] (fun F => [_, F]) Tryd.func29 fun F => ?_
  refine gt_ ?_
  refine s_alloc fun r2 => ?_
  refine gt_ ?_
  refine s_new0 (e := 5) (sz := 1) (row := byR []) (s_open (B := SA (some 5) 1 (.slice none ev0.data.length 0) ev0.data.length (byR ev0.data)) (fun _ _ h => h) ?_)
  refine s_call (sp := spl_) (hs := words_c ev0 ev0_fit (D := SA (some 5) 1 (.slice none ev0.data.length 0) ev0.data.length (byR ev0.data)) (a := none) (c := 0)) (h := ?_)
  rintro v Bs ⟨rfl, rfl⟩
  refine gt_ ?_
  refine s_alloc fun r4 => ?_
  refine gt_ ?_
  refine s_call (sp := spl_) (hs := split_c s hs (by omega)) (h := ?_)
  rintro v Bs ⟨a5, c5, rfl, rfl⟩
  refine gt_ ?_
  refine s_front (a := Box r4 74 (wdL ev0)) sel_ (s_open (B := Box r4 74 (txL dW)) (fun H M h => by rw [← wd_zero]; exact h) ?_)
  cases h8 : decide (((splitB s).length : Int) > 8) with
  | true =>
    have h9 := of_decide_eq_true h8
    have e1 : evF s = none := evF_none (by unfold evP; rw [if_pos (by omega)])
    refine gt_ ?_
    exact s_rett (rs := [.cell 2 42, .tmp 3]) (vs := [_, _]) Tryd.func29 rfl (by intro j; refine RVS.cell _ _ rfl sel_ (by rfl) ?_; refine RVS.tmp _ rfl ?_; exact RVS.nil) rfl (⟨ev0, none, 0, by rw [e1]; rfl, (fun x h => by rw [e1] at h; cases h), rfl⟩) ent_
  | false =>
    have h9 := of_decide_eq_false h8
    have hW : (fillN s).length = 8 := fill_eight (by omega)
    have hP : evP s = evW (fillN s) := by unfold evP; rw [if_neg (by omega)]
    have hWb := fill_bys hs
    have hWl := fill_len s
    refine gt_ ?_
    refine s_step (st_cpX (b := r4) (n' := 8) (c' := 8) (m := (splitB s).length) (u := a5) (c := c5) (cs := txL dW) (row := txR (splitB s)) (by omega) (by decide) (by repeat (first | with_reducible exact Upd.here | with_reducible apply Upd.there)) (by repeat (first | with_reducible exact SelR.here | with_reducible apply SelR.there)) (by rw [flat_tx, List.all_eq_true]; intro u hu; obtain ⟨x, _, rfl⟩ := List.mem_map.1 hu; rfl)) ?_
    rintro _ _ ⟨rfl, rfl⟩
    refine s_front (a := Box r4 74 (flat (splitB s).length (txR (splitB s)) ++ (txL dW).drop (splitB s).length)) sel_ (s_open (B := Box r4 74 (txL (fillN s))) (fun H M h => by rw [show txL (fillN s) = flat (splitB s).length (txR (splitB s)) ++ (txL dW).drop (splitB s).length by rw [flat_tx]; unfold fillN txL; rw [List.map_append, List.map_drop]]; exact h) ?_)
    generalize fillN s = W at hW hP hWb hWl
    refine gt_ ?_
    refine s_alloc fun r6 => ?_
    refine gt_ ?_
    refine s_bs (cells := [.pointer (some ⟨r6, 0, none⟩), .pointer (some ⟨r6, 1, none⟩), .pointer (some ⟨r6, 2, none⟩), .pointer (some ⟨r6, 3, none⟩), .pointer (some ⟨r6, 4, none⟩)]) (fun o => ?_) (fun j => rfl)
    refine gt_ ?_
    refine s_unroll ?_
    refine gt_ ?_
    refine s_look (lk_ixs (v := .slice o 5 5) (i := 0)) ?_
    refine s_look (lk_lde (v := .slice o 5 5) (u := .pointer (some ⟨r6, 0, none⟩))) ?_
    refine gt_ ?_
    refine s_look (lk_ldx (b := r4) (off := 0) (v := .string (strB (W.getD 0 []))) sel_ (tx_at W (by omega))) ?_
    refine gt_ ?_
    refine s_call (sp := spl_) (hs := atoi_c (W.getD 0 []) (by have := hWl 0; omega)) (h := ?_)
    rintro v Bs ⟨hv, rfl⟩
    cases hA0 : atoiN (W.getD 0 []) with
    | none =>
      rw [hA0] at hv
      obtain ⟨xx, tt, pp, rfl⟩ := hv
      have e1 : evF s = none := evF_none (by rw [hP]; unfold evW; rw [hA0])
      refine gt_ ?_
      exact s_rett (rs := [.cell 2 42, .tmp 3]) (vs := [_, _]) Tryd.func29 rfl (by intro j; refine RVS.cell _ _ rfl sel_ (by rfl) ?_; refine RVS.tmp _ rfl ?_; exact RVS.nil) rfl (⟨⟨0, 0, 0, 0, 0, [], [], []⟩, none, 0, by rw [e1]; rfl, (fun x h => by rw [e1] at h; cases h), rfl⟩) ent_
    | some x0 =>
      rw [hA0] at hv
      have hv2 : v = .tuple #[.int .i64 x0, .nilIface] := hv
      subst hv2
      refine gt_ ?_
      refine s_again ?_
      refine gt_ ?_
      refine s_look (lk_ixs (v := .slice o 5 5) (i := 1)) ?_
      refine s_look (lk_lde (v := .slice o 5 5) (u := .pointer (some ⟨r6, 1, none⟩))) ?_
      refine gt_ ?_
      refine s_look (lk_ldx (b := r4) (off := 1) (v := .string (strB (W.getD 1 []))) sel_ (tx_at W (by omega))) ?_
      refine gt_ ?_
      refine s_call (sp := spl_) (hs := atoi_c (W.getD 1 []) (by have := hWl 1; omega)) (h := ?_)
      rintro v Bs ⟨hv, rfl⟩
      cases hA1 : atoiN (W.getD 1 []) with
      | none =>
        rw [hA1] at hv
        obtain ⟨xx, tt, pp, rfl⟩ := hv
        have e1 : evF s = none := evF_none (by rw [hP]; unfold evW; rw [hA0, hA1])
        refine gt_ ?_
        exact s_rett (rs := [.cell 2 42, .tmp 3]) (vs := [_, _]) Tryd.func29 rfl (by intro j; refine RVS.cell _ _ rfl sel_ (by rfl) ?_; refine RVS.tmp _ rfl ?_; exact RVS.nil) rfl (⟨⟨x0, 0, 0, 0, 0, [], [], []⟩, none, 0, by rw [e1]; rfl, (fun x h => by rw [e1] at h; cases h), rfl⟩) ent_
      | some x1 =>
        rw [hA1] at hv
        have hv2 : v = .tuple #[.int .i64 x1, .nilIface] := hv
        subst hv2
        refine gt_ ?_
        refine s_again ?_
        refine gt_ ?_
        refine s_look (lk_ixs (v := .slice o 5 5) (i := 2)) ?_
        refine s_look (lk_lde (v := .slice o 5 5) (u := .pointer (some ⟨r6, 2, none⟩))) ?_
        refine gt_ ?_
        refine s_look (lk_ldx (b := r4) (off := 2) (v := .string (strB (W.getD 2 []))) sel_ (tx_at W (by omega))) ?_
        refine gt_ ?_
        refine s_call (sp := spl_) (hs := atoi_c (W.getD 2 []) (by have := hWl 2; omega)) (h := ?_)
        rintro v Bs ⟨hv, rfl⟩
        cases hA2 : atoiN (W.getD 2 []) with
        | none =>
          rw [hA2] at hv
          obtain ⟨xx, tt, pp, rfl⟩ := hv
          have e1 : evF s = none := evF_none (by rw [hP]; unfold evW; rw [hA0, hA1, hA2])
          refine gt_ ?_
          exact s_rett (rs := [.cell 2 42, .tmp 3]) (vs := [_, _]) Tryd.func29 rfl (by intro j; refine RVS.cell _ _ rfl sel_ (by rfl) ?_; refine RVS.tmp _ rfl ?_; exact RVS.nil) rfl (⟨⟨x0, x1, 0, 0, 0, [], [], []⟩, none, 0, by rw [e1]; rfl, (fun x h => by rw [e1] at h; cases h), rfl⟩) ent_
        | some x2 =>
          rw [hA2] at hv
          have hv2 : v = .tuple #[.int .i64 x2, .nilIface] := hv
          subst hv2
          refine gt_ ?_
          refine s_again ?_
          refine gt_ ?_
          refine s_look (lk_ixs (v := .slice o 5 5) (i := 3)) ?_
          refine s_look (lk_lde (v := .slice o 5 5) (u := .pointer (some ⟨r6, 3, none⟩))) ?_
          refine gt_ ?_
          refine s_look (lk_ldx (b := r4) (off := 3) (v := .string (strB (W.getD 3 []))) sel_ (tx_at W (by omega))) ?_
          refine gt_ ?_
          refine s_call (sp := spl_) (hs := atoi_c (W.getD 3 []) (by have := hWl 3; omega)) (h := ?_)
          rintro v Bs ⟨hv, rfl⟩
          cases hA3 : atoiN (W.getD 3 []) with
          | none =>
            rw [hA3] at hv
            obtain ⟨xx, tt, pp, rfl⟩ := hv
            have e1 : evF s = none := evF_none (by rw [hP]; unfold evW; rw [hA0, hA1, hA2, hA3])
            refine gt_ ?_
            exact s_rett (rs := [.cell 2 42, .tmp 3]) (vs := [_, _]) Tryd.func29 rfl (by intro j; refine RVS.cell _ _ rfl sel_ (by rfl) ?_; refine RVS.tmp _ rfl ?_; exact RVS.nil) rfl (⟨⟨x0, x1, x2, 0, 0, [], [], []⟩, none, 0, by rw [e1]; rfl, (fun x h => by rw [e1] at h; cases h), rfl⟩) ent_
          | some x3 =>
            rw [hA3] at hv
            have hv2 : v = .tuple #[.int .i64 x3, .nilIface] := hv
            subst hv2
            refine gt_ ?_
            refine s_again ?_
            refine gt_ ?_
            refine s_look (lk_ixs (v := .slice o 5 5) (i := 4)) ?_
            refine s_look (lk_lde (v := .slice o 5 5) (u := .pointer (some ⟨r6, 4, none⟩))) ?_
            refine gt_ ?_
            refine s_look (lk_ldx (b := r4) (off := 4) (v := .string (strB (W.getD 4 []))) sel_ (tx_at W (by omega))) ?_
            refine gt_ ?_
            refine s_call (sp := spl_) (hs := atoi_c (W.getD 4 []) (by have := hWl 4; omega)) (h := ?_)
            rintro v Bs ⟨hv, rfl⟩
            cases hA4 : atoiN (W.getD 4 []) with
            | none =>
              rw [hA4] at hv
              obtain ⟨xx, tt, pp, rfl⟩ := hv
              have e1 : evF s = none := evF_none (by rw [hP]; unfold evW; rw [hA0, hA1, hA2, hA3, hA4])
              refine gt_ ?_
              exact s_rett (rs := [.cell 2 42, .tmp 3]) (vs := [_, _]) Tryd.func29 rfl (by intro j; refine RVS.cell _ _ rfl sel_ (by rfl) ?_; refine RVS.tmp _ rfl ?_; exact RVS.nil) rfl (⟨⟨x0, x1, x2, x3, 0, [], [], []⟩, none, 0, by rw [e1]; rfl, (fun x h => by rw [e1] at h; cases h), rfl⟩) ent_
            | some x4 =>
              rw [hA4] at hv
              have hv2 : v = .tuple #[.int .i64 x4, .nilIface] := hv
              subst hv2
              refine gt_ ?_
              refine s_again ?_
              refine gt_ ?_
              refine s_look (lk_ldx (b := r4) (off := 5) (v := .string (strB (W.getD 5 []))) sel_ (tx_at W (by omega))) ?_
              refine gt_ ?_
              refine s_call (sp := spl_) (hs := unquote_c (W.getD 5 []) (hWb 5) (by have := hWl 5; omega)) (h := ?_)
              rintro v Bs ⟨ap, cp, op, hp, rfl, rfl⟩
              refine gt_ ?_
              refine s_look (lk_ldx (b := r4) (off := 6) (v := .string (strB (W.getD 6 []))) sel_ (tx_at W (by omega))) ?_
              refine gt_ ?_
              refine s_call (sp := spl_) (hs := unquote_c (W.getD 6 []) (hWb 6) (by have := hWl 6; omega)) (h := ?_)
              rintro v Bs ⟨aq, cq, oq, hq, rfl, rfl⟩
              refine gt_ ?_
              refine s_look (lk_ldx (b := r4) (off := 7) (v := .string (strB (W.getD 7 []))) sel_ (tx_at W (by omega))) ?_
              refine gt_ ?_
              refine s_call (sp := spl_) (hs := unquote_c (W.getD 7 []) (hWb 7) (by have := hWl 7; omega)) (h := ?_)
              rintro v Bs ⟨ad, cd, od, hd, rfl, rfl⟩
              refine gt_ ?_
              refine s_look (lk_b2s (s := op) (a := ap) (m := op.length) (c := cp) (by repeat (first | with_reducible exact SelR.here | with_reducible apply SelR.there)) rfl) ?_
              refine gt_ ?_
              refine s_look (lk_b2s (s := oq) (a := aq) (m := oq.length) (c := cq) (by repeat (first | with_reducible exact SelR.here | with_reducible apply SelR.there)) rfl) ?_
              refine gt_ ?_
              have hE : evP s = match unquoteP (W.getD 5 []), unquoteP (W.getD 6 []), unquoteP (W.getD 7 []) with
                  | some f, some g, some h => some ⟨x0, x1, x2, x3, x4, f, g, h⟩
                  | _, _, _ => none := by
                rw [hP]; unfold evW; rw [hA0, hA1, hA2, hA3, hA4]
                cases unquoteP (W.getD 5 []) <;> cases unquoteP (W.getD 6 []) <;> cases unquoteP (W.getD 7 []) <;> rfl
              refine s_front (a := Box r2 42 [.int .i64 0, .int .i64 0, .int .i64 0, .int .i64 0, .int .i64 0, .string ByteArray.empty, .string ByteArray.empty, .slice none 0 0]) sel_ ?_
              refine s_front (a := SA (some 5) 1 (.slice ad od.length cd) od.length (byR od)) sel_ ?_
              refine s_front (a := GL) sel_ ?_
              refine s_drawN 3 [.q 0, .q 1, .q 2, .q 3, .q 4, .q 5, .q 6, .q 7, .q 8, .q 9, .q 10, .q 11, .q 12, .q 14, .s 13, .q 15, .q 16, .s 17, .q 18] ?_
              refine dt_ ?_
              cases hU5 : unquoteP (W.getD 5 []) with
              | none =>
                have e1 : evF s = none := evF_none (by rw [hE, hU5])
                refine dt_ ?_
                refine d_noU rfl ?_
                refine dt_ ?_
                refine d_stepU rfl (st_st (b := r2) (off := 0) (m := 8) (c := [.int .i64 0, .int .i64 0, .int .i64 0, .int .i64 0, .int .i64 0, .string ByteArray.empty, .string ByteArray.empty, .slice none 0 0]) (c' := [.int .i64 x0, .int .i64 x1, .int .i64 x2, .int .i64 x3, .int .i64 x4, .string (strB op), .string (strB oq), .slice ad od.length cd]) (vs := [.int .i64 x0, .int .i64 x1, .int .i64 x2, .int .i64 x3, .int .i64 x4, .string (strB op), .string (strB oq), .slice ad od.length cd]) (v := .agg ([.int .i64 x0, .int .i64 x1, .int .i64 x2, .int .i64 x3, .int .i64 x4, .string (strB op), .string (strB oq), .slice ad od.length cd] : List Value).toArray)) ?_
                rintro _ _ rfl
                refine dt_ ?_
                refine gt_ ?_
                exact s_rett (rs := [.cell 2 42, .tmp 3]) (vs := [_, _]) Tryd.func29 rfl (by intro j; refine RVS.cell _ _ rfl sel_ (by rfl) ?_; refine RVS.tmp _ rfl ?_; exact RVS.nil) rfl (⟨⟨x0, x1, x2, x3, x4, op, oq, od⟩, ad, cd, by rw [e1]; rfl, (fun x h => by rw [e1] at h; cases h), rfl⟩) ent_
              | some f5 =>
                refine dt_ ?_
                cases hU6 : unquoteP (W.getD 6 []) with
                | none =>
                  have e1 : evF s = none := evF_none (by rw [hE, hU5, hU6])
                  refine dt_ ?_
                  refine d_noU rfl ?_
                  refine dt_ ?_
                  refine d_stepU rfl (st_st (b := r2) (off := 0) (m := 8) (c := [.int .i64 0, .int .i64 0, .int .i64 0, .int .i64 0, .int .i64 0, .string ByteArray.empty, .string ByteArray.empty, .slice none 0 0]) (c' := [.int .i64 x0, .int .i64 x1, .int .i64 x2, .int .i64 x3, .int .i64 x4, .string (strB op), .string (strB oq), .slice ad od.length cd]) (vs := [.int .i64 x0, .int .i64 x1, .int .i64 x2, .int .i64 x3, .int .i64 x4, .string (strB op), .string (strB oq), .slice ad od.length cd]) (v := .agg ([.int .i64 x0, .int .i64 x1, .int .i64 x2, .int .i64 x3, .int .i64 x4, .string (strB op), .string (strB oq), .slice ad od.length cd] : List Value).toArray)) ?_
                  rintro _ _ rfl
                  refine dt_ ?_
                  refine gt_ ?_
                  exact s_rett (rs := [.cell 2 42, .tmp 3]) (vs := [_, _]) Tryd.func29 rfl (by intro j; refine RVS.cell _ _ rfl sel_ (by rfl) ?_; refine RVS.tmp _ rfl ?_; exact RVS.nil) rfl (⟨⟨x0, x1, x2, x3, x4, op, oq, od⟩, ad, cd, by rw [e1]; rfl, (fun x h => by rw [e1] at h; cases h), rfl⟩) ent_
                | some f6 =>
                  refine dt_ ?_
                  cases hU7 : unquoteP (W.getD 7 []) with
                  | none =>
                    have e1 : evF s = none := evF_none (by rw [hE, hU5, hU6, hU7])
                    refine dt_ ?_
                    refine d_noU rfl ?_
                    refine dt_ ?_
                    refine d_stepU rfl (st_st (b := r2) (off := 0) (m := 8) (c := [.int .i64 0, .int .i64 0, .int .i64 0, .int .i64 0, .int .i64 0, .string ByteArray.empty, .string ByteArray.empty, .slice none 0 0]) (c' := [.int .i64 x0, .int .i64 x1, .int .i64 x2, .int .i64 x3, .int .i64 x4, .string (strB op), .string (strB oq), .slice ad od.length cd]) (vs := [.int .i64 x0, .int .i64 x1, .int .i64 x2, .int .i64 x3, .int .i64 x4, .string (strB op), .string (strB oq), .slice ad od.length cd]) (v := .agg ([.int .i64 x0, .int .i64 x1, .int .i64 x2, .int .i64 x3, .int .i64 x4, .string (strB op), .string (strB oq), .slice ad od.length cd] : List Value).toArray)) ?_
                    rintro _ _ rfl
                    refine dt_ ?_
                    refine gt_ ?_
                    exact s_rett (rs := [.cell 2 42, .tmp 3]) (vs := [_, _]) Tryd.func29 rfl (by intro j; refine RVS.cell _ _ rfl sel_ (by rfl) ?_; refine RVS.tmp _ rfl ?_; exact RVS.nil) rfl (⟨⟨x0, x1, x2, x3, x4, op, oq, od⟩, ad, cd, by rw [e1]; rfl, (fun x h => by rw [e1] at h; cases h), rfl⟩) ent_
                  | some f7 =>
                    have g5 : op = f5 := by rw [hp, hU5]; rfl
                    have g6 : oq = f6 := by rw [hq, hU6]; rfl
                    have g7 : od = f7 := by rw [hd, hU7]; rfl
                    have hE2 : evP s = some ⟨x0, x1, x2, x3, x4, op, oq, od⟩ := by rw [hE, hU5, hU6, hU7, g5, g6, g7]
                    have hfit : Ev.fit ⟨x0, x1, x2, x3, x4, op, oq, od⟩ := {
                      ok := evP_ok hs hE2
                      l1 := by have := unq_len (hWb 5) hU5; have := hWl 5; show op.length ≤ _; rw [g5]; omega
                      l2 := by have := unq_len (hWb 6) hU6; have := hWl 6; show oq.length ≤ _; rw [g6]; omega
                      l3 := by have := unq_len (hWb 7) hU7; have := hWl 7; show od.length ≤ _; rw [g7]; omega }
                    have hlb := lineN_bys hfit.ok
                    have hEF := evF_ev hE2
                    clear hp hq hd
                    refine dt_ ?_
                    refine d_step rfl (st_call (sp := spl_) (hs := line_c ⟨x0, x1, x2, x3, x4, op, oq, od⟩ hfit (D := SA (some 5) 1 (.slice ad od.length cd) od.length (byR od)) (a := ad) (c := cd))) ?_
                    rintro v Bs ⟨Cs, ⟨rfl, rfl⟩, rfl⟩
                    refine dt_ ?_
                    refine d_stepU rfl (st_st (b := r2) (off := 0) (m := 8) (c := [.int .i64 0, .int .i64 0, .int .i64 0, .int .i64 0, .int .i64 0, .string ByteArray.empty, .string ByteArray.empty, .slice none 0 0]) (c' := [.int .i64 x0, .int .i64 x1, .int .i64 x2, .int .i64 x3, .int .i64 x4, .string (strB op), .string (strB oq), .slice ad od.length cd]) (vs := [.int .i64 x0, .int .i64 x1, .int .i64 x2, .int .i64 x3, .int .i64 x4, .string (strB op), .string (strB oq), .slice ad od.length cd]) (v := .agg ([.int .i64 x0, .int .i64 x1, .int .i64 x2, .int .i64 x3, .int .i64 x4, .string (strB op), .string (strB oq), .slice ad od.length cd] : List Value).toArray)) ?_
                    rintro _ _ rfl
                    refine dt_ ?_
                    refine gt_ ?_
                    exact s_rett (rs := [.cell 2 42, .tmp 3]) (vs := [_, _]) Tryd.func29 rfl (by intro j; refine RVS.cell _ _ rfl sel_ (by rfl) ?_; refine RVS.tmp _ rfl ?_; exact RVS.nil) rfl (⟨⟨x0, x1, x2, x3, x4, op, oq, od⟩, ad, cd, by rw [hEF]; by_cases hh : lineN ⟨x0, x1, x2, x3, x4, op, oq, od⟩ = s <;> simp [hh], (fun x h => by rw [hEF] at h; split at h <;> cases h; rfl), rfl⟩) ent_
end Go.Proofs.YtmlddafbenfilaaDoor
/- The program's Parse. -/
namespace Go.Proofs.YtmlddafbenfilaaDoor
open Go.Cam
set_option maxRecDepth 100000
def wput (w : Nat → Option Addr × Nat) (i : Nat) (x : Option Addr × Nat) : Nat → Option Addr × Nat := fun q => if q = i then x else w q
/-- events, as a slice's row; their data -/
def evRow (w : Nat → Option Addr × Nat) (l : List Ev) (i : Nat) : List Value := evL (l.getD i ev0) (w i).1 (w i).2
abbrev EvOne (w : Nat → Option Addr × Nat) (l : List Ev) (i : Nat) : HP := SA none 1 (.slice (w i).1 (l.getD i ev0).data.length (w i).2) (l.getD i ev0).data.length (byR (l.getD i ev0).data)
abbrev EvFam (w : Nat → Option Addr × Nat) (l : List Ev) : HP := Fam l.length (EvOne w l)
theorem evRow_snoc {w : Nat → Option Addr × Nat} {l : List Ev} {e : Ev} {a : Option Addr} {c : Nat} (i : Nat) (hi : i < l.length + 1) : rcat l.length (evRow w l) (fun _ => evL e a c) i = evRow (wput w l.length (a, c)) (l ++ [e]) i := by
  unfold rcat evRow wput
  by_cases h : i < l.length
  · rw [if_pos h, if_neg (by omega)]
    simp [List.getD_eq_getElem?_getD, List.getElem?_append_left h]
  · have : i = l.length := by omega
    subst this
    rw [if_neg h, if_pos rfl]
    simp [List.getD_eq_getElem?_getD]
theorem evFam_old {w : Nat → Option Addr × Nat} {l : List Ev} {e : Ev} {a : Option Addr} {c : Nat} (i : Nat) (hi : i < l.length) (H M : Heap) (h : (EvOne w l i).p H M) : (EvOne (wput w l.length (a, c)) (l ++ [e]) i).p H M := by
  have e1 : (l ++ [e]).getD i ev0 = l.getD i ev0 := by simp [List.getD_eq_getElem?_getD, List.getElem?_append_left hi]
  have e2 : wput w l.length (a, c) i = w i := by unfold wput; rw [if_neg (by omega)]
  unfold EvOne
  rw [e1, e2]; exact h
theorem evFam_new {w : Nat → Option Addr × Nat} {l : List Ev} {e : Ev} {a : Option Addr} {c : Nat} (H M : Heap) (h : (SA none 1 (.slice a e.data.length c) e.data.length (byR e.data)).p H M) : (EvOne (wput w l.length (a, c)) (l ++ [e]) l.length).p H M := by
  have e1 : (l ++ [e]).getD l.length ev0 = e := by simp [List.getD_eq_getElem?_getD]
  have e2 : wput w l.length (a, c) l.length = (a, c) := by unfold wput; rw [if_pos rfl]
  unfold EvOne
  rw [e1, e2]; exact h
/-- what a Parse answers -/
def parR (ev : List Nat → Option Ev) (s : List Nat) : List Ev × Int × Int :=
  if 65536 < s.length ∨ 4096 < s.count 10 then ([], 0, 7) else match parseN ev s.length s [] with
    | .ok l => (l, 0, 0)
    | .error k => ([], (k : Int), 240)
def ParP (r : List Ev × Int × Int) (v : Value) (Bs : List HP) : Prop := ∃ a c w, v = .tuple #[.slice a r.1.length c, .int .i64 r.2.1, .int .i64 r.2.2] ∧ Bs = [SA (some 42) 8 (.slice a r.1.length c) r.1.length (evRow w r.1), EvFam w r.1]
theorem cut10_len : ∀ (s : List Nat), (cut10 s).1.length ≤ s.length ∧ ∀ r, (cut10 s).2 = some r → r.length < s.length
  | [] => ⟨Nat.le_refl _, fun r h => by cases h⟩
  | c :: s => by
    have ih := cut10_len s
    rw [cut10]
    split
    · exact ⟨Nat.zero_le _, fun r h => by cases h; simp⟩
    · refine ⟨by simp only [List.length_cons]; omega, fun r h => ?_⟩
      have := ih.2 r h
      simp only [List.length_cons]; omega
theorem cut10_bys : ∀ (s : List Nat), Bys s → Bys (cut10 s).1 ∧ ∀ r, (cut10 s).2 = some r → Bys r
  | [], _ => ⟨emp_bys, fun r h => by cases h⟩
  | c :: s, hs => by
    have hss : Bys s := fun x hx => hs x (List.mem_cons_of_mem _ hx)
    have ih := cut10_bys s hss
    rw [cut10]
    split
    · exact ⟨emp_bys, fun r h => by cases h; exact hss⟩
    · refine ⟨fun x hx => ?_, fun r h => ih.2 r h⟩
      rcases List.mem_cons.1 hx with rfl | hx
      · exact hs _ (List.mem_cons_self ..)
      · exact ih.1 x hx
set_option maxHeartbeats 32000000 in
theorem parse_c (s : List Nat) (hs : Bys s) (hl : s.length ≤ 1000000) : Ctr Tryd.prog 12 [.string (strB s)] [GL] (ParP (parR evF s)) := by
  refine s_enter 47 [(0, _)] (fun F => [_, F]) Tryd.func12 fun F => ?_
  refine gt_ ?_
  cases h1 : decide ((s.length : Int) > 65536) with
  | true =>
    have h2 := of_decide_eq_true h1
    have e1 : parR evF s = ([], 0, 7) := by unfold parR; rw [if_pos (.inl (by omega))]
    rw [e1]
    refine gt_ ?_
    refine s_new0 (e := 42) (sz := 8) (row := evRow (fun _ => (none, 0)) []) (s_open (B := SA (some 42) 8 (.slice none ([] : List Ev).length 0) ([] : List Ev).length (evRow (fun _ => (none, 0)) [])) (fun _ _ h => h) ?_)
    refine s_fam0 (F := EvOne (fun _ => (none, 0)) []) (s_open (B := EvFam (fun _ => (none, 0)) []) (fun _ _ h => h) ?_)
    exact s_rett (rs := [.tmp 2, .tmp 3, .tmp 4]) (vs := [_, _, _]) Tryd.func12 rfl (by intro j; refine RVS.tmp _ rfl ?_; refine RVS.tmp _ rfl ?_; refine RVS.tmp _ rfl ?_; exact RVS.nil) rfl (⟨none, 0, fun _ => (none, 0), rfl, rfl⟩) ent_
  | false =>
    have h2 := of_decide_eq_false h1
    refine gt_ ?_
    refine s_call (sp := spl_) (hs := count_c s hs) (h := ?_)
    rintro v Bs ⟨rfl, rfl⟩
    refine gt_ ?_
    cases h3 : decide (((s.count 10 : Nat) : Int) > 4096) with
    | true =>
      have h4 := of_decide_eq_true h3
      have e1 : parR evF s = ([], 0, 7) := by unfold parR; rw [if_pos (.inr (by omega))]
      rw [e1]
      refine gt_ ?_
      refine s_new0 (e := 42) (sz := 8) (row := evRow (fun _ => (none, 0)) []) (s_open (B := SA (some 42) 8 (.slice none ([] : List Ev).length 0) ([] : List Ev).length (evRow (fun _ => (none, 0)) [])) (fun _ _ h => h) ?_)
      refine s_fam0 (F := EvOne (fun _ => (none, 0)) []) (s_open (B := EvFam (fun _ => (none, 0)) []) (fun _ _ h => h) ?_)
      exact s_rett (rs := [.tmp 2, .tmp 3, .tmp 4]) (vs := [_, _, _]) Tryd.func12 rfl (by intro j; refine RVS.tmp _ rfl ?_; refine RVS.tmp _ rfl ?_; refine RVS.tmp _ rfl ?_; exact RVS.nil) rfl (⟨none, 0, fun _ => (none, 0), rfl, rfl⟩) ent_
    | false =>
      have h4 := of_decide_eq_false h3
      have e1 : parR evF s = match parseN evF s.length s [] with
        | .ok l => (l, 0, 0)
        | .error k => ([], (k : Int), 240) := by unfold parR; rw [if_neg (by omega)]
      refine gt_ ?_
      refine s_new0 (e := 42) (sz := 8) (row := evRow (fun _ => (none, 0)) []) (s_open (B := SA (some 42) 8 (.slice none ([] : List Ev).length 0) ([] : List Ev).length (evRow (fun _ => (none, 0)) [])) (fun _ _ h => h) ?_)
      refine s_fam0 (F := EvOne (fun _ => (none, 0)) []) (s_open (B := EvFam (fun _ => (none, 0)) []) (fun _ _ h => h) ?_)
      refine s_loop (fun y : Nat × List Nat × List Ev × Option Addr × Nat × (Nat → Option Addr × Nat) => [(0, .string (strB y.2.1)), (5, .slice y.2.2.2.1 y.2.2.1.length y.2.2.2.2.1)]) (fun y => [GL, SA (some 42) 8 (.slice y.2.2.2.1 y.2.2.1.length y.2.2.2.2.1) y.2.2.1.length (evRow y.2.2.2.2.2 y.2.2.1), EvFam y.2.2.2.2.2 y.2.2.1, F]) (fun y => Bys y.2.1 ∧ y.2.1.length ≤ y.1 ∧ y.2.2.1.length + y.2.1.length ≤ s.length ∧ parseN evF s.length s [] = parseN evF y.1 y.2.1 y.2.2.1) (fun y => y.2.1.length) (s.length, s, [], none, 0, fun _ => (none, 0)) ⟨hs, Nat.le_refl _, by simp, rfl⟩ ent_ ?_
      rintro ⟨f, rest, acc, a, c, w⟩ ⟨hr, hrf, hra, hinv⟩ next
      dsimp only at hr hrf hra hinv
      show RunS _ _ _ _ _ [(0, .string (strB rest)), (5, .slice a acc.length c)] [GL, SA (some 42) 8 (.slice a acc.length c) acc.length (evRow w acc), EvFam w acc, F]
      refine gt_ ?_
      rw [show ((strB rest).toList == (ByteArray.mk #[]).toList) = decide (rest = []) from strB_beq hr emp_bys]
      cases rest with
      | nil =>
        have e2 : parR evF s = (acc, 0, 0) := by
          rw [e1, hinv]
          cases f <;> rw [parseN]
        rw [e2]
        refine gt_ ?_
        exact s_rett (rs := [.tmp 2, .tmp 3, .tmp 4]) (vs := [_, _, _]) Tryd.func12 rfl (by intro j; refine RVS.tmp _ rfl ?_; refine RVS.tmp _ rfl ?_; refine RVS.tmp _ rfl ?_; exact RVS.nil) rfl (⟨a, c, w, rfl, rfl⟩) ent_
      | cons h r =>
        have hd : (!decide (h :: r = [])) = true := by simp
        rw [hd]
        have hcl := cut10_len (h :: r)
        have hcb := cut10_bys (h :: r) hr
        obtain ⟨f', hf⟩ : ∃ f', f = f' + 1 := ⟨f - 1, by rw [List.length_cons] at hrf; omega⟩
        refine gt_ ?_
        refine s_call (sp := spl_) (hs := cut_c (h :: r) hr (by omega)) (h := ?_)
        rintro v Bs ⟨rfl, rfl⟩
        refine gt_ ?_
        refine s_call (sp := spl_) (hs := event_c (cut10 (h :: r)).1 hcb.1 (by omega)) (h := ?_)
        rintro v Bs ⟨e, ae, ce, rfl, he, rfl⟩
        refine gt_ ?_
        refine s_alloc fun r9 => ?_
        refine gt_ ?_
        cases hc2 : (cut10 (h :: r)).2 with
        | none =>
          have e2 : parR evF s = ([], ((acc.length + 1 : Nat) : Int), 240) := by rw [e1, hinv, hf, parseN, hc2]
          rw [e2]
          refine gt_ ?_
          refine s_drop (a := SA (some 42) 8 (.slice a acc.length c) acc.length (evRow w acc)) sel_ ?_
          refine s_drop (a := EvFam w acc) sel_ ?_
          refine s_new0 (e := 42) (sz := 8) (row := evRow (fun _ => (none, 0)) []) (s_open (B := SA (some 42) 8 (.slice none ([] : List Ev).length 0) ([] : List Ev).length (evRow (fun _ => (none, 0)) [])) (fun _ _ h => h) ?_)
          refine s_fam0 (F := EvOne (fun _ => (none, 0)) []) (s_open (B := EvFam (fun _ => (none, 0)) []) (fun _ _ h => h) ?_)
          exact s_rett (rs := [.tmp 2, .tmp 3, .tmp 4]) (vs := [_, _, _]) Tryd.func12 rfl (by intro j; refine RVS.tmp _ rfl ?_; refine RVS.tmp _ rfl ?_; refine RVS.tmp _ rfl ?_; exact RVS.nil) rfl (⟨none, 0, fun _ => (none, 0), rfl, rfl⟩) ent_
        | some r2 =>
          refine gt_ ?_
          cases hev : evF (cut10 (h :: r)).1 with
          | none =>
            have e2 : parR evF s = ([], ((acc.length + 1 : Nat) : Int), 240) := by rw [e1, hinv, hf, parseN, hc2, hev]
            rw [e2]
            refine gt_ ?_
            refine s_drop (a := SA (some 42) 8 (.slice a acc.length c) acc.length (evRow w acc)) sel_ ?_
            refine s_drop (a := EvFam w acc) sel_ ?_
            refine s_new0 (e := 42) (sz := 8) (row := evRow (fun _ => (none, 0)) []) (s_open (B := SA (some 42) 8 (.slice none ([] : List Ev).length 0) ([] : List Ev).length (evRow (fun _ => (none, 0)) [])) (fun _ _ h => h) ?_)
            refine s_fam0 (F := EvOne (fun _ => (none, 0)) []) (s_open (B := EvFam (fun _ => (none, 0)) []) (fun _ _ h => h) ?_)
            exact s_rett (rs := [.tmp 2, .tmp 3, .tmp 4]) (vs := [_, _, _]) Tryd.func12 rfl (by intro j; refine RVS.tmp _ rfl ?_; refine RVS.tmp _ rfl ?_; refine RVS.tmp _ rfl ?_; exact RVS.nil) rfl (⟨none, 0, fun _ => (none, 0), rfl, rfl⟩) ent_
          | some x =>
            have hx : e = x := he x hev
            subst hx
            have hr2 := hcl.2 r2 hc2
            have hb2 := hcb.2 r2 hc2
            have hinv2 : parseN evF s.length s [] = parseN evF f' r2 (acc ++ [e]) := by rw [hinv, hf, parseN, hc2, hev]
            refine gt_ ?_
            refine s_step (st_bs1 (sz := 8) (cells := evL e ae ce) rfl) ?_
            rintro v Bs ⟨a2, rfl, rfl⟩
            refine gt_ ?_
            refine s_app (a := a) (len := acc.length) (cap := c) (b := a2) (m := 1) (c := 1) sel_ (by repeat (first | with_reducible exact SelR.here | with_reducible apply SelR.there)) (by rw [flat_one]; rfl) (fun a3 c3 => ?_)
            refine s_open (SA.cg (evRow (wput w acc.length (ae, ce)) (acc ++ [e])) fun i hi => evRow_snoc i hi) ?_
            refine s_front (a := SA (some 5) 1 (.slice ae e.data.length ce) e.data.length (byR e.data)) sel_ ?_
            refine s_fz (e := 5) (sz := 1) (v := .slice ae e.data.length ce) (len := e.data.length) (row := byR e.data) sel_ (s_open (B := EvOne (wput w acc.length (ae, ce)) (acc ++ [e]) acc.length) evFam_new ?_)
            refine s_front (a := EvFam w acc) sel_ (s_open (B := Fam acc.length (EvOne (wput w acc.length (ae, ce)) (acc ++ [e]))) (Fam.cg _ fun i hi => evFam_old i hi) ?_)
            refine s_famS (m := acc.length) (F := EvOne (wput w acc.length (ae, ce)) (acc ++ [e])) sel_ sel_ ?_
            rw [show acc.length + 1 = (acc ++ [e]).length by simp]
            refine gt_ ?_
            exact s_entF ent_ (s_keep _ (next (f', r2, acc ++ [e], a3, c3, wput w acc.length (ae, ce)) ⟨hb2, by rw [List.length_cons] at hr2 hrf; show r2.length ≤ f'; omega, by rw [List.length_cons] at hr2 hra; show (acc ++ [e]).length + r2.length ≤ s.length; simp only [List.length_append, List.length_singleton]; omega, hinv2⟩ (by show r2.length < (h :: r).length; exact hr2)))
end Go.Proofs.YtmlddafbenfilaaDoor
/- The document's examples. -/
namespace Go.Proofs.YtmlddafbenfilaaDoor
open Go.Cam
set_option maxRecDepth 100000
abbrev evA : Ev := ⟨21, 1, 0, 0, 0, [], [97], []⟩
theorem dec_one {u : Nat} (h : u < 10) : Go.Lib.decDigits u = [UInt8.ofNat (48 + u)] := by rw [Go.Lib.decDigits, dif_pos h]
theorem dec_21 : Go.Lib.decDigits 21 = [50, 49] := by rw [Go.Lib.decDigits, dif_neg (by decide), dec_one (by decide)]; rfl
theorem words_A : wordsN evA = [[50, 49], [49], [48], [48], [48], [34, 34], [34, 97, 34], [34, 34]] := by
  have h1 : itoaN 21 = [50, 49] := by
    unfold itoaN Go.Lib.itoa
    rw [if_neg (by decide)]
    show (Go.Lib.decDigits 21).map UInt8.toNat = _
    rw [dec_21]; rfl
  have h2 : itoaN 1 = [49] := by
    unfold itoaN Go.Lib.itoa
    rw [if_neg (by decide)]
    show (Go.Lib.decDigits 1).map UInt8.toNat = _
    rw [dec_one (by decide)]; rfl
  have h3 : itoaN 0 = [48] := by
    unfold itoaN Go.Lib.itoa
    rw [if_neg (by decide)]
    show (Go.Lib.decDigits 0).map UInt8.toNat = _
    rw [dec_one (by decide)]; rfl
  unfold wordsN
  rw [h1, h2, h3]
  rfl
theorem line_A : lineN evA = [50, 49, 32, 49, 32, 48, 32, 48, 32, 48, 32, 34, 34, 32, 34, 97, 34] := by
  unfold lineN
  rw [words_A]
  decide
theorem evA_ok : evA.ok := ⟨by decide, by decide, by decide, by decide, by decide, emp_bys, by intro x hx; simp at hx; omega, emp_bys⟩
theorem par_A : parR evF [50, 49, 32, 49, 32, 48, 32, 48, 32, 48, 32, 34, 34, 32, 34, 97, 34, 10] = ([evA], 0, 0) := by
  have e : printN [evA] = [50, 49, 32, 49, 32, 48, 32, 48, 32, 48, 32, 34, 34, 32, 34, 97, 34, 10] := by
    show (lineN evA ++ [10]) ++ [] = _
    rw [line_A]; rfl
  have h := parse_print [evA] 18 [] (fun x hx => by rw [List.mem_singleton] at hx; subst hx; exact evA_ok) (by rw [e]; decide)
  rw [e] at h
  unfold parR
  rw [if_neg (by decide)]
  show (match parseN evF 18 _ [] with | .ok l => ((l, 0, 0) : List Ev × Int × Int) | .error k => ([], (k : Int), 240)) = _
  rw [h]; rfl
theorem unq_A : unquoteP [34, 97, 37, 50, 48, 98, 34] = some [97, 32, 98] := by
  have h := unquote_quote (b := [97, 32, 98]) (by intro x hx; simp at hx; omega)
  rw [show quoteN [97, 32, 98] = [34, 97, 37, 50, 48, 98, 34] by decide] at h
  exact h
theorem unq_B : unquoteP [34, 37, 54, 49, 34] = none := by
  unfold unquoteP
  rw [if_neg (by decide)]
  show unP [37, 54, 49] = none
  rw [unP_cons, if_neg (by decide), if_neg (by decide)]
  rfl
theorem litb {l : List Nat} (h : l.all (fun c => decide (c < 256)) = true) : Bys l := fun c hc => of_decide_eq_true (List.all_eq_true.1 h c hc)
set_option maxHeartbeats 32000000 in
theorem shown_c : Ctr Tryd.prog 7 [] [GL] (fun v Bs => v = .bool true ∧ Bs = []) := by
  have p1 := parse_c [50, 49, 32, 49, 32, 48, 32, 48, 32, 48, 32, 34, 34, 32, 34, 97, 34, 10] (litb rfl) (by decide)
  rw [par_A] at p1
  have p2 := unquote_c [34, 97, 37, 50, 48, 98, 34] (litb rfl) (by decide)
  rw [unq_A] at p2
  have p3 := unquote_c [34, 37, 54, 49, 34] (litb rfl) (by decide)
  rw [unq_B] at p3
  have q1 : Ctr Tryd.prog 12 [.string (strB [50, 49, 32, 49, 32, 48, 32, 48, 32, 48, 32, 34, 34, 32, 34, 97, 34, 10])] [GL] (fun v Bs => ∃ a c w, v = .tuple #[.slice a 1 c, .int .i64 0, .int .i64 0] ∧ Bs = [SA (some 42) 8 (.slice a 1 c) 1 (evRow w [evA]), EvFam w [evA]]) := p1
  have q2 : Ctr Tryd.prog 8 [.string (strB [34, 97, 37, 50, 48, 98, 34])] [] (fun v Bs => ∃ a c x, x = [97, 32, 98] ∧ v = .tuple #[.slice a x.length c, .int .i64 0] ∧ Bs = [SA (some 5) 1 (.slice a x.length c) x.length (byR x)]) := p2
  have q3 : Ctr Tryd.prog 8 [.string (strB [34, 37, 54, 49, 34])] [] (fun v Bs => ∃ a c x, x = [] ∧ v = .tuple #[.slice a x.length c, .int .i64 240] ∧ Bs = [SA (some 5) 1 (.slice a x.length c) x.length (byR x)]) := p3
  clear p1 p2 p3
  have hb1 : Bys [97] := litb rfl
  have hb2 : Bys (quoteN [97, 32, 98]) := quoteN_bys (litb rfl)
  have hb3 : Bys [97, 32, 98] := litb rfl
  refine s_enter 72 [] (fun F => [_, F]) Tryd.func7 fun F => ?_
  refine gt_ ?_
  refine s_call (sp := spl_) (hs := q1) (h := ?_)
  rintro v Bs ⟨a, c, w, rfl, rfl⟩
  refine s_nrm ?_
  refine s_open (SA.cg (fun _ => evL evA (w 0).1 (w 0).2) fun i hi => by rw [show i = 0 by omega]; rfl) ?_
  refine gt_ ?_
  refine s_call (sp := spl_) (hs := q2) (h := ?_)
  rintro v Bs ⟨a2, c2, x2, rfl, rfl, rfl⟩
  refine gt_ ?_
  refine s_call (sp := spl_) (hs := q3) (h := ?_)
  rintro v Bs ⟨a3, c3, o3, rfl, rfl, rfl⟩
  refine gt_ ?_
  refine s_look (lk_ixs (v := .slice a 1 c) (i := 0)) ?_
  refine gt_ ?_
  refine s_look (lk_ixs (v := .slice a 1 c) (i := 0)) ?_
  refine gt_ ?_
  refine s_look (lk_ixs (v := .slice a 1 c) (i := 0)) ?_
  refine gt_ ?_
  rw [show ((strB evA.name).toList == (ByteArray.mk #[97]).toList) = true from (strB_beq (a := [97]) (b := [97]) hb1 hb1).trans (by decide)]
  refine gt_ ?_
  refine s_bs (cells := [.int .u8 97, .int .u8 32, .int .u8 98]) (fun a1 => ?_) (fun j => rfl)
  refine s_full (a := a1) (m := 3) sel_ (by decide) fun r6 hr6 => ?_
  subst hr6
  refine s_step (st_cvb (b := r6) (cs := (flat 3 (rowsOf 1 [.int .u8 97, .int .u8 32, .int .u8 98])).toArray) (by repeat (first | with_reducible exact Upd.here | with_reducible apply Upd.there))) ?_
  rintro _ _ ⟨rfl, rfl⟩
  refine s_fzo (b := r6) (off := 0) (m := 3) (c := 3) (sz := 1) (row := byR [97, 32, 98]) sel_ (fun _ _ => rfl) (by decide) (by decide) (by rfl) ?_
  refine s_call (sp := spl_) (hs := quote_c (A := SA none 1 (.slice (some ⟨r6, 0, none⟩) 3 3) 3 (byR [97, 32, 98])) (a := some ⟨r6, 0, none⟩) (n := 3) (c := 3) [97, 32, 98] hb3 rfl (by decide)) (h := ?_)
  rintro v Bs ⟨rfl, rfl⟩
  refine gt_ ?_
  rw [show ((strB (quoteN [97, 32, 98])).toList == (ByteArray.mk #[34, 97, 37, 50, 48, 98, 34]).toList) = true from (strB_beq (b := [34, 97, 37, 50, 48, 98, 34]) hb2 (litb rfl)).trans (by decide)]
  refine gt_ ?_
  refine s_look (lk_b2s (s := [97, 32, 98]) (a := a2) (m := [97, 32, 98].length) (c := c2) (by repeat (first | with_reducible exact SelR.here | with_reducible apply SelR.there)) rfl) ?_
  refine gt_ ?_
  rw [show ((strB [97, 32, 98]).toList == (ByteArray.mk #[97, 32, 98]).toList) = true from (strB_beq (b := [97, 32, 98]) hb3 hb3).trans (by decide)]
  refine gt_ ?_
  exact s_ret1 (rs := [.tmp 0]) Tryd.func7 rfl (by intro j; refine RVS.tmp _ rfl ?_; exact RVS.nil) (⟨rfl, rfl⟩) ent_
end Go.Proofs.YtmlddafbenfilaaDoor
/- What the ties of this seat need: the library's variables as they are laid. -/
namespace Go.Proofs.YtmlddafbenfilaaDoor
open Go.Cam
set_option maxRecDepth 100000
theorem Tryd.own : ownKnob Tryd.prog.godebug = none := by kernel_rfl
theorem Tryd.laidOut : laidOutB Tryd.prog = true := by kernel_rfl
theorem Tryd.star : "*" ++ "errors.errorString" = "*errors.errorString" := by decide
theorem Tryd.rowErr (u : TypeId) (h : Tryd.prog.typeName? 3 u = some "*errors.errorString") : u = 117 :=
  typeName_ptr_named (nm := "errors.errorString") (by rw [Tryd.star]; kernel_rfl) (by kernel_rfl) (by decide) u (by rw [Tryd.star]; exact h)
abbrev laidL : List (String × DataW Unit) := Rows.deskQuotesRow.laid
theorem heap_of_var {P : Program} {W : World} {n : String} {g : Nat} {cs : Array Value} (hg : P.globalNamed n = some g) (h : W.var? P n = some cs) : ∃ t f, W.heap[g]? = some (.cells cs t f) := by
  unfold World.var? at h
  rw [hg, Option.bind_some] at h
  cases hh : W.heap[g]? with
  | none => rw [hh] at h; cases h
  | some o =>
    rw [hh] at h
    cases o with
    | cells c t f => cases h; exact ⟨t, f, rfl⟩
    | _ => cases h
theorem pow_is : (Rows.laid_internal_strconv_uint64pow10 : DataW Unit) = Go.Lib.tabData .u64 Go.Lib.pow10Tab := by kernel_rfl
theorem gl_of {W : World} (hL : laidMetH Tryd.prog laidL W) (hs : W.ShapedOpen Tryd.prog) : GLp (held W) := by
  rw [MakeChecks.laidMetH_plain _ _ _ (by kernel_rfl)] at hL
  have h2 : laidMet Tryd.prog (("internal/strconv.uint64pow10", Go.Lib.tabData .u64 Go.Lib.pow10Tab) :: laidL.drop 3) W := by rw [← pow_is]; exact hL.tail.tail
  have h4 := h2.tail.tail
  have h5 := h4.tail
  obtain ⟨m, hm⟩ := cell_of_shapedOpen_int (g := 0) (t := 3) (k := .i64) (zero := #[.int .i64 0]) hs (of_decide_eq_true (by kernel_rfl)) (by kernel_rfl) rfl (by kernel_rfl) (by kernel_rfl) (by kernel_rfl)
  obtain ⟨cs, hh, hsz, _⟩ := hs.1 0 #[.int .i64 0] 3 (of_decide_eq_true (by kernel_rfl)) (by kernel_rfl)
  have hcs : cs = #[.int .i64 m] := by
    have h1 : W.cell? ⟨0, 0, none⟩ = cs[0]? := cell_of hh 0
    rw [hm] at h1
    obtain ⟨l⟩ := cs
    match l, hsz, h1 with
    | [x], _, h1 => simp at h1; rw [h1]
  subst hcs
  obtain ⟨a1, s1, v1, _⟩ := laid_sentinel h5 (g := 1) (ti := 51) (tp := 117) (te := 119) (ts := 9) (by kernel_rfl) (by kernel_rfl) Tryd.underlying51 Tryd.rowErr Tryd.underlying117 Tryd.underlying119 rfl rfl Tryd.underlying9 (by kernel_rfl) (by kernel_rfl)
  obtain ⟨a2, s2, v2, _⟩ := laid_sentinel h4 (g := 2) (ti := 51) (tp := 117) (te := 119) (ts := 9) (by kernel_rfl) (by kernel_rfl) Tryd.underlying51 Tryd.rowErr Tryd.underlying117 Tryd.underlying119 rfl rfl Tryd.underlying9 (by kernel_rfl) (by kernel_rfl)
  have tab := Go.Lib.tabIs_of_head (g := 3) (t := 113) (e := 96) (n := 20) (by kernel_rfl) (by kernel_rfl) (by kernel_rfl) (by kernel_rfl) (by kernel_rfl) (by kernel_rfl) h2
  obtain ⟨t1, f1, e1⟩ := heap_of_var (g := 1) (by kernel_rfl) v1
  obtain ⟨t2, f2, e2⟩ := heap_of_var (g := 2) (by kernel_rfl) v2
  obtain ⟨t3, f3, e3⟩ := heap_of_var (g := 3) (by kernel_rfl) tab
  exact ⟨⟨m, _, _, hh⟩, ⟨_, _, t1, f1, e1⟩, ⟨_, _, t2, f2, e2⟩, t3, f3, e3⟩
theorem str_list (s : ByteArray) : s = strB (s.data.toList.map UInt8.toNat) := by
  rw [← strB_of]
theorem str_bys (s : ByteArray) : Bys (s.data.toList.map UInt8.toNat) := fun c hc => by
  obtain ⟨x, _, rfl⟩ := List.mem_map.1 hc
  exact x.toNat_lt
theorem str_len (s : ByteArray) : (s.data.toList.map UInt8.toNat).length = s.size := by rw [List.length_map, Array.length_toList]; rfl
end Go.Proofs.YtmlddafbenfilaaDoor
/- The document's words and numbers. -/
namespace Go.Proofs.YtmlddafbenfilaaDoor
open Go.Cam
set_option maxRecDepth 100000
end Go.Proofs.YtmlddafbenfilaaDoor
/- The document's line of an event. -/
namespace Go.Proofs.YtmlddafbenfilaaDoor
open Go.Cam
set_option maxRecDepth 100000
end Go.Proofs.YtmlddafbenfilaaDoor
