/- The line of an event. -/
import Derived.Test.YtmlddafbenfilaaDoorDskO
import Derived.Test.YtmlddafbenfilaaDoorCamAV
namespace Go.Proofs.YtmlddafbenfilaaDoor
open Go.Cam Go.RowKit
set_option maxRecDepth 100000
theorem itoaN_bys (n : Int) : Bys (itoaN n) := fun x hx => by
  unfold itoaN at hx
  obtain ⟨c, _, rfl⟩ := List.mem_map.1 hx
  exact c.toNat_lt
theorem wordsN_bys {e : Ev} (h : e.ok) : ∀ w ∈ wordsN e, Bys w := fun w hw => by
  unfold wordsN at hw
  simp only [List.mem_cons, List.not_mem_nil, or_false] at hw
  rcases hw with rfl | rfl | rfl | rfl | rfl | rfl | rfl | rfl
  · exact itoaN_bys _
  · exact itoaN_bys _
  · exact itoaN_bys _
  · exact itoaN_bys _
  · exact itoaN_bys _
  · exact quoteN_bys h.k6
  · exact quoteN_bys h.k7
  · exact quoteN_bys h.k8
theorem getD_bys {ws : List (List Nat)} (h : ∀ w ∈ ws, Bys w) (i : Nat) : Bys (ws.getD i []) := by
  rw [List.getD_eq_getElem?_getD]
  cases e : ws[i]? with
  | none => exact emp_bys
  | some x => exact h x (List.mem_of_getElem? e)
theorem joinB_bys : ∀ (ws : List (List Nat)), (∀ w ∈ ws, Bys w) → Bys (joinB ws)
  | [], _ => emp_bys
  | [w], h => h w (List.mem_cons_self ..)
  | w :: v :: ws, h => by
    have ih := joinB_bys (v :: ws) fun x hx => h x (List.mem_cons_of_mem _ hx)
    intro x hx
    rcases List.mem_append.1 (show x ∈ w ++ 32 :: joinB (v :: ws) from hx) with hx | hx
    · exact h w (List.mem_cons_self ..) x hx
    · rcases List.mem_cons.1 hx with rfl | hx
      · decide
      · exact ih x hx
theorem lineN_bys {e : Ev} (h : e.ok) : Bys (lineN e) := joinB_bys _ fun w hw => wordsN_bys h w (List.mem_of_mem_take hw)
theorem joinB_len : ∀ (ws : List (List Nat)), (joinB ws).length ≤ (ws.map (·.length)).sum + ws.length
  | [] => Nat.zero_le _
  | [w] => by simp [joinB]
  | w :: v :: ws => by
    have ih := joinB_len (v :: ws)
    show (w ++ 32 :: joinB (v :: ws)).length ≤ _
    rw [List.length_append, List.length_cons, List.map_cons, List.sum_cons, List.length_cons]
    omega
theorem take_sum : ∀ (l : List Nat) (n : Nat), (l.take n).sum ≤ l.sum
  | [], n => by simp
  | x :: l, 0 => by simp
  | x :: l, n + 1 => by
    have := take_sum l n
    simp only [List.take_succ_cons, List.sum_cons]; omega
theorem itoaN_len {n : Int} (h : I64 n) : (itoaN n).length ≤ 20 := by
  unfold itoaN Go.Lib.itoa
  rw [List.length_map]
  split
  · have := dec_len (u := n.natAbs) (by omega)
    rw [List.length_cons]; omega
  · have := dec_len (u := n.toNat) (by omega)
    omega
theorem lineN_len {e : Ev} (h : e.ok) : (lineN e).length ≤ 3 * (e.path.length + e.name.length + e.data.length) + 114 := by
  have h1 := joinB_len ((wordsN e).take (cntW (wordsN e) dW 8))
  have h2 := take_sum ((wordsN e).map (·.length)) (cntW (wordsN e) dW 8)
  rw [← List.map_take] at h2
  have h3 : ((wordsN e).map (·.length)).sum ≤ 3 * (e.path.length + e.name.length + e.data.length) + 106 := by
    have a1 := itoaN_len h.k1
    have a2 := itoaN_len h.k2
    have a3 := itoaN_len h.k3
    have a4 := itoaN_len h.k4
    have a5 := itoaN_len h.k5
    have a6 := quoteN_len e.path
    have a7 := quoteN_len e.name
    have a8 := quoteN_len e.data
    simp only [wordsN, List.map_cons, List.map_nil, List.sum_cons, List.sum_nil]
    omega
  have h4 : ((wordsN e).take (cntW (wordsN e) dW 8)).length ≤ 8 := by
    rw [List.length_take]; have := cntW_le (wordsN e) dW 8; omega
  unfold lineN
  omega
theorem cntW_step (w d : List (List Nat)) (n : Nat) (h : 1 < n) : cntW w d n = if w.getD (n - 1) [] = d.getD (n - 1) [] then cntW w d (n - 1) else n := by
  match n, h with
  | n + 2, _ => rw [cntW]; rfl
theorem cntW_one (w d : List (List Nat)) (n : Nat) (h : n = 1) : cntW w d n = n := by subst h; rfl
theorem joinw_c {A : HP} {a : Option Addr} {n c : Nat} {row : Nat → List Value} [rd : Rd A 1 (.slice a n c) n row] (ws : List (List Nat)) (hn : ws.length = n) (h0 : 0 < n) (hrow : ∀ i, i < n → row i = txR ws i) (hsmall : n ≤ 100) (hlen : (joinB ws).length ≤ 100000000000000) : Ctr Tryd.prog 47 [.slice a n c, .string (strB [32])] [A] (fun v Bs => v = .string (strB (joinB ws)) ∧ Bs = []) := ctr_bel fun F H M w0 w q hh => by
  subst hn
  have hr := rd.h H M (star_fst q)
  obtain ⟨base, cap, e, hc, hl, hk⟩ := hr
  cases e
  obtain ⟨b, off, cs, ty, fr, rfl, hk, hs, hx⟩ := hk h0
  have hb := hh.look hk
  have hx2 : cs.extract off (off + ws.length * 1) = (ws.map fun w => Value.string (strB w)).toArray := by
    rw [hx, flat_congr hrow, flat_tx]
  have e1 : (ws.map strB).map (·.data.toList) = ws.map fun w => w.map UInt8.ofNat := by
    rw [List.map_map]; exact List.map_congr_left fun x _ => strB_list x
  have e2 : (strB [32]).data.toList = [32] := rfl
  have := Tryd.strings_Join b off c (ws.map strB) (strB [32]) w (fun j x hj => by
    rw [cell_of hb]
    rw [List.getElem?_map] at hj
    obtain ⟨y, hy, rfl⟩ := Option.map_eq_some_iff.1 hj
    have hjl : j < ws.length := by rcases Nat.lt_or_ge j ws.length with g | g; exact g; rw [List.getElem?_eq_none g] at hy; cases hy
    have h5 := congrArg (fun z => z[j]?) hx2
    simp only [Array.getElem?_extract, List.getElem?_toArray, List.getElem?_map, hy, Option.map_some] at h5
    rw [if_pos (by omega)] at h5
    exact h5) (by rcases Nat.lt_or_ge b w.heap.size with g | g; exact g; rw [Array.getElem?_eq_none g] at hb; cases hb) (by rw [List.length_map]; omega) (by rw [List.length_map]; exact hc) (by rw [e1, e2, join_is, List.length_map]; omega)
  rw [List.length_map] at this
  refine this.mono fun e w' ⟨he, hb⟩ => ?_
  subst he
  refine ⟨_, rfl, ⟨?_, rfl⟩, hb⟩
  rw [e1, e2, join_is]
  rfl
/-- the event of noughts -/
abbrev ev0 : Ev := ⟨0, 0, 0, 0, 0, [], [], []⟩
theorem ev0_fit : ev0.fit where
  ok := ⟨by decide, by decide, by decide, by decide, by decide, emp_bys, emp_bys, emp_bys⟩
  l1 := by decide
  l2 := by decide
  l3 := by decide
theorem wd_at (e : Ev) {i : Nat} (h : i < 8) : (wdL e)[i]? = some (.string (strB ((wordsN e).getD i []))) := by
  have e1 : wdL e = (wordsN e).map fun w => .string (strB w) := rfl
  have hl : i < (wordsN e).length := h
  rw [e1, List.getElem?_map, List.getElem?_eq_getElem hl, List.getD_eq_getElem?_getD, List.getElem?_eq_getElem hl]; rfl
theorem wd_take (e : Ev) (_ n : Nat) (hn : n ≤ 8) : (wdL e).toArray.extract 0 (0 + n * 1) = (flat n (txR ((wordsN e).take n))).toArray := by
  apply Array.ext'
  rw [Array.toList_extract, List.extract_eq_take_drop]
  have e1 : wdL e = (wordsN e).map fun w => .string (strB w) := rfl
  have e2 : ((wordsN e).take n).length = n := by rw [List.length_take]; exact Nat.min_eq_left hn
  have e3 := flat_tx ((wordsN e).take n)
  rw [e2] at e3
  rw [e3]
  show List.take (0 + n * 1 - 0) (List.drop 0 (wdL e)) = _
  rw [List.drop_zero, Nat.sub_zero, Nat.zero_add, Nat.mul_one, e1, List.map_take]
set_option maxHeartbeats 16000000 in
theorem line_c (e : Ev) (he : e.fit) {D : HP} {a : Option Addr} {c : Nat} [Rd D 1 (.slice a e.data.length c) e.data.length (byR e.data)] : Ctr Tryd.prog 33 [.agg (evL e a c).toArray] [GL, D] (fun v Bs => v = .string (strB (lineN e)) ∧ Bs = [D]) := by
  have hlen := lineN_len he.ok
  have hl1 := he.l1
  have hl2 := he.l2
  have hl3 := he.l3
  have hxt := wd_take e 0
  have hjl : ∀ n, cntW (wordsN e) dW 8 = n → joinB ((wordsN e).take n) = lineN e := fun n h => by unfold lineN; rw [h]
  refine s_enter 29 [(0, _)] (fun F => [_, _, F]) Tryd.func33 fun F => ?_
  refine gt_ ?_
  refine s_box fun r1 => ?_
  refine gt_ ?_
  refine s_call (sp := spl_) (hs := words_c e he (D := D) (a := a) (c := c)) (h := ?_)
  rintro v Bs ⟨rfl, rfl⟩
  refine gt_ ?_
  refine s_new0 (e := 5) (sz := 1) (row := byR []) ?_
  refine s_call (sp := spl_) (hs := words_c ev0 ev0_fit (D := SA (some 5) 1 (.slice none 0 0) 0 (byR [])) (a := none) (c := 0)) (h := ?_)
  rintro v Bs ⟨rfl, rfl⟩
  refine gt_ ?_
  refine s_alloc fun r3 => ?_
  refine gt_ ?_
  refine s_alloc fun r4 => ?_
  refine gt_ ?_
  refine s_loop (fun n : Nat => [(3, .pointer (some ⟨r3, 0, none⟩)), (4, .pointer (some ⟨r4, 0, none⟩)), (5, .int .i64 (n : Int))]) (fun _ => [Box r3 74 (wdL e), Box r4 74 (wdL ev0), D, F]) (fun n => 1 ≤ n ∧ n ≤ 8 ∧ cntW (wordsN e) dW 8 = cntW (wordsN e) dW n) (fun n => n) 8 ⟨by decide, by decide, rfl⟩ ent_ ?_
  rintro n ⟨hn1, hn8, hn⟩ next
  have hcell : ∀ i, i < 8 → (wdL ev0)[i]? = some (.string (strB (dW.getD i []))) := fun i hi => by rw [wd_at ev0 hi, dW_is]
  have hdb : ∀ i, Bys (dW.getD i []) := fun i => by rw [← dW_is]; exact getD_bys (wordsN_bys ev0_fit.ok) i
  refine gt_ ?_
  refine s_drawN 0 [.q 0, .q 1, .q 2, .q 3, .q 4, .q 5, .q 6, .q 7, .q 8, .q 9, .q 10, .q 11, .q 12] ?_
  refine dt_ ?_
  cases hg : decide ((n : Int) > 1) with
  | false =>
    have hg2 := of_decide_eq_false hg
    have e1 : cntW (wordsN e) dW n = n := cntW_one _ _ _ (by omega)
    refine dt_ ?_
    refine gt_ ?_
    refine s_look (lk_slcm n (by omega) (by omega)) ?_
    refine s_fzo (b := r3) (off := 0) (m := n) (c := n) (sz := 1) (row := txR ((wordsN e).take n)) sel_ (fun _ _ => rfl) (Nat.le_refl _) (by show 0 + n * 1 ≤ 8; omega) (hxt n hn8) ?_
    refine s_call (sp := spl_) (hs := joinw_c (A := SA none 1 (.slice (some ⟨r3, 0, none⟩) n n) n (txR ((wordsN e).take n))) (a := some ⟨r3, 0, none⟩) (n := n) (c := n) ((wordsN e).take n) (by rw [List.length_take]; exact Nat.min_eq_left hn8) (by omega) (fun _ _ => rfl) (by omega) (by rw [hjl n (hn.trans e1)]; omega)) (h := ?_)
    rintro v Bs ⟨rfl, rfl⟩
    refine gt_ ?_
    exact s_ret1 (rs := [.tmp 2]) Tryd.func33 rfl (by intro j; refine RVS.tmp _ rfl ?_; exact RVS.nil) (⟨by unfold lineN; rw [hn, e1], rfl⟩) ent_
  | true =>
    have hg2 := of_decide_eq_true hg
    have hb1 := getD_bys (wordsN_bys he.ok) (n - 1)
    have hb2 := hdb (n - 1)
    refine dt_ ?_
    rw [show ((n : Int) - 1) = ((n - 1 : Nat) : Int) by omega]
    refine d_look rfl (lk_zix (b := r3) (i := n - 1)) ?_
    refine d_look rfl (lk_ldx (b := r3) (off := (n - 1) * 1) (v := .string (strB ((wordsN e).getD (n - 1) []))) sel_ (by rw [Nat.mul_one]; exact wd_at e (by omega))) ?_
    refine dt_ ?_
    rw [show ((n : Int) - 1) = ((n - 1 : Nat) : Int) by omega]
    refine d_look rfl (lk_zix (b := r4) (i := n - 1)) ?_
    refine d_look rfl (lk_ldx (b := r4) (off := (n - 1) * 1) (v := .string (strB (dW.getD (n - 1) []))) sel_ (by rw [Nat.mul_one]; exact hcell _ (by omega))) ?_
    refine dt_ ?_
    cases heq : decide ((wordsN e).getD (n - 1) [] = dW.getD (n - 1) []) with
    | false =>
      have e1 : cntW (wordsN e) dW n = n := by rw [cntW_step _ _ _ (by omega), if_neg (of_decide_eq_false heq)]
      refine gt_ ?_
      refine s_look (lk_slcm n (by omega) (by omega)) ?_
      refine s_fzo (b := r3) (off := 0) (m := n) (c := n) (sz := 1) (row := txR ((wordsN e).take n)) sel_ (fun _ _ => rfl) (Nat.le_refl _) (by show 0 + n * 1 ≤ 8; omega) (hxt n hn8) ?_
      refine s_call (sp := spl_) (hs := joinw_c (A := SA none 1 (.slice (some ⟨r3, 0, none⟩) n n) n (txR ((wordsN e).take n))) (a := some ⟨r3, 0, none⟩) (n := n) (c := n) ((wordsN e).take n) (by rw [List.length_take]; exact Nat.min_eq_left hn8) (by omega) (fun _ _ => rfl) (by omega) (by rw [hjl n (hn.trans e1)]; omega)) (h := ?_)
      rintro v Bs ⟨rfl, rfl⟩
      refine gt_ ?_
      exact s_ret1 (rs := [.tmp 2]) Tryd.func33 rfl (by intro j; refine RVS.tmp _ rfl ?_; exact RVS.nil) (⟨by unfold lineN; rw [hn, e1], rfl⟩) ent_
    | true =>
      have e1 : cntW (wordsN e) dW n = cntW (wordsN e) dW (n - 1) := by rw [cntW_step _ _ _ (by omega), if_pos (of_decide_eq_true heq)]
      refine gt_ ?_
      rw [show ((n : Int) - 1) = ((n - 1 : Nat) : Int) by omega]
      exact s_entF ent_ (s_keep _ (next (n - 1) ⟨by omega, by omega, hn.trans e1⟩ (by omega)))
end Go.Proofs.YtmlddafbenfilaaDoor
/- The event of a line, as the program reads it. -/
namespace Go.Proofs.YtmlddafbenfilaaDoor
open Go.Cam
set_option maxRecDepth 100000
/-- what the reading of a line answers -/
def EvP (s : List Nat) (v : Value) (Bs : List HP) : Prop := ∃ e a c, v = .tuple #[.agg (evL e a c).toArray, .bool (evF s).isSome] ∧ (∀ x, evF s = some x → e = x) ∧ Bs = [SA (some 5) 1 (.slice a e.data.length c) e.data.length (byR e.data)]
abbrev txL (ws : List (List Nat)) : List Value := ws.map fun w => .string (strB w)
theorem tx_at (ws : List (List Nat)) {i : Nat} (h : i < ws.length) : (txL ws)[i]? = some (.string (strB (ws.getD i []))) := by
  rw [List.getElem?_map, List.getElem?_eq_getElem h, List.getD_eq_getElem?_getD, List.getElem?_eq_getElem h]; rfl
theorem splitB_sum : ∀ (s : List Nat), ((splitB s).map (·.length)).sum ≤ s.length
  | [] => by simp [splitB]
  | c :: r => by
    have ih := splitB_sum r
    rw [splitB]
    split
    · simp only [List.map_cons, List.length_nil, List.sum_cons, List.length_cons]; omega
    · split
      · rename_i w ws e
        rw [e] at ih
        simp only [List.map_cons, List.sum_cons, List.length_cons] at ih ⊢; omega
      · simp
theorem sum_mem {l : List Nat} {x : Nat} (h : x ∈ l) : x ≤ l.sum := by
  induction l with
  | nil => cases h
  | cons y l ih =>
    rw [List.sum_cons]
    rcases List.mem_cons.1 h with rfl | h
    · omega
    · have := ih h; omega
theorem splitB_len (s : List Nat) : ∀ w ∈ splitB s, w.length ≤ s.length := fun w hw => Nat.le_trans (sum_mem (List.mem_map.2 ⟨w, hw, rfl⟩)) (splitB_sum s)
theorem fill_len (s : List Nat) (i : Nat) : ((fillN s).getD i []).length ≤ s.length + 2 := by
  rw [List.getD_eq_getElem?_getD]
  cases h : (fillN s)[i]? with
  | none => simp
  | some w =>
    rcases List.mem_append.1 (List.mem_of_getElem? h) with h | h
    · have := splitB_len s w h
      show w.length ≤ _; omega
    · have h2 := List.mem_of_mem_drop h
      unfold dW at h2
      simp only [List.mem_cons, List.not_mem_nil, or_false] at h2
      show w.length ≤ _
      rcases h2 with rfl | rfl | rfl | rfl | rfl | rfl | rfl | rfl <;> simp
theorem fill_eight {s : List Nat} (h : (splitB s).length ≤ 8) : (fillN s).length = 8 := by
  unfold fillN
  rw [List.length_append, List.length_drop]
  show _ + (8 - _) = 8
  omega
theorem evF_none {s : List Nat} (h : evP s = none) : evF s = none := by unfold evF; rw [h]; rfl
theorem evF_ev {s : List Nat} {e : Ev} (h : evP s = some e) : evF s = if lineN e = s then some e else none := by
  unfold evF; rw [h]
  show (if decide (lineN e = s) = true then some e else none) = _
  by_cases q : lineN e = s
  · rw [if_pos q, if_pos (decide_eq_true q)]
  · rw [if_neg q, if_neg (by rw [decide_eq_false q]; decide)]
theorem qB_ge : ∀ (o : List Nat), o.length ≤ (qB o).length
  | [] => Nat.le_refl _
  | c :: o => by
    have ih := qB_ge o
    show (c :: o).length ≤ (q1 c ++ qB o).length
    have : 1 ≤ (q1 c).length := by unfold q1; split <;> simp
    rw [List.length_append, List.length_cons]; omega
theorem wd_zero : wdL ev0 = txL dW := by
  show txL (wordsN ev0) = _
  rw [dW_is]
theorem unq_len {s o : List Nat} (hs : Bys s) (h : unquoteP s = some o) : o.length ≤ s.length := by
  unfold unquoteP at h
  split at h
  · cases h
  · obtain ⟨h1, _, _⟩ := unP_spec _ _ o (Nat.le_refl _) h fun x hx => hs x (List.mem_of_mem_drop (List.dropLast_subset _ hx))
    have h2 := qB_ge o
    rw [h1, List.length_dropLast, List.length_drop] at h2
    omega
set_option maxHeartbeats 32000000 in
theorem event_c (s : List Nat) (hs : Bys s) (hl : s.length ≤ 100000) : Ctr Tryd.prog 29 [.string (strB s)] [GL] (EvP s) := by
  refine s_enter 97 [(0, _)] (fun F => [_, F]) Tryd.func29 fun F => ?_
  refine gt_ ?_
  refine s_alloc fun r2 => ?_
  refine gt_ ?_
  refine s_new0 (e := 5) (sz := 1) (row := byR []) (s_open (B := SA (some 5) 1 (.slice none ev0.data.length 0) ev0.data.length (byR ev0.data)) (fun _ _ h => h) ?_)
  refine s_call (sp := spl_) (hs := words_c ev0 ev0_fit (D := SA (some 5) 1 (.slice none ev0.data.length 0) ev0.data.length (byR ev0.data)) (a := none) (c := 0)) (h := ?_)
  rintro v Bs ⟨rfl, rfl⟩
  refine gt_ ?_
  refine s_alloc fun r4 => ?_
  refine gt_ ?_
  refine s_call (sp := spl_) (hs := split_c s hs (by omega)) (h := ?_)
  rintro v Bs ⟨a5, c5, rfl, rfl⟩
  refine gt_ ?_
  refine s_front (a := Box r4 74 (wdL ev0)) sel_ (s_open (B := Box r4 74 (txL dW)) (fun H M h => by rw [← wd_zero]; exact h) ?_)
  cases h8 : decide (((splitB s).length : Int) > 8) with
  | true =>
    have h9 := of_decide_eq_true h8
    have e1 : evF s = none := evF_none (by unfold evP; rw [if_pos (by omega)])
    refine gt_ ?_
    exact s_rett (rs := [.cell 2 42, .tmp 3]) (vs := [_, _]) Tryd.func29 rfl (by intro j; refine RVS.cell _ _ rfl sel_ (by rfl) ?_; refine RVS.tmp _ rfl ?_; exact RVS.nil) rfl (⟨ev0, none, 0, by rw [e1]; rfl, (fun x h => by rw [e1] at h; cases h), rfl⟩) ent_
  | false =>
    have h9 := of_decide_eq_false h8
    have hW : (fillN s).length = 8 := fill_eight (by omega)
    have hP : evP s = evW (fillN s) := by unfold evP; rw [if_neg (by omega)]
    have hWb := fill_bys hs
    have hWl := fill_len s
    refine gt_ ?_
    refine s_step (st_cpX (b := r4) (n' := 8) (c' := 8) (m := (splitB s).length) (u := a5) (c := c5) (cs := txL dW) (row := txR (splitB s)) (by omega) (by decide) (by repeat (first | with_reducible exact Upd.here | with_reducible apply Upd.there)) (by repeat (first | with_reducible exact SelR.here | with_reducible apply SelR.there)) (by rw [flat_tx, List.all_eq_true]; intro u hu; obtain ⟨x, _, rfl⟩ := List.mem_map.1 hu; rfl)) ?_
    rintro _ _ ⟨rfl, rfl⟩
    refine s_front (a := Box r4 74 (flat (splitB s).length (txR (splitB s)) ++ (txL dW).drop (splitB s).length)) sel_ (s_open (B := Box r4 74 (txL (fillN s))) (fun H M h => by rw [show txL (fillN s) = flat (splitB s).length (txR (splitB s)) ++ (txL dW).drop (splitB s).length by rw [flat_tx]; unfold fillN txL; rw [List.map_append, List.map_drop]]; exact h) ?_)
    generalize fillN s = W at hW hP hWb hWl
    refine gt_ ?_
    refine s_alloc fun r6 => ?_
    refine gt_ ?_
    refine s_bs (cells := [.pointer (some ⟨r6, 0, none⟩), .pointer (some ⟨r6, 1, none⟩), .pointer (some ⟨r6, 2, none⟩), .pointer (some ⟨r6, 3, none⟩), .pointer (some ⟨r6, 4, none⟩)]) (fun o => ?_) (fun j => rfl)
    refine gt_ ?_
    refine s_unroll ?_
    refine gt_ ?_
    refine s_look (lk_ixs (v := .slice o 5 5) (i := 0)) ?_
    refine s_look (lk_lde (v := .slice o 5 5) (u := .pointer (some ⟨r6, 0, none⟩))) ?_
    refine gt_ ?_
    refine s_look (lk_ldx (b := r4) (off := 0) (v := .string (strB (W.getD 0 []))) sel_ (tx_at W (by omega))) ?_
    refine gt_ ?_
    refine s_call (sp := spl_) (hs := atoi_c (W.getD 0 []) (by have := hWl 0; omega)) (h := ?_)
    rintro v Bs ⟨hv, rfl⟩
    cases hA0 : atoiN (W.getD 0 []) with
    | none =>
      rw [hA0] at hv
      obtain ⟨xx, tt, pp, rfl⟩ := hv
      have e1 : evF s = none := evF_none (by rw [hP]; unfold evW; rw [hA0])
      refine gt_ ?_
      exact s_rett (rs := [.cell 2 42, .tmp 3]) (vs := [_, _]) Tryd.func29 rfl (by intro j; refine RVS.cell _ _ rfl sel_ (by rfl) ?_; refine RVS.tmp _ rfl ?_; exact RVS.nil) rfl (⟨⟨0, 0, 0, 0, 0, [], [], []⟩, none, 0, by rw [e1]; rfl, (fun x h => by rw [e1] at h; cases h), rfl⟩) ent_
    | some x0 =>
      rw [hA0] at hv
      have hv2 : v = .tuple #[.int .i64 x0, .nilIface] := hv
      subst hv2
      refine gt_ ?_
      refine s_again ?_
      refine gt_ ?_
      refine s_look (lk_ixs (v := .slice o 5 5) (i := 1)) ?_
      refine s_look (lk_lde (v := .slice o 5 5) (u := .pointer (some ⟨r6, 1, none⟩))) ?_
      refine gt_ ?_
      refine s_look (lk_ldx (b := r4) (off := 1) (v := .string (strB (W.getD 1 []))) sel_ (tx_at W (by omega))) ?_
      refine gt_ ?_
      refine s_call (sp := spl_) (hs := atoi_c (W.getD 1 []) (by have := hWl 1; omega)) (h := ?_)
      rintro v Bs ⟨hv, rfl⟩
      cases hA1 : atoiN (W.getD 1 []) with
      | none =>
        rw [hA1] at hv
        obtain ⟨xx, tt, pp, rfl⟩ := hv
        have e1 : evF s = none := evF_none (by rw [hP]; unfold evW; rw [hA0, hA1])
        refine gt_ ?_
        exact s_rett (rs := [.cell 2 42, .tmp 3]) (vs := [_, _]) Tryd.func29 rfl (by intro j; refine RVS.cell _ _ rfl sel_ (by rfl) ?_; refine RVS.tmp _ rfl ?_; exact RVS.nil) rfl (⟨⟨x0, 0, 0, 0, 0, [], [], []⟩, none, 0, by rw [e1]; rfl, (fun x h => by rw [e1] at h; cases h), rfl⟩) ent_
      | some x1 =>
        rw [hA1] at hv
        have hv2 : v = .tuple #[.int .i64 x1, .nilIface] := hv
        subst hv2
        refine gt_ ?_
        refine s_again ?_
        refine gt_ ?_
        refine s_look (lk_ixs (v := .slice o 5 5) (i := 2)) ?_
        refine s_look (lk_lde (v := .slice o 5 5) (u := .pointer (some ⟨r6, 2, none⟩))) ?_
        refine gt_ ?_
        refine s_look (lk_ldx (b := r4) (off := 2) (v := .string (strB (W.getD 2 []))) sel_ (tx_at W (by omega))) ?_
        refine gt_ ?_
        refine s_call (sp := spl_) (hs := atoi_c (W.getD 2 []) (by have := hWl 2; omega)) (h := ?_)
        rintro v Bs ⟨hv, rfl⟩
        cases hA2 : atoiN (W.getD 2 []) with
        | none =>
          rw [hA2] at hv
          obtain ⟨xx, tt, pp, rfl⟩ := hv
          have e1 : evF s = none := evF_none (by rw [hP]; unfold evW; rw [hA0, hA1, hA2])
          refine gt_ ?_
          exact s_rett (rs := [.cell 2 42, .tmp 3]) (vs := [_, _]) Tryd.func29 rfl (by intro j; refine RVS.cell _ _ rfl sel_ (by rfl) ?_; refine RVS.tmp _ rfl ?_; exact RVS.nil) rfl (⟨⟨x0, x1, 0, 0, 0, [], [], []⟩, none, 0, by rw [e1]; rfl, (fun x h => by rw [e1] at h; cases h), rfl⟩) ent_
        | some x2 =>
          rw [hA2] at hv
          have hv2 : v = .tuple #[.int .i64 x2, .nilIface] := hv
          subst hv2
          refine gt_ ?_
          refine s_again ?_
          refine gt_ ?_
          refine s_look (lk_ixs (v := .slice o 5 5) (i := 3)) ?_
          refine s_look (lk_lde (v := .slice o 5 5) (u := .pointer (some ⟨r6, 3, none⟩))) ?_
          refine gt_ ?_
          refine s_look (lk_ldx (b := r4) (off := 3) (v := .string (strB (W.getD 3 []))) sel_ (tx_at W (by omega))) ?_
          refine gt_ ?_
          refine s_call (sp := spl_) (hs := atoi_c (W.getD 3 []) (by have := hWl 3; omega)) (h := ?_)
          rintro v Bs ⟨hv, rfl⟩
          cases hA3 : atoiN (W.getD 3 []) with
          | none =>
            rw [hA3] at hv
            obtain ⟨xx, tt, pp, rfl⟩ := hv
            have e1 : evF s = none := evF_none (by rw [hP]; unfold evW; rw [hA0, hA1, hA2, hA3])
            refine gt_ ?_
            exact s_rett (rs := [.cell 2 42, .tmp 3]) (vs := [_, _]) Tryd.func29 rfl (by intro j; refine RVS.cell _ _ rfl sel_ (by rfl) ?_; refine RVS.tmp _ rfl ?_; exact RVS.nil) rfl (⟨⟨x0, x1, x2, 0, 0, [], [], []⟩, none, 0, by rw [e1]; rfl, (fun x h => by rw [e1] at h; cases h), rfl⟩) ent_
          | some x3 =>
            rw [hA3] at hv
            have hv2 : v = .tuple #[.int .i64 x3, .nilIface] := hv
            subst hv2
            refine gt_ ?_
            refine s_again ?_
            refine gt_ ?_
            refine s_look (lk_ixs (v := .slice o 5 5) (i := 4)) ?_
            refine s_look (lk_lde (v := .slice o 5 5) (u := .pointer (some ⟨r6, 4, none⟩))) ?_
            refine gt_ ?_
            refine s_look (lk_ldx (b := r4) (off := 4) (v := .string (strB (W.getD 4 []))) sel_ (tx_at W (by omega))) ?_
            refine gt_ ?_
            refine s_call (sp := spl_) (hs := atoi_c (W.getD 4 []) (by have := hWl 4; omega)) (h := ?_)
            rintro v Bs ⟨hv, rfl⟩
            cases hA4 : atoiN (W.getD 4 []) with
            | none =>
              rw [hA4] at hv
              obtain ⟨xx, tt, pp, rfl⟩ := hv
              have e1 : evF s = none := evF_none (by rw [hP]; unfold evW; rw [hA0, hA1, hA2, hA3, hA4])
              refine gt_ ?_
              exact s_rett (rs := [.cell 2 42, .tmp 3]) (vs := [_, _]) Tryd.func29 rfl (by intro j; refine RVS.cell _ _ rfl sel_ (by rfl) ?_; refine RVS.tmp _ rfl ?_; exact RVS.nil) rfl (⟨⟨x0, x1, x2, x3, 0, [], [], []⟩, none, 0, by rw [e1]; rfl, (fun x h => by rw [e1] at h; cases h), rfl⟩) ent_
            | some x4 =>
              rw [hA4] at hv
              have hv2 : v = .tuple #[.int .i64 x4, .nilIface] := hv
              subst hv2
              refine gt_ ?_
              refine s_again ?_
              refine gt_ ?_
              refine s_look (lk_ldx (b := r4) (off := 5) (v := .string (strB (W.getD 5 []))) sel_ (tx_at W (by omega))) ?_
              refine gt_ ?_
              refine s_call (sp := spl_) (hs := unquote_c (W.getD 5 []) (hWb 5) (by have := hWl 5; omega)) (h := ?_)
              rintro v Bs ⟨ap, cp, op, hp, rfl, rfl⟩
              refine gt_ ?_
              refine s_look (lk_ldx (b := r4) (off := 6) (v := .string (strB (W.getD 6 []))) sel_ (tx_at W (by omega))) ?_
              refine gt_ ?_
              refine s_call (sp := spl_) (hs := unquote_c (W.getD 6 []) (hWb 6) (by have := hWl 6; omega)) (h := ?_)
              rintro v Bs ⟨aq, cq, oq, hq, rfl, rfl⟩
              refine gt_ ?_
              refine s_look (lk_ldx (b := r4) (off := 7) (v := .string (strB (W.getD 7 []))) sel_ (tx_at W (by omega))) ?_
              refine gt_ ?_
              refine s_call (sp := spl_) (hs := unquote_c (W.getD 7 []) (hWb 7) (by have := hWl 7; omega)) (h := ?_)
              rintro v Bs ⟨ad, cd, od, hd, rfl, rfl⟩
              refine gt_ ?_
              refine s_look (lk_b2s (s := op) (a := ap) (m := op.length) (c := cp) (by repeat (first | with_reducible exact SelR.here | with_reducible apply SelR.there)) rfl) ?_
              refine gt_ ?_
              refine s_look (lk_b2s (s := oq) (a := aq) (m := oq.length) (c := cq) (by repeat (first | with_reducible exact SelR.here | with_reducible apply SelR.there)) rfl) ?_
              refine gt_ ?_
              have hE : evP s = match unquoteP (W.getD 5 []), unquoteP (W.getD 6 []), unquoteP (W.getD 7 []) with
                  | some f, some g, some h => some ⟨x0, x1, x2, x3, x4, f, g, h⟩
                  | _, _, _ => none := by
                rw [hP]; unfold evW; rw [hA0, hA1, hA2, hA3, hA4]
                cases unquoteP (W.getD 5 []) <;> cases unquoteP (W.getD 6 []) <;> cases unquoteP (W.getD 7 []) <;> rfl
              refine s_front (a := Box r2 42 [.int .i64 0, .int .i64 0, .int .i64 0, .int .i64 0, .int .i64 0, .string ByteArray.empty, .string ByteArray.empty, .slice none 0 0]) sel_ ?_
              refine s_front (a := SA (some 5) 1 (.slice ad od.length cd) od.length (byR od)) sel_ ?_
              refine s_front (a := GL) sel_ ?_
              refine s_drawN 3 [.q 0, .q 1, .q 2, .q 3, .q 4, .q 5, .q 6, .q 7, .q 8, .q 9, .q 10, .q 11, .q 12, .q 14, .s 13, .q 15, .q 16, .s 17, .q 18] ?_
              refine dt_ ?_
              cases hU5 : unquoteP (W.getD 5 []) with
              | none =>
                have e1 : evF s = none := evF_none (by rw [hE, hU5])
                refine dt_ ?_
                refine d_noU rfl ?_
                refine dt_ ?_
                refine d_stepU rfl (st_st (b := r2) (off := 0) (m := 8) (c := [.int .i64 0, .int .i64 0, .int .i64 0, .int .i64 0, .int .i64 0, .string ByteArray.empty, .string ByteArray.empty, .slice none 0 0]) (c' := [.int .i64 x0, .int .i64 x1, .int .i64 x2, .int .i64 x3, .int .i64 x4, .string (strB op), .string (strB oq), .slice ad od.length cd]) (vs := [.int .i64 x0, .int .i64 x1, .int .i64 x2, .int .i64 x3, .int .i64 x4, .string (strB op), .string (strB oq), .slice ad od.length cd]) (v := .agg ([.int .i64 x0, .int .i64 x1, .int .i64 x2, .int .i64 x3, .int .i64 x4, .string (strB op), .string (strB oq), .slice ad od.length cd] : List Value).toArray)) ?_
                rintro _ _ rfl
                refine dt_ ?_
                refine gt_ ?_
                exact s_rett (rs := [.cell 2 42, .tmp 3]) (vs := [_, _]) Tryd.func29 rfl (by intro j; refine RVS.cell _ _ rfl sel_ (by rfl) ?_; refine RVS.tmp _ rfl ?_; exact RVS.nil) rfl (⟨⟨x0, x1, x2, x3, x4, op, oq, od⟩, ad, cd, by rw [e1]; rfl, (fun x h => by rw [e1] at h; cases h), rfl⟩) ent_
              | some f5 =>
                refine dt_ ?_
                cases hU6 : unquoteP (W.getD 6 []) with
                | none =>
                  have e1 : evF s = none := evF_none (by rw [hE, hU5, hU6])
                  refine dt_ ?_
                  refine d_noU rfl ?_
                  refine dt_ ?_
                  refine d_stepU rfl (st_st (b := r2) (off := 0) (m := 8) (c := [.int .i64 0, .int .i64 0, .int .i64 0, .int .i64 0, .int .i64 0, .string ByteArray.empty, .string ByteArray.empty, .slice none 0 0]) (c' := [.int .i64 x0, .int .i64 x1, .int .i64 x2, .int .i64 x3, .int .i64 x4, .string (strB op), .string (strB oq), .slice ad od.length cd]) (vs := [.int .i64 x0, .int .i64 x1, .int .i64 x2, .int .i64 x3, .int .i64 x4, .string (strB op), .string (strB oq), .slice ad od.length cd]) (v := .agg ([.int .i64 x0, .int .i64 x1, .int .i64 x2, .int .i64 x3, .int .i64 x4, .string (strB op), .string (strB oq), .slice ad od.length cd] : List Value).toArray)) ?_
                  rintro _ _ rfl
                  refine dt_ ?_
                  refine gt_ ?_
                  exact s_rett (rs := [.cell 2 42, .tmp 3]) (vs := [_, _]) Tryd.func29 rfl (by intro j; refine RVS.cell _ _ rfl sel_ (by rfl) ?_; refine RVS.tmp _ rfl ?_; exact RVS.nil) rfl (⟨⟨x0, x1, x2, x3, x4, op, oq, od⟩, ad, cd, by rw [e1]; rfl, (fun x h => by rw [e1] at h; cases h), rfl⟩) ent_
                | some f6 =>
                  refine dt_ ?_
                  cases hU7 : unquoteP (W.getD 7 []) with
                  | none =>
                    have e1 : evF s = none := evF_none (by rw [hE, hU5, hU6, hU7])
                    refine dt_ ?_
                    refine d_noU rfl ?_
                    refine dt_ ?_
                    refine d_stepU rfl (st_st (b := r2) (off := 0) (m := 8) (c := [.int .i64 0, .int .i64 0, .int .i64 0, .int .i64 0, .int .i64 0, .string ByteArray.empty, .string ByteArray.empty, .slice none 0 0]) (c' := [.int .i64 x0, .int .i64 x1, .int .i64 x2, .int .i64 x3, .int .i64 x4, .string (strB op), .string (strB oq), .slice ad od.length cd]) (vs := [.int .i64 x0, .int .i64 x1, .int .i64 x2, .int .i64 x3, .int .i64 x4, .string (strB op), .string (strB oq), .slice ad od.length cd]) (v := .agg ([.int .i64 x0, .int .i64 x1, .int .i64 x2, .int .i64 x3, .int .i64 x4, .string (strB op), .string (strB oq), .slice ad od.length cd] : List Value).toArray)) ?_
                    rintro _ _ rfl
                    refine dt_ ?_
                    refine gt_ ?_
                    exact s_rett (rs := [.cell 2 42, .tmp 3]) (vs := [_, _]) Tryd.func29 rfl (by intro j; refine RVS.cell _ _ rfl sel_ (by rfl) ?_; refine RVS.tmp _ rfl ?_; exact RVS.nil) rfl (⟨⟨x0, x1, x2, x3, x4, op, oq, od⟩, ad, cd, by rw [e1]; rfl, (fun x h => by rw [e1] at h; cases h), rfl⟩) ent_
                  | some f7 =>
                    have g5 : op = f5 := by rw [hp, hU5]; rfl
                    have g6 : oq = f6 := by rw [hq, hU6]; rfl
                    have g7 : od = f7 := by rw [hd, hU7]; rfl
                    have hE2 : evP s = some ⟨x0, x1, x2, x3, x4, op, oq, od⟩ := by rw [hE, hU5, hU6, hU7, g5, g6, g7]
                    have hfit : Ev.fit ⟨x0, x1, x2, x3, x4, op, oq, od⟩ := {
                      ok := evP_ok hs hE2
                      l1 := by have := unq_len (hWb 5) hU5; have := hWl 5; show op.length ≤ _; rw [g5]; omega
                      l2 := by have := unq_len (hWb 6) hU6; have := hWl 6; show oq.length ≤ _; rw [g6]; omega
                      l3 := by have := unq_len (hWb 7) hU7; have := hWl 7; show od.length ≤ _; rw [g7]; omega }
                    have hlb := lineN_bys hfit.ok
                    have hEF := evF_ev hE2
                    clear hp hq hd
                    refine dt_ ?_
                    refine d_step rfl (st_call (sp := spl_) (hs := line_c ⟨x0, x1, x2, x3, x4, op, oq, od⟩ hfit (D := SA (some 5) 1 (.slice ad od.length cd) od.length (byR od)) (a := ad) (c := cd))) ?_
                    rintro v Bs ⟨Cs, ⟨rfl, rfl⟩, rfl⟩
                    refine dt_ ?_
                    refine d_stepU rfl (st_st (b := r2) (off := 0) (m := 8) (c := [.int .i64 0, .int .i64 0, .int .i64 0, .int .i64 0, .int .i64 0, .string ByteArray.empty, .string ByteArray.empty, .slice none 0 0]) (c' := [.int .i64 x0, .int .i64 x1, .int .i64 x2, .int .i64 x3, .int .i64 x4, .string (strB op), .string (strB oq), .slice ad od.length cd]) (vs := [.int .i64 x0, .int .i64 x1, .int .i64 x2, .int .i64 x3, .int .i64 x4, .string (strB op), .string (strB oq), .slice ad od.length cd]) (v := .agg ([.int .i64 x0, .int .i64 x1, .int .i64 x2, .int .i64 x3, .int .i64 x4, .string (strB op), .string (strB oq), .slice ad od.length cd] : List Value).toArray)) ?_
                    rintro _ _ rfl
                    refine dt_ ?_
                    refine gt_ ?_
                    exact s_rett (rs := [.cell 2 42, .tmp 3]) (vs := [_, _]) Tryd.func29 rfl (by intro j; refine RVS.cell _ _ rfl sel_ (by rfl) ?_; refine RVS.tmp _ rfl ?_; exact RVS.nil) rfl (⟨⟨x0, x1, x2, x3, x4, op, oq, od⟩, ad, cd, by rw [hEF]; by_cases hh : lineN ⟨x0, x1, x2, x3, x4, op, oq, od⟩ = s <;> simp [hh], (fun x h => by rw [hEF] at h; split at h <;> cases h; rfl), rfl⟩) ent_
end Go.Proofs.YtmlddafbenfilaaDoor
