/- FindRows. -/
import Derived.Test.YtgbbcpfnmkeijaaFindBL
namespace Go.Proofs.Ytgbbcpfnmkeijaa
open Go.Cam
set_option maxRecDepth 100000
theorem Key.lt_true_or (a b : Key) : a.lt b = true ∨ b.lt a = true ∨ a = b := by
  cases h : a.lt b with
  | true => exact .inl rfl
  | false =>
    cases g : b.lt a with
    | true => exact .inr (.inl rfl)
    | false => exact .inr (.inr (Key.tot h g))
/-- between a key and the next one there is none -/
theorem next_lt {k n x : Key} (hk : k.ok = true) (hx : x.ok = true) (hn : k.next = some n) : (!(x.lt n)) = k.lt x := by
  rw [Key.ok_iff] at hk hx
  have key : x.lt n = true ↔ ¬ k.lt x = true := by
    unfold Key.next at hn
    obtain ⟨a, b, c⟩ := k
    obtain ⟨d, e, f⟩ := x
    dsimp only at hn hk hx
    split at hn
    · cases hn
      rw [wrap_id (by omega) (by omega), Key.lt_iff, Key.lt_iff]; dsimp only; omega
    · split at hn
      · cases hn
        rw [wrap_id (by omega) (by omega), Key.lt_iff, Key.lt_iff]; dsimp only; omega
      · split at hn
        · cases hn
          rw [wrap_id (by omega) (by omega), Key.lt_iff, Key.lt_iff]; dsimp only; omega
        · cases hn
  cases h1 : x.lt n with
  | true =>
    have := key.1 h1
    cases h2 : k.lt x with
    | true => exact absurd h2 this
    | false => rfl
  | false =>
    cases h2 : k.lt x with
    | true => rfl
    | false => rw [key.2 (by rw [h2]; simp)] at h1; cases h1
theorem next_none {k x : Key} (hk : k.ok = true) (hx : x.ok = true) (hn : k.next = none) : k.lt x = false := by
  rw [Key.ok_iff] at hk hx
  unfold Key.next at hn
  cases h : k.lt x with
  | false => rfl
  | true =>
    rw [Key.lt_iff] at h
    split at hn
    · cases hn
    · split at hn
      · cases hn
      · split at hn
        · cases hn
        · omega
theorem next_ok {k n : Key} (hk : k.ok = true) (hn : k.next = some n) : n.ok = true := by
  rw [Key.ok_iff] at hk ⊢
  unfold Key.next at hn
  split at hn
  · cases hn; rw [wrap_id (by omega) (by omega)]; dsimp only; omega
  · split at hn
    · cases hn; rw [wrap_id (by omega) (by omega)]; dsimp only; omega
    · split at hn
      · cases hn; rw [wrap_id (by omega) (by omega)]; dsimp only; omega
      · cases hn
theorem P_from {fr k : Key} (h : k.ok = true) : rscanP fr ⟨2147483647, 255, 2147483647⟩ k = !(k.lt fr) := by
  have := P_all h
  unfold rscanP at *
  cases e : Key.lt ⟨2147483647, 255, 2147483647⟩ k with
  | true => rw [e] at this; simp at this
  | false => simp
theorem P_to {to k : Key} (h : k.ok = true) : rscanP ⟨0, 0, 0⟩ to k = !(to.lt k) := by
  have := P_all h
  unfold rscanP at *
  cases e : k.lt ⟨0, 0, 0⟩ with
  | true => rw [e] at this; simp at this
  | false => simp
theorem filter_split {p : Item → Bool} : ∀ {l : List Item}, (∀ i j, i < j → j < l.length → p (l.getD i default) = true → p (l.getD j default) = true) → l.filter (fun x => !(p x)) ++ l.filter p = l
  | [], _ => rfl
  | x :: l, h => by
    have ih := filter_split (p := p) (l := l) fun i j hij hj hp => by
      have := h (i + 1) (j + 1) (by omega) (by rw [List.length_cons]; omega) (by simpa using hp)
      simpa using this
    cases hx : p x with
    | false => rw [List.filter_cons_of_pos (by simp [hx]), List.filter_cons_of_neg (by simp [hx]), List.cons_append, ih]
    | true =>
      have hall : ∀ y ∈ l, p y = true := fun y hy => by
        obtain ⟨i, hi, e⟩ := List.mem_iff_getElem.1 hy
        have := h 0 (i + 1) (by omega) (by rw [List.length_cons]; omega) (by simpa using hx)
        rw [List.getD_cons_succ, getD_get hi, e] at this; exact this
      rw [List.filter_cons_of_neg (by simp [hx]), List.filter_cons_of_pos hx, List.filter_eq_nil_iff.2 (fun y hy => by simp [hall y hy]), List.filter_eq_self.2 hall]; rfl
theorem two_scans {l : List Item} {k n : Key} (h : RowOk l) (hl : l.length ≤ 150) (hk : k.ok = true) (hn : k.next = some n) :
    pick ⟨0, 0, 0⟩ k 1000 l [] ++ pick n ⟨2147483647, 255, 2147483647⟩ 1000 l [] = l := by
  have e1 : pick ⟨0, 0, 0⟩ k 1000 l [] = l.filter (fun x => !(k.lt x.key)) := by
    unfold pick
    rw [List.nil_append, List.filter_congr (q := fun x : Item => !(k.lt x.key)) fun x hx => P_to (h.ok x hx).1]
    exact List.take_of_length_le (Nat.le_trans (List.length_filter_le _ _) (by simp; omega))
  have e2 : pick n ⟨2147483647, 255, 2147483647⟩ 1000 l [] = l.filter (fun x => k.lt x.key) := by
    unfold pick
    rw [List.nil_append, List.filter_congr (q := fun x : Item => k.lt x.key) fun x hx => by rw [P_from (h.ok x hx).1, next_lt hk (h.ok x hx).1 hn]]
    exact List.take_of_length_le (Nat.le_trans (List.length_filter_le _ _) (by simp; omega))
  rw [e1, e2]
  exact filter_split (p := fun x => k.lt x.key) fun i j hij hj hp => Key.trans hp (h.ris.get hij hj)
theorem getT_self {l : List Item} (h : Ris l) {i : Nat} (hi : i < l.length) : getT l (l.getD i default).key = some (l.getD i default) := by
  conv => lhs; arg 1; rw [← List.take_append_drop i l, List.drop_eq_getElem_cons hi, ← getD_get hi]
  rw [getT_app_r fun y hy => by
    obtain ⟨j, hj1, hj2, rfl⟩ := mem_take_i hy
    exact ne_of_lt (h.get hj1 hi)]
  unfold getT
  rw [List.find?_cons, decide_eq_true rfl]
/-- two rows, one behind the other -/
def wcat (n : Nat) (w1 w2 : Nat → Option Addr × Nat) (i : Nat) : Option Addr × Nat := if i < n then w1 i else w2 (i - n)
theorem itemRow_cat (w1 w2 : Nat → Option Addr × Nat) (a b : List Item) (i : Nat) (hi : i < a.length + b.length) : rcat a.length (itemRow w1 a) (itemRow w2 b) i = itemRow (wcat a.length w1 w2) (a ++ b) i := by
  unfold rcat itemRow wcat
  by_cases h : i < a.length
  · rw [if_pos h, if_pos h, List.getD_eq_getElem?_getD (l := a ++ b), List.getElem?_append_left h, ← List.getD_eq_getElem?_getD]
  · rw [if_neg h, if_neg h, List.getD_eq_getElem?_getD (l := a ++ b), List.getElem?_append_right (by omega), ← List.getD_eq_getElem?_getD]
theorem s_famcat {P : Program} {f : FuncId} {n : Nat} {R : Value → HP} {K : List It} {s : List (Nat × Value)} {As Bs Rs : List HP} {w1 w2 : Nat → Option Addr × Nat} {a b : List Item} (e1 : Sel (IFam w1 a) As Bs) (e2 : Sel (IFam w2 b) As Rs)
    (h : RunS P f n R K s (IFam (wcat a.length w1 w2) (a ++ b) :: As)) : RunS P f n R K s As := .mk fun H M q => by
  have b1 := e1.hold q
  have b2 := e2.hold q
  refine h H M (per_add (M0 := M) (fun i hi => ?_) q)
  rw [List.length_append] at hi
  show (itemFam (wcat a.length w1 w2) (a ++ b) i).p H M
  unfold itemFam wcat
  by_cases h : i < a.length
  · rw [if_pos h, List.getD_eq_getElem?_getD, List.getElem?_append_left h, ← List.getD_eq_getElem?_getD]; exact b1 i h
  · rw [if_neg h, List.getD_eq_getElem?_getD, List.getElem?_append_right (by omega), ← List.getD_eq_getElem?_getD]; exact b2 (i - a.length) (by omega)
set_option maxHeartbeats 16000000 in
theorem rows_c (x : Wrld) (hx : x.ok) (k : Key) : Ctr Try.prog 4 [x.v, k.v] [x.A, IFam x.w x.l, x.C] (fun v Bs => v = .bool true ∧ Bs = []) := by
  obtain ⟨hro, hrl⟩ := rowL_ok x.l 150 hx.b
  refine s_enter 135 [(0, _), (1, _)] (fun F => [_, _, _, F]) Try.func4 fun F => ?_
  refine go_ ?_
  refine s_box fun r2 => ?_
  refine s_box fun r3 => ?_
  refine go_ ?_
  refine s_call (sp := (by repeat (first | exact Split.nil | apply Split.perx (by repeat (first | with_reducible exact Sel.here | with_reducible apply Sel.there)) (by infer_instance) | apply Split.cons (by repeat (first | with_reducible exact Sel.here | with_reducible apply Sel.there))))) (hs := shown_c) (h := ?_)
  rintro v Bs ⟨rfl, rfl⟩
  refine go_ ?_
  refine s_call (sp := (by repeat (first | exact Split.nil | apply Split.perx (by repeat (first | with_reducible exact Sel.here | with_reducible apply Sel.there)) (by infer_instance) | apply Split.cons (by repeat (first | with_reducible exact Sel.here | with_reducible apply Sel.there))))) (hs := row_c (A := x.A) (a := x.a) (c := x.c) (w := x.w) x.l 150 (by decide) hx.n) (h := ?_)
  rintro v Bs ⟨a2, c2, w2, rfl, rfl⟩
  generalize hL : rowL x.l 150 = L at *
  refine go_ ?_
  refine s_fzO (e := 48) (v := .slice a2 L.length c2) (by repeat (first | with_reducible exact Sel.here | with_reducible apply Sel.there)) ?_
  refine s_call (sp := (by repeat (first | exact Split.nil | apply Split.perx (by repeat (first | with_reducible exact Sel.here | with_reducible apply Sel.there)) (by infer_instance) | apply Split.cons (by repeat (first | with_reducible exact Sel.here | with_reducible apply Sel.there))))) (hs := grown_c (C := x.C) (la := a2) (lc := c2) (w := w2) (b := x.b) (d := x.d) L x.cs hro hrl hx.m hx.r) (h := ?_)
  rintro v Bs ⟨p, z, σ, g, root, rfl, ht, rfl⟩
  refine go_ ?_
  refine s_call (sp := (by repeat (first | exact Split.nil | apply Split.perx (by repeat (first | with_reducible exact Sel.here | with_reducible apply Sel.there)) (by infer_instance) | apply Split.cons (by repeat (first | with_reducible exact Sel.here | with_reducible apply Sel.there))))) (hs := rmay_c k) (h := ?_)
  rintro v Bs ⟨rfl, rfl⟩
  refine go_ ?_
  refine s_call (sp := (by repeat (first | exact Split.nil | apply Split.perx (by repeat (first | with_reducible exact Sel.here | with_reducible apply Sel.there)) (by infer_instance) | apply Split.cons (by repeat (first | with_reducible exact Sel.here | with_reducible apply Sel.there))))) (hs := knext_c k) (h := ?_)
  rintro v Bs ⟨hv, rfl⟩
  cases hn : k.next with
  | none =>
    rw [hn] at hv
    subst hv
    refine go_ ?_
    refine s_alloc fun r11 => ?_
    refine go_ ?_
    cases hk : k.ok with
    | false =>
      refine go_ ?_
      exact s_ret1 (rs := [.tmp 4]) Try.func4 rfl (by intro j; refine RVS.tmp _ rfl ?_; exact RVS.nil) (⟨rfl, rfl⟩) (by repeat (first | exact Ent.nil | refine Ent.per (by repeat (first | with_reducible exact Sel.here | with_reducible apply Sel.there)) ?_ | refine Ent.cons (by repeat (first | with_reducible exact Sel.here | with_reducible apply Sel.there)) ?_))
    | true =>
      refine go_ ?_
      exact s_ret1 (rs := [.tmp 4]) Try.func4 rfl (by intro j; refine RVS.tmp _ rfl ?_; exact RVS.nil) (⟨rfl, rfl⟩) (by repeat (first | exact Ent.nil | refine Ent.per (by repeat (first | with_reducible exact Sel.here | with_reducible apply Sel.there)) ?_ | refine Ent.cons (by repeat (first | with_reducible exact Sel.here | with_reducible apply Sel.there)) ?_))
  | some n =>
    rw [hn] at hv
    subst hv
    refine go_ ?_
    refine s_alloc fun r11 => ?_
    refine go_ ?_
    cases hk : k.ok with
    | false =>
      refine go_ ?_
      exact s_ret1 (rs := [.tmp 4]) Try.func4 rfl (by intro j; refine RVS.tmp _ rfl ?_; exact RVS.nil) (⟨rfl, rfl⟩) (by repeat (first | exact Ent.nil | refine Ent.per (by repeat (first | with_reducible exact Sel.here | with_reducible apply Sel.there)) ?_ | refine Ent.cons (by repeat (first | with_reducible exact Sel.here | with_reducible apply Sel.there)) ?_))
    | true =>
      refine go_ ?_
      refine s_call (sp := (by repeat (first | exact Split.nil | apply Split.perx (by repeat (first | with_reducible exact Sel.here | with_reducible apply Sel.there)) (by infer_instance) | apply Split.cons (by repeat (first | with_reducible exact Sel.here | with_reducible apply Sel.there))))) (hs := tscan_c p z ⟨0, 0, 0⟩ k 1000 ht hro.ris) (h := ?_)
      rintro v Bs ⟨a3, c3, w3, rfl, rfl⟩
      refine go_ ?_
      refine s_call (sp := (by repeat (first | exact Split.nil | apply Split.perx (by repeat (first | with_reducible exact Sel.here | with_reducible apply Sel.there)) (by infer_instance) | apply Split.cons (by repeat (first | with_reducible exact Sel.here | with_reducible apply Sel.there))))) (hs := tscan_c p z n ⟨2147483647, 255, 2147483647⟩ 1000 ht hro.ris) (h := ?_)
      rintro v Bs ⟨a4, c4, w4, rfl, rfl⟩
      refine go_ ?_
      have h2 := two_scans hro hrl hk hn
      have hlA := (pick_sub ⟨0, 0, 0⟩ k 1000 L).length_le
      have hlB := (pick_sub n ⟨2147483647, 255, 2147483647⟩ 1000 L).length_le
      generalize pick ⟨0, 0, 0⟩ k 1000 L [] = A at *
      generalize pick n ⟨2147483647, 255, 2147483647⟩ 1000 L [] = B at *
      refine s_famcat (w1 := w3) (w2 := w4) (a := A) (b := B) (by repeat (first | with_reducible exact Sel.here | with_reducible apply Sel.there)) (by repeat (first | with_reducible exact Sel.here | with_reducible apply Sel.there)) ?_
      refine s_step (st_bs0 (sz := 4) (row := itemRow (fun _ => (none, 0)) [])) ?_
      rintro _ _ ⟨a5, rfl, rfl⟩
      refine go_ ?_
      refine s_step (st_appO (a := a5) (len := 0) (cap := 0) (b := a3) (m := A.length) (c := c3) (row2 := itemRow w3 A) (by repeat (first | with_reducible exact Sel.here | with_reducible apply Sel.there)) (by repeat (first | with_reducible exact SelR.here | with_reducible apply SelR.there)) (itemRow_one w3 A _)) ?_
      rintro _ _ ⟨a6, c6, rfl, rfl⟩
      rw [Nat.zero_add]
      refine s_open (SO.cg (itemRow w3 A) fun q hq => by unfold rcat; rw [if_neg (Nat.not_lt_zero _)]; rfl) ?_
      refine go_ ?_
      refine s_step (st_appO (a := a6) (len := A.length) (cap := c6) (b := a4) (m := B.length) (c := c4) (row := itemRow w3 A) (row2 := itemRow w4 B) (by repeat (first | with_reducible exact Sel.here | with_reducible apply Sel.there)) (by repeat (first | with_reducible exact SelR.here | with_reducible apply SelR.there)) (itemRow_one w4 B _)) ?_
      rintro _ _ ⟨a7, c7, rfl, rfl⟩
      refine s_open (SO.cg (itemRow (wcat A.length w3 w4) (A ++ B)) fun q hq => itemRow_cat w3 w4 A B q hq) ?_
      rw [← List.length_append, h2]
      generalize wcat A.length w3 w4 = w7
      refine go_ ?_
      refine s_loop (fun i : Nat => [(6, .slice a2 L.length c2), (7, .pointer (some ⟨p, 0, none⟩)), (9, .int .i64 root), (14, .int .i64 0), (16, .int .i64 0), (17, .slice a7 L.length c7), (18, .int .i64 i)])
        (fun _ => [Po p z σ g, IRow a7 c7 w7 L, IFam w7 L, F]) (fun i => i ≤ L.length) (fun i => L.length - i) 0 (Nat.zero_le _) (by repeat (first | exact Ent.nil | refine Ent.per (by repeat (first | with_reducible exact Sel.here | with_reducible apply Sel.there)) ?_ | refine Ent.cons (by repeat (first | with_reducible exact Sel.here | with_reducible apply Sel.there)) ?_)) ?_
      intro i hi next
      refine go_ ?_
      refine s_if (fun h => ?_) (fun h => ?_)
      · have hi2 : i < L.length := by omega
        refine go_ ?_
        refine s_look (lk_ldeN (sz := 4) (fo := 0) (n := L.length) (i := i) (v := .slice a7 L.length c7) (vs := (L.getD i default).key.row) (s := (by repeat (first | with_reducible exact SelR.here | with_reducible apply SelR.there)))) ?_
        refine go_ ?_
        refine s_call (sp := (by repeat (first | exact Split.nil | apply Split.perx (by repeat (first | with_reducible exact Sel.here | with_reducible apply Sel.there)) (by infer_instance) | apply Split.cons (by repeat (first | with_reducible exact Sel.here | with_reducible apply Sel.there))))) (hs := tget_c p z (L.getD i default).key ht hro.ris) (h := ?_)
        rw [getT_self hro.ris hi2]
        rintro v Bs (⟨h1, _⟩ | ⟨y, a8, c8, h1, rfl, rfl⟩)
        · cases h1
        cases h1
        refine go_ ?_
        refine s_get i (F := itemFam w7 L) (m := L.length) (by repeat (first | with_reducible exact Sel.here | with_reducible apply Sel.there)) hi2 ?_
        refine s_open (B := BS (.slice (w7 i).1 (L.getD i default).val.length (w7 i).2) (L.getD i default).val) (fun _ _ q => q) ?_
        refine s_drawN 0 [.q 0, .q 1, .q 2, .q 3, .q 4, .q 5, .q 6, .q 7, .q 8, .q 9, .q 10, .q 11, .q 12, .q 13, .q 14, .q 15, .q 16, .q 17, .q 18, .q 19, .q 20, .q 21, .q 22, .q 23, .q 24, .q 25, .q 26, .q 27, .q 28, .q 29, .q 30, .q 31] ?_
        refine do_ ?_
        refine d_look rfl (lk_b2s (a := a8) (c := c8) (m := (L.getD i default).val.length) (s := (L.getD i default).val) (by repeat (first | with_reducible exact SelR.here | with_reducible apply SelR.there)) rfl) ?_
        refine do_ ?_
        refine d_look rfl (lk_b2s (a := (w7 i).1) (c := (w7 i).2) (m := (L.getD i default).val.length) (s := (L.getD i default).val) (by repeat (first | with_reducible exact SelR.here | with_reducible apply SelR.there)) rfl) ?_
        refine do_ ?_
        rw [show (!((strB (L.getD i default).val).toList == (strB (L.getD i default).val).toList)) = false by simp]
        refine do_ ?_
        cases hp : decide ((i : Int) > 0) with
        | false =>
          refine do_ ?_
          refine go_ ?_
          exact s_entF (by repeat (first | exact Ent.nil | refine Ent.per (by repeat (first | with_reducible exact Sel.here | with_reducible apply Sel.there)) ?_ | refine Ent.cons (by repeat (first | with_reducible exact Sel.here | with_reducible apply Sel.there)) ?_)) (s_keep _ (next (i + 1) (by omega) (by omega)))
        | true =>
          have hp2 := of_decide_eq_true hp
          refine do_ ?_
          refine d_look rfl (lk_ixz (i - 1) (m := L.length) (v := .slice a7 L.length c7) (z := (i : Int) - 1) (by repeat (first | with_reducible exact SelR.here | with_reducible apply SelR.there))) ?_
          refine do_ ?_
          refine d_look rfl (lk_ldeN (sz := 4) (fo := 0) (n := L.length) (i := i - 1) (v := .slice a7 L.length c7) (vs := (L.getD (i - 1) default).key.row) (s := (by repeat (first | with_reducible exact SelR.here | with_reducible apply SelR.there)))) ?_
          refine do_ ?_
          refine d_look rfl (lk_ldeN (sz := 4) (fo := 0) (n := L.length) (i := i) (v := .slice a7 L.length c7) (vs := (L.getD i default).key.row) (s := (by repeat (first | with_reducible exact SelR.here | with_reducible apply SelR.there)))) ?_
          refine do_ ?_
          refine d_call (ho := rfl) (v := .bool ((L.getD (i - 1) default).key.lt (L.getD i default).key)) (sp := (by repeat (first | exact Split.nil | apply Split.perx (by repeat (first | with_reducible exact Sel.here | with_reducible apply Sel.there)) (by infer_instance) | apply Split.cons (by repeat (first | with_reducible exact Sel.here | with_reducible apply Sel.there))))) (hs := rless_c (L.getD (i - 1) default).key (L.getD i default).key) (hq := by rintro r Bs ⟨rfl, rfl⟩; exact ⟨rfl, (by (try simp only [List.cons_append, List.nil_append]); repeat (first | exact Ent.nil | refine Ent.per (by repeat (first | with_reducible exact Sel.here | with_reducible apply Sel.there)) ?_ | refine Ent.cons (by repeat (first | with_reducible exact Sel.here | with_reducible apply Sel.there)) ?_))⟩) (h := ?_)
          rw [hro.ris.get (show i - 1 < i by omega) hi2]
          refine do_ ?_
          refine go_ ?_
          exact s_entF (by repeat (first | exact Ent.nil | refine Ent.per (by repeat (first | with_reducible exact Sel.here | with_reducible apply Sel.there)) ?_ | refine Ent.cons (by repeat (first | with_reducible exact Sel.here | with_reducible apply Sel.there)) ?_)) (s_keep _ (next (i + 1) (by omega) (by omega)))
      · refine go_ ?_
        rw [show ((L.length : Int) == (L.length : Int)) = true by simp]
        exact s_ret1 (rs := [.tmp 4]) Try.func4 rfl (by intro j; refine RVS.tmp _ rfl ?_; exact RVS.nil) (⟨rfl, rfl⟩) (by repeat (first | exact Ent.nil | refine Ent.per (by repeat (first | with_reducible exact Sel.here | with_reducible apply Sel.there)) ?_ | refine Ent.cons (by repeat (first | with_reducible exact Sel.here | with_reducible apply Sel.there)) ?_))
end Go.Proofs.Ytgbbcpfnmkeijaa
