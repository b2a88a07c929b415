/- FindFew. -/
import Derived.Test.YtgbbcpfnmkeijaaFindBM
namespace Go.Proofs.Ytgbbcpfnmkeijaa
open Go.Cam
set_option maxRecDepth 100000
/-- what a scan from a key on tells, where just the items behind the first m are at the key or above -/
theorem scan_from {l : List Item} {at_ : Key} {m few : Nat} (h : RowOk l) (ha : l.filter (fun x => !(x.key.lt at_)) = l.drop m) : pick at_ ⟨2147483647, 255, 2147483647⟩ (few : Int) l [] = (l.drop m).take few := by
  unfold pick
  rw [List.nil_append, List.filter_congr (q := fun x : Item => !(x.key.lt at_)) fun x hx => P_from (h.ok x hx).1, ha]
  congr 1
theorem from_zero {l : List Item} (h : RowOk l) : l.filter (fun x => !(x.key.lt ⟨0, 0, 0⟩)) = l.drop 0 := by
  rw [List.drop_zero]
  refine List.filter_eq_self.2 fun x hx => ?_
  have := P_all (h.ok x hx).1
  unfold rscanP at this
  rw [Bool.and_eq_true] at this
  exact this.1
theorem from_next {l : List Item} {n : Key} {m : Nat} (h : RowOk l) (hm : m < l.length) (hn : (l.getD m default).key.next = some n) : l.filter (fun x => !(x.key.lt n)) = l.drop (m + 1) := by
  have hk := (h.ok _ (getD_mem hm)).1
  rw [List.filter_congr (q := fun x : Item => (l.getD m default).key.lt x.key) fun x hx => next_lt hk (h.ok x hx).1 hn]
  conv => lhs; arg 2; rw [← List.take_append_drop (m + 1) l]
  rw [List.filter_append, List.filter_eq_nil_iff.2 (fun x hx => ?_), List.nil_append, List.filter_eq_self.2 (fun x hx => ?_)]
  · obtain ⟨j, hj1, hj2, rfl⟩ := mem_drop_i hx
    exact h.ris.get (by omega) hj2
  · obtain ⟨j, hj1, hj2, rfl⟩ := mem_take_i hx
    by_cases e : j = m
    · subst e; rw [Key.irrefl]; simp
    · rw [Key.asymm (h.ris.get (show j < m by omega) hm)]; simp
theorem last_none {l : List Item} {m : Nat} (h : RowOk l) (hm : m < l.length) (hn : (l.getD m default).key.next = none) : l.length = m + 1 := by
  rcases Nat.lt_or_ge (m + 1) l.length with e | e
  · have h1 := h.ris.get (show m < m + 1 by omega) e
    rw [next_none (h.ok _ (getD_mem hm)).1 (h.ok _ (getD_mem e)).1 hn] at h1; cases h1
  · omega
theorem take_more (l : List Item) (m few : Nat) : l.take m ++ (l.drop m).take few = l.take (m + few) := by rw [List.take_add]
set_option maxHeartbeats 16000000 in
theorem few_c (x : Wrld) (hx : x.ok) (n : Int) : Ctr Try.prog 5 [x.v, .int .i64 n] [x.A, IFam x.w x.l, x.C] (fun v Bs => v = .bool true ∧ Bs = []) := by
  obtain ⟨hro, hrl⟩ := rowL_ok x.l 150 hx.b
  refine s_enter 97 [(0, _), (1, _)] (fun F => [_, _, _, F]) Try.func5 fun F => ?_
  refine go_ ?_
  refine s_box fun r2 => ?_
  refine go_ ?_
  refine s_call (sp := (by repeat (first | exact Split.nil | apply Split.perx (by repeat (first | with_reducible exact Sel.here | with_reducible apply Sel.there)) (by infer_instance) | apply Split.cons (by repeat (first | with_reducible exact Sel.here | with_reducible apply Sel.there))))) (hs := shown_c) (h := ?_)
  rintro v Bs ⟨rfl, rfl⟩
  refine go_ ?_
  refine s_call (sp := (by repeat (first | exact Split.nil | apply Split.perx (by repeat (first | with_reducible exact Sel.here | with_reducible apply Sel.there)) (by infer_instance) | apply Split.cons (by repeat (first | with_reducible exact Sel.here | with_reducible apply Sel.there))))) (hs := row_c (A := x.A) (a := x.a) (c := x.c) (w := x.w) x.l 150 (by decide) hx.n) (h := ?_)
  rintro v Bs ⟨a2, c2, w2, rfl, rfl⟩
  generalize hL : rowL x.l 150 = L at *
  refine go_ ?_
  refine s_fzO (e := 48) (v := .slice a2 L.length c2) (by repeat (first | with_reducible exact Sel.here | with_reducible apply Sel.there)) ?_
  refine s_call (sp := (by repeat (first | exact Split.nil | apply Split.perx (by repeat (first | with_reducible exact Sel.here | with_reducible apply Sel.there)) (by infer_instance) | apply Split.cons (by repeat (first | with_reducible exact Sel.here | with_reducible apply Sel.there))))) (hs := grown_c (C := x.C) (la := a2) (lc := c2) (w := w2) (b := x.b) (d := x.d) L x.cs hro hrl hx.m hx.r) (h := ?_)
  rintro v Bs ⟨p, z, σ, g, root, rfl, ht, rfl⟩
  refine go_ ?_
  have hm1 : n.tmod 20 < 20 := Int.tmod_lt_of_pos n (by decide)
  have hm2 : -20 < n.tmod 20 := by
    have := Int.tmod_lt_of_pos (-n) (show (0 : Int) < 20 by decide)
    rw [Int.neg_tmod] at this; omega
  generalize n.tmod 20 = m at *
  apply s_join (α := Nat) (fun q => [(6, .slice a2 L.length c2), (7, .pointer (some ⟨p, 0, none⟩)), (9, .int .i64 root), (10, .int .i64 (q : Nat)), (46, .agg #[.int .i64 2147483647, .int .i64 255, .int .i64 2147483647])])
    (fun _ => [Po p z σ g, SA none 4 (.slice a2 L.length c2) L.length (itemRow w2 L), IFam w2 L, F]) (fun q => 1 ≤ q ∧ q ≤ 20)
  case h =>
    intro K
    refine s_if (fun h => ?_) (fun h => ?_)
    · refine go_ ?_
      rw [wrap_id (x := 0 - m) (by omega) (by omega), wrap_id (x := 0 - m + 1) (by omega) (by omega), show 0 - m + 1 = (((1 - m).toNat : Nat) : Int) by omega]
      exact s_entF (by repeat (first | exact Ent.nil | refine Ent.per (by repeat (first | with_reducible exact Sel.here | with_reducible apply Sel.there)) ?_ | refine Ent.cons (by repeat (first | with_reducible exact Sel.here | with_reducible apply Sel.there)) ?_)) (s_keep _ (K (1 - m).toNat (by omega)))
    · refine go_ ?_
      rw [show m + 1 = (((m + 1).toNat : Nat) : Int) by omega]
      exact s_entF (by repeat (first | exact Ent.nil | refine Ent.per (by repeat (first | with_reducible exact Sel.here | with_reducible apply Sel.there)) ?_ | refine Ent.cons (by repeat (first | with_reducible exact Sel.here | with_reducible apply Sel.there)) ?_)) (s_keep _ (K (m + 1).toNat (by omega)))
  case K =>
    intro few hfew
    refine s_alloc fun r11 => ?_
    refine go_ ?_
    refine s_alloc fun r12 => ?_
    refine go_ ?_
    refine s_bs0 (sz := 4) (row := itemRow (fun _ => (none, 0)) []) (fun a0 => ?_)
    refine s_open (B := IRow a0 0 (fun _ => (none, 0)) (L.take 0)) (SO.of) ?_
    refine s_fam0 (F := itemFam (fun _ => (none, 0)) []) ?_
    refine s_open (B := IFam (fun _ => (none, 0)) (L.take 0)) (fun _ _ q => q) ?_
    refine go_ ?_
    apply s_join (α := Option Addr × Nat × (Nat → Option Addr × Nat)) (fun q => [(6, .slice a2 L.length c2), (13, .slice q.1 L.length q.2.1), (93, .slice q.1 L.length q.2.1), (94, .slice a2 L.length c2)])
      (fun q => [SA none 4 (.slice a2 L.length c2) L.length (itemRow w2 L), IFam w2 L, IRow q.1 q.2.1 q.2.2 L, IFam q.2.2 L, F]) (fun _ => True)
    case h =>
      intro K
      refine s_loop (fun q : Nat × Nat × Key × Option Addr × Nat × (Nat → Option Addr × Nat) => [(6, .slice a2 L.length c2), (7, .pointer (some ⟨p, 0, none⟩)), (9, .int .i64 root), (10, .int .i64 (few : Nat)), (11, .pointer (some ⟨r11, 0, none⟩)), (12, .pointer (some ⟨r12, 0, none⟩)), (13, .slice q.2.2.2.1 (L.take q.2.1).length q.2.2.2.2.1), (14, .int .i64 q.1)])
        (fun q => [Po p z σ g, SA none 4 (.slice a2 L.length c2) L.length (itemRow w2 L), IFam w2 L, Box r11 27 [.int .i64 2147483647, .int .i64 255, .int .i64 2147483647], Box r12 27 q.2.2.1.row, IRow q.2.2.2.1 q.2.2.2.2.1 q.2.2.2.2.2 (L.take q.2.1), IFam q.2.2.2.2.2 (L.take q.2.1), F])
        (fun q => q.1 ≤ q.2.1 ∧ q.2.1 ≤ L.length ∧ L.filter (fun x => !(x.key.lt q.2.2.1)) = L.drop q.2.1) (fun q => L.length - q.2.1) (0, 0, ⟨0, 0, 0⟩, a0, 0, fun _ => (none, 0)) ⟨Nat.le_refl _, Nat.zero_le _, from_zero hro⟩ (by repeat (first | exact Ent.nil | refine Ent.per (by repeat (first | with_reducible exact Sel.here | with_reducible apply Sel.there)) ?_ | refine Ent.cons (by repeat (first | with_reducible exact Sel.here | with_reducible apply Sel.there)) ?_)) ?_
      rintro ⟨i, m, at_, b, d, wo⟩ ⟨hi, hmL, hat⟩ next
      dsimp only at hi hmL hat next ⊢
      refine go_ ?_
      refine s_if (p := (i : Int) ≤ (L.length : Int)) (fun h => ?_) (fun h => (h (by omega)).elim)
      refine go_ ?_
      refine s_call (sp := (by repeat (first | exact Split.nil | apply Split.perx (by repeat (first | with_reducible exact Sel.here | with_reducible apply Sel.there)) (by infer_instance) | apply Split.cons (by repeat (first | with_reducible exact Sel.here | with_reducible apply Sel.there))))) (hs := tscan_c p z at_ ⟨2147483647, 255, 2147483647⟩ (few : Int) ht hro.ris) (h := ?_)
      rw [scan_from hro hat]
      rintro v Bs ⟨a3, c3, w3, rfl, rfl⟩
      have hXl : ((L.drop m).take few).length = min few (L.length - m) := by simp
      have hXs : ((L.drop m).take few).length ≤ few := by omega
      have hcat := take_more L m few
      have hTl : (L.take m).length ≤ L.length := by rw [List.length_take]; omega
      have hlast : few ≤ L.length - m → ∀ k', k' + 1 = few → ((L.drop m).take few).getD k' default = L.getD (m + k') default := fun h1 k' h2 => partOf_get (l := L) (p := m) (n := few) (by omega)
      generalize hX : (L.drop m).take few = X at *
      refine go_ ?_
      rw [show decide ((X.length : Int) > (few : Int)) = false from decide_eq_false (by omega)]
      refine go_ ?_
      refine s_famcat (w1 := wo) (w2 := w3) (a := L.take m) (b := X) (by repeat (first | with_reducible exact Sel.here | with_reducible apply Sel.there)) (by repeat (first | with_reducible exact Sel.here | with_reducible apply Sel.there)) ?_
      refine s_step (st_appO (a := b) (len := (L.take m).length) (cap := d) (b := a3) (m := X.length) (c := c3) (row := itemRow wo (L.take m)) (row2 := itemRow w3 X) (by repeat (first | with_reducible exact Sel.here | with_reducible apply Sel.there)) (by repeat (first | with_reducible exact SelR.here | with_reducible apply SelR.there)) (itemRow_one w3 X _)) ?_
      rintro _ _ ⟨a7, c7, rfl, rfl⟩
      refine s_open (SO.cg (itemRow (wcat (L.take m).length wo w3) (L.take m ++ X)) fun q hq => itemRow_cat wo w3 (L.take m) X q hq) ?_
      rw [← List.length_append, hcat]
      generalize wcat (L.take m).length wo w3 = w7
      refine go_ ?_
      refine s_if (p := (X.length : Int) < (few : Int)) (fun h2 => ?_) (fun h2 => ?_)
      · have e : L.take (m + few) = L := List.take_of_length_le (by omega)
        rw [e]
        refine go_ ?_
        exact s_entF (by repeat (first | exact Ent.nil | refine Ent.per (by repeat (first | with_reducible exact Sel.here | with_reducible apply Sel.there)) ?_ | refine Ent.cons (by repeat (first | with_reducible exact Sel.here | with_reducible apply Sel.there)) ?_)) (s_keep _ (K (a7, c7, w7) trivial))
      · have e : few ≤ L.length - m := by omega
        refine go_ ?_
        refine s_look (lk_ixz (few - 1) (m := X.length) (v := .slice a3 X.length c3) (z := (X.length : Int) - 1) (by repeat (first | with_reducible exact SelR.here | with_reducible apply SelR.there))) ?_
        refine go_ ?_
        refine s_look (lk_ldeN (sz := 4) (fo := 0) (n := X.length) (i := few - 1) (v := .slice a3 X.length c3) (vs := (X.getD (few - 1) default).key.row) (s := (by repeat (first | with_reducible exact SelR.here | with_reducible apply SelR.there)))) ?_
        refine go_ ?_
        rw [hlast e (few - 1) (by omega)]
        refine s_call (sp := (by repeat (first | exact Split.nil | apply Split.perx (by repeat (first | with_reducible exact Sel.here | with_reducible apply Sel.there)) (by infer_instance) | apply Split.cons (by repeat (first | with_reducible exact Sel.here | with_reducible apply Sel.there))))) (hs := knext_c (L.getD (m + (few - 1)) default).key) (h := ?_)
        rintro v Bs ⟨hv, rfl⟩
        cases hn : (L.getD (m + (few - 1)) default).key.next with
        | none =>
          rw [hn] at hv
          subst hv
          have e2 : L.take (m + few) = L := List.take_of_length_le (by have := last_none hro (show m + (few - 1) < L.length by omega) hn; omega)
          rw [e2]
          refine go_ ?_
          refine s_alloc fun r17 => ?_
          refine go_ ?_
          exact s_entF (by repeat (first | exact Ent.nil | refine Ent.per (by repeat (first | with_reducible exact Sel.here | with_reducible apply Sel.there)) ?_ | refine Ent.cons (by repeat (first | with_reducible exact Sel.here | with_reducible apply Sel.there)) ?_)) (s_keep _ (K (a7, c7, w7) trivial))
        | some n2 =>
          rw [hn] at hv
          subst hv
          have hat2 := from_next hro (show m + (few - 1) < L.length by omega) hn
          rw [show m + (few - 1) + 1 = m + few by omega] at hat2
          refine go_ ?_
          refine s_alloc fun r17 => ?_
          refine go_ ?_
          exact s_entF (by repeat (first | exact Ent.nil | refine Ent.per (by repeat (first | with_reducible exact Sel.here | with_reducible apply Sel.there)) ?_ | refine Ent.cons (by repeat (first | with_reducible exact Sel.here | with_reducible apply Sel.there)) ?_)) (s_keep _ (next (i + 1, m + few, n2, a7, c7, w7) ⟨by dsimp only; omega, by dsimp only; omega, hat2⟩ (by dsimp only; omega)))
    case K =>
      rintro ⟨b, d, wo⟩ _
      refine s_call (sp := (by repeat (first | exact Split.nil | apply Split.perx (by repeat (first | with_reducible exact Sel.here | with_reducible apply Sel.there)) (by infer_instance) | apply Split.cons (by repeat (first | with_reducible exact Sel.here | with_reducible apply Sel.there))))) (hs := rsame_c (A := IRow b d wo L) (B := SA none 4 (.slice a2 L.length c2) L.length (itemRow w2 L)) (a := b) (b := a2) (c := d) (d := c2) (w := wo) (u := w2) L L (by omega) (by omega) rfl hro.bys) (h := ?_)
      rintro v Bs ⟨rfl, rfl⟩
      refine go_ ?_
      exact s_ret1 (rs := [.tmp 4]) Try.func5 rfl (by intro j; refine RVS.tmp _ rfl ?_; exact RVS.nil) (⟨rfl, rfl⟩) (by repeat (first | exact Ent.nil | refine Ent.per (by repeat (first | with_reducible exact Sel.here | with_reducible apply Sel.there)) ?_ | refine Ent.cons (by repeat (first | with_reducible exact Sel.here | with_reducible apply Sel.there)) ?_))
end Go.Proofs.Ytgbbcpfnmkeijaa
