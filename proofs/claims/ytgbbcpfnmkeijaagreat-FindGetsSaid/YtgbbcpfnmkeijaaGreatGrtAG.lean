/- Nodes: what they are; node.itemKey, rises. -/
import Derived.Test.YtgbbcpfnmkeijaaGreatGrtAE
namespace Go.Proofs.YtgbbcpfnmkeijaaGreat
open Go.Cam
set_option maxRecDepth 100000
instance : Inhabited Key := ⟨⟨0, 0, 0⟩⟩
structure Item where
  key : Key
  val : List Nat
  deriving Inhabited
structure Kid where
  key : Key
  addr : Int
  deriving Inhabited
structure Node where
  level : Int
  items : List Item
  kids : List Kid
abbrev itemRow (w : Nat → Option Addr × Nat) (l : List Item) (i : Nat) : List Value := [.int .i64 (l.getD i default).key.obj, .int .i64 (l.getD i default).key.kind, .int .i64 (l.getD i default).key.off, .slice (w i).1 (l.getD i default).val.length (w i).2]
abbrev itemFam (w : Nat → Option Addr × Nat) (l : List Item) (i : Nat) : HP := BS (.slice (w i).1 (l.getD i default).val.length (w i).2) (l.getD i default).val
abbrev kidRow (l : List Kid) (i : Nat) : List Value := [.int .i64 (l.getD i default).key.obj, .int .i64 (l.getD i default).key.kind, .int .i64 (l.getD i default).key.off, .int .i64 (l.getD i default).addr]
def KeysRise (l : List Key) : Prop := ∀ i, i < l.length → (l.getD i default).ok = true ∧ (0 < i → (l.getD (i - 1) default).lt (l.getD i default) = true)
instance (l : List Key) : Decidable (KeysRise l) := inferInstanceAs (Decidable (∀ i, i < l.length → _))
theorem rise_next {l : List Key} {i : Nat} (hq : ∀ q, q < i → (l.getD q default).ok = true ∧ (0 < q → (l.getD (q - 1) default).lt (l.getD q default) = true)) (h1 : (l.getD i default).ok = true) (h2 : 0 < i → (l.getD (i - 1) default).lt (l.getD i default) = true) (q : Nat) (hq2 : q < i + 1) : (l.getD q default).ok = true ∧ (0 < q → (l.getD (q - 1) default).lt (l.getD q default) = true) := by
  by_cases e : q < i
  · exact hq q e
  · have e2 : q = i := by omega
    subst e2
    exact ⟨h1, h2⟩
abbrev itemV (x : Item) (a : Option Addr) (c : Nat) : Value := .agg #[.int .i64 x.key.obj, .int .i64 x.key.kind, .int .i64 x.key.off, .slice a x.val.length c]
theorem itemKey_c (k : Key) (v : Value) [OneV v] : Ctr Tryz.prog 104 [.agg #[.int .i64 k.obj, .int .i64 k.kind, .int .i64 k.off, v]] [] (fun r Bs => r = k.v ∧ Bs = []) := by
  refine s_enter 5 [(0, _)] (fun F => [F]) Tryz.func104 fun F => ?_
  refine go_ ?_
  refine s_box fun r1 => ?_
  refine s_alloc fun r2 => ?_
  refine go_ ?_
  exact s_ret1 (rs := [.cell 2 49]) Tryz.func104 rfl (by intro j; refine RVS.cell _ _ rfl (by repeat (first | with_reducible exact Sel.here | with_reducible apply Sel.there)) (by rfl) ?_; exact RVS.nil) (⟨rfl, rfl⟩) (by repeat (first | exact Ent.nil | refine Ent.per (by repeat (first | with_reducible exact Sel.here | with_reducible apply Sel.there)) ?_ | refine Ent.cons (by repeat (first | with_reducible exact Sel.here | with_reducible apply Sel.there)) ?_))
theorem kidKey_c (k : Key) (v : Value) [OneV v] : Ctr Tryz.prog 106 [.agg #[.int .i64 k.obj, .int .i64 k.kind, .int .i64 k.off, v]] [] (fun r Bs => r = k.v ∧ Bs = []) := by
  refine s_enter 5 [(0, _)] (fun F => [F]) Tryz.func106 fun F => ?_
  refine go_ ?_
  refine s_box fun r1 => ?_
  refine s_alloc fun r2 => ?_
  refine go_ ?_
  exact s_ret1 (rs := [.cell 2 49]) Tryz.func106 rfl (by intro j; refine RVS.cell _ _ rfl (by repeat (first | with_reducible exact Sel.here | with_reducible apply Sel.there)) (by rfl) ?_; exact RVS.nil) (⟨rfl, rfl⟩) (by repeat (first | exact Ent.nil | refine Ent.per (by repeat (first | with_reducible exact Sel.here | with_reducible apply Sel.there)) ?_ | refine Ent.cons (by repeat (first | with_reducible exact Sel.here | with_reducible apply Sel.there)) ?_))
set_option maxHeartbeats 4000000 in
theorem risesI_c {a : Option Addr} {n c : Nat} {row : Nat → List Value} (l : List Item) (hl : l.length = n) (hrow : ∀ i, i < n → ∃ v, row i = [.int .i64 (l.getD i default).key.obj, .int .i64 (l.getD i default).key.kind, .int .i64 (l.getD i default).key.off, v] ∧ OneV v) (hn : n < 1000000) : Ctr Tryz.prog 103 [.slice a n c, .func (.func 104) #[] #[]] [SA none 4 (.slice a n c) n row] (fun r Bs => r = .bool (decide (KeysRise (l.map Item.key))) ∧ Bs = []) := by
  have hk : ∀ i, i < n → (l.map Item.key).getD i default = (l.getD i default).key := fun i hi => by
    simp [List.getD_eq_getElem?_getD, show i < l.length by omega]
  refine s_enter 38 [(0, _), (1, _)] (fun F => [_, F]) Tryz.func103 fun F => ?_
  refine go_ ?_
  refine s_loop (fun i : Nat => [(0, .slice a n c), (1, .func (.func 104) #[] #[]), (7, .slice a n c), (8, .int .i64 n), (9, .int .i64 i)]) (fun _ => [SA none 4 (.slice a n c) n row, F]) (fun i => i ≤ n ∧ ∀ q, q < i → ((l.map Item.key).getD q default).ok = true ∧ (0 < q → ((l.map Item.key).getD (q - 1) default).lt ((l.map Item.key).getD q default) = true)) (fun i => n - i) 0 ⟨by omega, fun q hq => by omega⟩ (by repeat (first | exact Ent.nil | refine Ent.per (by repeat (first | with_reducible exact Sel.here | with_reducible apply Sel.there)) ?_ | refine Ent.cons (by repeat (first | with_reducible exact Sel.here | with_reducible apply Sel.there)) ?_)) ?_
  rintro i ⟨hi, hq⟩ next
  refine go_ ?_
  refine s_if (fun h => ?_) (fun h => ?_)
  · have hi2 : i < n := by omega
    obtain ⟨v, hrv, hcv⟩ := hrow i hi2
    refine go_ ?_
    haveI := hcv
    refine s_look (lk_lde1 (i := i) (m := n) (v := .slice a n c) (by repeat (first | with_reducible exact SelR.here | with_reducible apply SelR.there))) ?_
    rw [hrv]
    refine s_alloc fun r6 => ?_
    refine go_ ?_
    refine s_drawN 0 [.q 0, .q 1, .s 2, .s 3, .q 4, .q 5, .q 6, .q 7, .q 8, .q 9, .q 10, .q 11, .q 12, .q 13, .q 14, .q 16, .q 17, .s 15, .s 18, .s 19, .q 20, .q 21, .q 22] ?_
    refine do_ ?_
    refine d_step rfl (st_callC (sp := (by repeat (first | exact Split.nil | apply Split.perx (by repeat (first | with_reducible exact Sel.here | with_reducible apply Sel.there)) (by infer_instance) | apply Split.cons (by repeat (first | with_reducible exact Sel.here | with_reducible apply Sel.there))))) (hs := itemKey_c (l.getD i default).key v)) ?_
    rintro u Bs ⟨Cs, ⟨rfl, rfl⟩, rfl⟩
    refine do_ ?_
    refine d_step rfl (st_call (sp := (by repeat (first | exact Split.nil | apply Split.perx (by repeat (first | with_reducible exact Sel.here | with_reducible apply Sel.there)) (by infer_instance) | apply Split.cons (by repeat (first | with_reducible exact Sel.here | with_reducible apply Sel.there))))) (hs := may_ok (l.getD i default).key)) ?_
    rintro u Bs ⟨Cs, ⟨rfl, rfl⟩, rfl⟩
    have hki := hk i hi2
    cases hok : (l.getD i default).key.ok with
    | false =>
      refine do_ ?_
      refine d_noU rfl ?_
      refine do_ ?_
      refine d_noU rfl ?_
      refine do_ ?_
      refine d_noU rfl ?_
      refine do_ ?_
      refine go_ ?_
      exact s_ret1 (rs := [.tmp 4]) Tryz.func103 rfl (by intro j; refine RVS.tmp _ rfl ?_; exact RVS.nil) (⟨by rw [decide_eq_false]; intro hh; have := (hh i (by simp; omega)).1; rw [hki, hok] at this; exact Bool.noConfusion this, rfl⟩) (by repeat (first | exact Ent.nil | refine Ent.per (by repeat (first | with_reducible exact Sel.here | with_reducible apply Sel.there)) ?_ | refine Ent.cons (by repeat (first | with_reducible exact Sel.here | with_reducible apply Sel.there)) ?_))
    | true =>
      refine do_ ?_
      cases h0 : decide ((i : Int) > 0) with
      | false =>
        have h0' := of_decide_eq_false h0
        refine do_ ?_
        refine d_noU rfl ?_
        refine do_ ?_
        refine d_noU rfl ?_
        refine do_ ?_
        refine d_noU rfl ?_
        refine do_ ?_
        refine go_ ?_
        exact s_entF (by repeat (first | exact Ent.nil | refine Ent.per (by repeat (first | with_reducible exact Sel.here | with_reducible apply Sel.there)) ?_ | refine Ent.cons (by repeat (first | with_reducible exact Sel.here | with_reducible apply Sel.there)) ?_)) (s_keep _ (next (i + 1) ⟨by omega, rise_next hq (by rw [hki]; exact hok) (fun h => absurd h (by omega))⟩ (by omega)))
      | true =>
        have h0' := of_decide_eq_true h0
        have hi1 : i - 1 < n := by omega
        obtain ⟨v2, hrv2, hcv2⟩ := hrow (i - 1) hi1
        haveI := hcv2
        refine do_ ?_
        refine d_look rfl (lk_ixz (i - 1) (m := n) (v := .slice a n c) (by repeat (first | with_reducible exact SelR.here | with_reducible apply SelR.there))) ?_
        refine do_ ?_
        refine d_look rfl (lk_lde1 (i := i - 1) (m := n) (v := .slice a n c) (by repeat (first | with_reducible exact SelR.here | with_reducible apply SelR.there))) ?_
        rw [hrv2]
        refine do_ ?_
        refine d_step rfl (st_callC (sp := (by repeat (first | exact Split.nil | apply Split.perx (by repeat (first | with_reducible exact Sel.here | with_reducible apply Sel.there)) (by infer_instance) | apply Split.cons (by repeat (first | with_reducible exact Sel.here | with_reducible apply Sel.there))))) (hs := itemKey_c (l.getD (i - 1) default).key v2)) ?_
        rintro u Bs ⟨Cs, ⟨rfl, rfl⟩, rfl⟩
        refine do_ ?_
        refine d_step rfl (st_callC (sp := (by repeat (first | exact Split.nil | apply Split.perx (by repeat (first | with_reducible exact Sel.here | with_reducible apply Sel.there)) (by infer_instance) | apply Split.cons (by repeat (first | with_reducible exact Sel.here | with_reducible apply Sel.there))))) (hs := itemKey_c (l.getD i default).key v)) ?_
        rintro u Bs ⟨Cs, ⟨rfl, rfl⟩, rfl⟩
        refine do_ ?_
        refine d_step rfl (st_call (sp := (by repeat (first | exact Split.nil | apply Split.perx (by repeat (first | with_reducible exact Sel.here | with_reducible apply Sel.there)) (by infer_instance) | apply Split.cons (by repeat (first | with_reducible exact Sel.here | with_reducible apply Sel.there))))) (hs := less_ok (l.getD (i - 1) default).key (l.getD i default).key)) ?_
        rintro u Bs ⟨Cs, ⟨rfl, rfl⟩, rfl⟩
        refine do_ ?_
        have hk1 := hk (i - 1) hi1
        cases hlt : (l.getD (i - 1) default).key.lt (l.getD i default).key with
        | false =>
          refine do_ ?_
          refine go_ ?_
          exact s_ret1 (rs := [.tmp 4]) Tryz.func103 rfl (by intro j; refine RVS.tmp _ rfl ?_; exact RVS.nil) (⟨by rw [decide_eq_false]; intro hh; have := (hh i (by simp; omega)).2 (by omega); rw [hki, hk1, hlt] at this; exact Bool.noConfusion this, rfl⟩) (by repeat (first | exact Ent.nil | refine Ent.per (by repeat (first | with_reducible exact Sel.here | with_reducible apply Sel.there)) ?_ | refine Ent.cons (by repeat (first | with_reducible exact Sel.here | with_reducible apply Sel.there)) ?_))
        | true =>
          refine do_ ?_
          refine go_ ?_
          exact s_entF (by repeat (first | exact Ent.nil | refine Ent.per (by repeat (first | with_reducible exact Sel.here | with_reducible apply Sel.there)) ?_ | refine Ent.cons (by repeat (first | with_reducible exact Sel.here | with_reducible apply Sel.there)) ?_)) (s_keep _ (next (i + 1) ⟨by omega, rise_next hq (by rw [hki]; exact hok) (fun _ => by rw [hki, hk1]; exact hlt)⟩ (by omega)))
  · have : i = n := by omega
    subst this
    refine go_ ?_
    exact s_ret1 (rs := [.tmp 4]) Tryz.func103 rfl (by intro j; refine RVS.tmp _ rfl ?_; exact RVS.nil) (⟨by rw [decide_eq_true]; intro q hq2; exact hq q (by simpa [hl] using hq2), rfl⟩) (by repeat (first | exact Ent.nil | refine Ent.per (by repeat (first | with_reducible exact Sel.here | with_reducible apply Sel.there)) ?_ | refine Ent.cons (by repeat (first | with_reducible exact Sel.here | with_reducible apply Sel.there)) ?_))
set_option maxHeartbeats 4000000 in
theorem risesK_c {a : Option Addr} {n c : Nat} {row : Nat → List Value} (l : List Kid) (hl : l.length = n) (hrow : ∀ i, i < n → ∃ v, row i = [.int .i64 (l.getD i default).key.obj, .int .i64 (l.getD i default).key.kind, .int .i64 (l.getD i default).key.off, v] ∧ OneV v) (hn : n < 1000000) : Ctr Tryz.prog 105 [.slice a n c, .func (.func 106) #[] #[]] [SA none 4 (.slice a n c) n row] (fun r Bs => r = .bool (decide (KeysRise (l.map Kid.key))) ∧ Bs = []) := by
  have hk : ∀ i, i < n → (l.map Kid.key).getD i default = (l.getD i default).key := fun i hi => by
    simp [List.getD_eq_getElem?_getD, show i < l.length by omega]
  refine s_enter 38 [(0, _), (1, _)] (fun F => [_, F]) Tryz.func105 fun F => ?_
  refine go_ ?_
  refine s_loop (fun i : Nat => [(0, .slice a n c), (1, .func (.func 106) #[] #[]), (7, .slice a n c), (8, .int .i64 n), (9, .int .i64 i)]) (fun _ => [SA none 4 (.slice a n c) n row, F]) (fun i => i ≤ n ∧ ∀ q, q < i → ((l.map Kid.key).getD q default).ok = true ∧ (0 < q → ((l.map Kid.key).getD (q - 1) default).lt ((l.map Kid.key).getD q default) = true)) (fun i => n - i) 0 ⟨by omega, fun q hq => by omega⟩ (by repeat (first | exact Ent.nil | refine Ent.per (by repeat (first | with_reducible exact Sel.here | with_reducible apply Sel.there)) ?_ | refine Ent.cons (by repeat (first | with_reducible exact Sel.here | with_reducible apply Sel.there)) ?_)) ?_
  rintro i ⟨hi, hq⟩ next
  refine go_ ?_
  refine s_if (fun h => ?_) (fun h => ?_)
  · have hi2 : i < n := by omega
    obtain ⟨v, hrv, hcv⟩ := hrow i hi2
    refine go_ ?_
    haveI := hcv
    refine s_look (lk_lde1 (i := i) (m := n) (v := .slice a n c) (by repeat (first | with_reducible exact SelR.here | with_reducible apply SelR.there))) ?_
    rw [hrv]
    refine s_alloc fun r6 => ?_
    refine go_ ?_
    refine s_drawN 0 [.q 0, .q 1, .s 2, .s 3, .q 4, .q 5, .q 6, .q 7, .q 8, .q 9, .q 10, .q 11, .q 12, .q 13, .q 14, .q 16, .q 17, .s 15, .s 18, .s 19, .q 20, .q 21, .q 22] ?_
    refine do_ ?_
    refine d_step rfl (st_callC (sp := (by repeat (first | exact Split.nil | apply Split.perx (by repeat (first | with_reducible exact Sel.here | with_reducible apply Sel.there)) (by infer_instance) | apply Split.cons (by repeat (first | with_reducible exact Sel.here | with_reducible apply Sel.there))))) (hs := kidKey_c (l.getD i default).key v)) ?_
    rintro u Bs ⟨Cs, ⟨rfl, rfl⟩, rfl⟩
    refine do_ ?_
    refine d_step rfl (st_call (sp := (by repeat (first | exact Split.nil | apply Split.perx (by repeat (first | with_reducible exact Sel.here | with_reducible apply Sel.there)) (by infer_instance) | apply Split.cons (by repeat (first | with_reducible exact Sel.here | with_reducible apply Sel.there))))) (hs := may_ok (l.getD i default).key)) ?_
    rintro u Bs ⟨Cs, ⟨rfl, rfl⟩, rfl⟩
    have hki := hk i hi2
    cases hok : (l.getD i default).key.ok with
    | false =>
      refine do_ ?_
      refine d_noU rfl ?_
      refine do_ ?_
      refine d_noU rfl ?_
      refine do_ ?_
      refine d_noU rfl ?_
      refine do_ ?_
      refine go_ ?_
      exact s_ret1 (rs := [.tmp 4]) Tryz.func105 rfl (by intro j; refine RVS.tmp _ rfl ?_; exact RVS.nil) (⟨by rw [decide_eq_false]; intro hh; have := (hh i (by simp; omega)).1; rw [hki, hok] at this; exact Bool.noConfusion this, rfl⟩) (by repeat (first | exact Ent.nil | refine Ent.per (by repeat (first | with_reducible exact Sel.here | with_reducible apply Sel.there)) ?_ | refine Ent.cons (by repeat (first | with_reducible exact Sel.here | with_reducible apply Sel.there)) ?_))
    | true =>
      refine do_ ?_
      cases h0 : decide ((i : Int) > 0) with
      | false =>
        have h0' := of_decide_eq_false h0
        refine do_ ?_
        refine d_noU rfl ?_
        refine do_ ?_
        refine d_noU rfl ?_
        refine do_ ?_
        refine d_noU rfl ?_
        refine do_ ?_
        refine go_ ?_
        exact s_entF (by repeat (first | exact Ent.nil | refine Ent.per (by repeat (first | with_reducible exact Sel.here | with_reducible apply Sel.there)) ?_ | refine Ent.cons (by repeat (first | with_reducible exact Sel.here | with_reducible apply Sel.there)) ?_)) (s_keep _ (next (i + 1) ⟨by omega, rise_next hq (by rw [hki]; exact hok) (fun h => absurd h (by omega))⟩ (by omega)))
      | true =>
        have h0' := of_decide_eq_true h0
        have hi1 : i - 1 < n := by omega
        obtain ⟨v2, hrv2, hcv2⟩ := hrow (i - 1) hi1
        haveI := hcv2
        refine do_ ?_
        refine d_look rfl (lk_ixz (i - 1) (m := n) (v := .slice a n c) (by repeat (first | with_reducible exact SelR.here | with_reducible apply SelR.there))) ?_
        refine do_ ?_
        refine d_look rfl (lk_lde1 (i := i - 1) (m := n) (v := .slice a n c) (by repeat (first | with_reducible exact SelR.here | with_reducible apply SelR.there))) ?_
        rw [hrv2]
        refine do_ ?_
        refine d_step rfl (st_callC (sp := (by repeat (first | exact Split.nil | apply Split.perx (by repeat (first | with_reducible exact Sel.here | with_reducible apply Sel.there)) (by infer_instance) | apply Split.cons (by repeat (first | with_reducible exact Sel.here | with_reducible apply Sel.there))))) (hs := kidKey_c (l.getD (i - 1) default).key v2)) ?_
        rintro u Bs ⟨Cs, ⟨rfl, rfl⟩, rfl⟩
        refine do_ ?_
        refine d_step rfl (st_callC (sp := (by repeat (first | exact Split.nil | apply Split.perx (by repeat (first | with_reducible exact Sel.here | with_reducible apply Sel.there)) (by infer_instance) | apply Split.cons (by repeat (first | with_reducible exact Sel.here | with_reducible apply Sel.there))))) (hs := kidKey_c (l.getD i default).key v)) ?_
        rintro u Bs ⟨Cs, ⟨rfl, rfl⟩, rfl⟩
        refine do_ ?_
        refine d_step rfl (st_call (sp := (by repeat (first | exact Split.nil | apply Split.perx (by repeat (first | with_reducible exact Sel.here | with_reducible apply Sel.there)) (by infer_instance) | apply Split.cons (by repeat (first | with_reducible exact Sel.here | with_reducible apply Sel.there))))) (hs := less_ok (l.getD (i - 1) default).key (l.getD i default).key)) ?_
        rintro u Bs ⟨Cs, ⟨rfl, rfl⟩, rfl⟩
        refine do_ ?_
        have hk1 := hk (i - 1) hi1
        cases hlt : (l.getD (i - 1) default).key.lt (l.getD i default).key with
        | false =>
          refine do_ ?_
          refine go_ ?_
          exact s_ret1 (rs := [.tmp 4]) Tryz.func105 rfl (by intro j; refine RVS.tmp _ rfl ?_; exact RVS.nil) (⟨by rw [decide_eq_false]; intro hh; have := (hh i (by simp; omega)).2 (by omega); rw [hki, hk1, hlt] at this; exact Bool.noConfusion this, rfl⟩) (by repeat (first | exact Ent.nil | refine Ent.per (by repeat (first | with_reducible exact Sel.here | with_reducible apply Sel.there)) ?_ | refine Ent.cons (by repeat (first | with_reducible exact Sel.here | with_reducible apply Sel.there)) ?_))
        | true =>
          refine do_ ?_
          refine go_ ?_
          exact s_entF (by repeat (first | exact Ent.nil | refine Ent.per (by repeat (first | with_reducible exact Sel.here | with_reducible apply Sel.there)) ?_ | refine Ent.cons (by repeat (first | with_reducible exact Sel.here | with_reducible apply Sel.there)) ?_)) (s_keep _ (next (i + 1) ⟨by omega, rise_next hq (by rw [hki]; exact hok) (fun _ => by rw [hki, hk1]; exact hlt)⟩ (by omega)))
  · have : i = n := by omega
    subst this
    refine go_ ?_
    exact s_ret1 (rs := [.tmp 4]) Tryz.func105 rfl (by intro j; refine RVS.tmp _ rfl ?_; exact RVS.nil) (⟨by rw [decide_eq_true]; intro q hq2; exact hq q (by simpa [hl] using hq2), rfl⟩) (by repeat (first | exact Ent.nil | refine Ent.per (by repeat (first | with_reducible exact Sel.here | with_reducible apply Sel.there)) ?_ | refine Ent.cons (by repeat (first | with_reducible exact Sel.here | with_reducible apply Sel.there)) ?_))
end Go.Proofs.YtgbbcpfnmkeijaaGreat
/- The reference's keys: Less, May, Next. -/
namespace Go.Proofs.YtgbbcpfnmkeijaaGreat
open Go.Cam
set_option maxRecDepth 100000
theorem Key.lt_iff (a b : Key) : a.lt b = true ↔ a.obj < b.obj ∨ (a.obj = b.obj ∧ (a.kind < b.kind ∨ (a.kind = b.kind ∧ a.off < b.off))) := by
  unfold Key.lt
  rw [decide_eq_true_eq]
  simp only [orI, cmpI]
  repeat' split
  all_goals omega
theorem rless_c (a b : Key) : Ctr Tryz.prog 75 [a.v, b.v] [] (fun r Bs => r = .bool (a.lt b) ∧ Bs = []) := by
  have hl := a.lt_iff b
  refine s_enter 30 [(0, _), (1, _)] (fun F => [F]) Tryz.func75 fun F => ?_
  refine go_ ?_
  refine s_box fun r2 => ?_
  refine s_box fun r3 => ?_
  refine go_ ?_
  refine s_ine (fun h => ?_) (fun h => ?_)
  · refine go_ ?_
    exact s_ret1 (rs := [.tmp 4]) Tryz.func75 rfl (by intro j; refine RVS.tmp _ rfl ?_; exact RVS.nil) (⟨by congr 1; rw [Bool.eq_iff_iff, hl, decide_eq_true_eq]; omega, rfl⟩) (by repeat (first | exact Ent.nil | refine Ent.per (by repeat (first | with_reducible exact Sel.here | with_reducible apply Sel.there)) ?_ | refine Ent.cons (by repeat (first | with_reducible exact Sel.here | with_reducible apply Sel.there)) ?_))
  · refine go_ ?_
    refine s_ine (fun h2 => ?_) (fun h2 => ?_)
    · refine go_ ?_
      exact s_ret1 (rs := [.tmp 4]) Tryz.func75 rfl (by intro j; refine RVS.tmp _ rfl ?_; exact RVS.nil) (⟨by congr 1; rw [Bool.eq_iff_iff, hl, decide_eq_true_eq]; omega, rfl⟩) (by repeat (first | exact Ent.nil | refine Ent.per (by repeat (first | with_reducible exact Sel.here | with_reducible apply Sel.there)) ?_ | refine Ent.cons (by repeat (first | with_reducible exact Sel.here | with_reducible apply Sel.there)) ?_))
    · refine go_ ?_
      exact s_ret1 (rs := [.tmp 4]) Tryz.func75 rfl (by intro j; refine RVS.tmp _ rfl ?_; exact RVS.nil) (⟨by congr 1; rw [Bool.eq_iff_iff, hl, decide_eq_true_eq]; omega, rfl⟩) (by repeat (first | exact Ent.nil | refine Ent.per (by repeat (first | with_reducible exact Sel.here | with_reducible apply Sel.there)) ?_ | refine Ent.cons (by repeat (first | with_reducible exact Sel.here | with_reducible apply Sel.there)) ?_))
set_option maxHeartbeats 1000000 in
theorem rmay_c (k : Key) : Ctr Tryz.prog 36 [k.v] [] (fun r Bs => r = .bool k.ok ∧ Bs = []) := by
  refine s_enter 31 [(0, _)] (fun F => [F]) Tryz.func36 fun F => ?_
  refine go_ ?_
  refine s_box fun r1 => ?_
  refine go_ ?_
  cases h0 : decide (k.obj ≥ 0)
  · refine go_ ?_
    exact s_ret1 (rs := [.tmp 2]) Tryz.func36 rfl (by intro j; refine RVS.tmp _ rfl ?_; exact RVS.nil) (⟨by simp at h0; simp [Key.ok]; omega, rfl⟩) (by repeat (first | exact Ent.nil | refine Ent.per (by repeat (first | with_reducible exact Sel.here | with_reducible apply Sel.there)) ?_ | refine Ent.cons (by repeat (first | with_reducible exact Sel.here | with_reducible apply Sel.there)) ?_))
  refine go_ ?_
  cases h1 : decide (k.obj ≤ 2147483647)
  · refine go_ ?_
    exact s_ret1 (rs := [.tmp 2]) Tryz.func36 rfl (by intro j; refine RVS.tmp _ rfl ?_; exact RVS.nil) (⟨by simp at h1; simp [Key.ok]; omega, rfl⟩) (by repeat (first | exact Ent.nil | refine Ent.per (by repeat (first | with_reducible exact Sel.here | with_reducible apply Sel.there)) ?_ | refine Ent.cons (by repeat (first | with_reducible exact Sel.here | with_reducible apply Sel.there)) ?_))
  refine go_ ?_
  cases h2 : decide (k.kind ≥ 0)
  · refine go_ ?_
    exact s_ret1 (rs := [.tmp 2]) Tryz.func36 rfl (by intro j; refine RVS.tmp _ rfl ?_; exact RVS.nil) (⟨by simp at h2; simp [Key.ok]; omega, rfl⟩) (by repeat (first | exact Ent.nil | refine Ent.per (by repeat (first | with_reducible exact Sel.here | with_reducible apply Sel.there)) ?_ | refine Ent.cons (by repeat (first | with_reducible exact Sel.here | with_reducible apply Sel.there)) ?_))
  refine go_ ?_
  cases h3 : decide (k.kind ≤ 255)
  · refine go_ ?_
    exact s_ret1 (rs := [.tmp 2]) Tryz.func36 rfl (by intro j; refine RVS.tmp _ rfl ?_; exact RVS.nil) (⟨by simp at h3; simp [Key.ok]; omega, rfl⟩) (by repeat (first | exact Ent.nil | refine Ent.per (by repeat (first | with_reducible exact Sel.here | with_reducible apply Sel.there)) ?_ | refine Ent.cons (by repeat (first | with_reducible exact Sel.here | with_reducible apply Sel.there)) ?_))
  refine go_ ?_
  cases h4 : decide (k.off ≥ 0)
  · refine go_ ?_
    exact s_ret1 (rs := [.tmp 2]) Tryz.func36 rfl (by intro j; refine RVS.tmp _ rfl ?_; exact RVS.nil) (⟨by simp at h4; simp [Key.ok]; omega, rfl⟩) (by repeat (first | exact Ent.nil | refine Ent.per (by repeat (first | with_reducible exact Sel.here | with_reducible apply Sel.there)) ?_ | refine Ent.cons (by repeat (first | with_reducible exact Sel.here | with_reducible apply Sel.there)) ?_))
  refine go_ ?_
  exact s_ret1 (rs := [.tmp 2]) Tryz.func36 rfl (by intro j; refine RVS.tmp _ rfl ?_; exact RVS.nil) (⟨by congr 1; simp at h0 h1 h2 h3 h4; rw [Bool.eq_iff_iff, decide_eq_true_eq]; simp [Key.ok]; omega, rfl⟩) (by repeat (first | exact Ent.nil | refine Ent.per (by repeat (first | with_reducible exact Sel.here | with_reducible apply Sel.there)) ?_ | refine Ent.cons (by repeat (first | with_reducible exact Sel.here | with_reducible apply Sel.there)) ?_))
def Key.next (k : Key) : Option Key :=
  if k.off < 2147483647 then some ⟨k.obj, k.kind, IntKind.i64.wrap (k.off + 1)⟩
  else if k.kind < 255 then some ⟨k.obj, IntKind.i64.wrap (k.kind + 1), 0⟩
  else if k.obj < 2147483647 then some ⟨IntKind.i64.wrap (k.obj + 1), 0, 0⟩
  else none
end Go.Proofs.YtgbbcpfnmkeijaaGreat
/- node.within, node.May. -/
namespace Go.Proofs.YtgbbcpfnmkeijaaGreat
open Go.Cam
set_option maxRecDepth 100000
theorem nwithin_c (x a b : Int) : Ctr Tryz.prog 102 [.int .i64 x, .int .i64 a, .int .i64 b] [] (fun v Bs => v = .bool (decide (a ≤ x ∧ x ≤ b)) ∧ Bs = []) := by
  refine s_enter 15 [(0, _), (1, _), (2, _)] (fun F => [F]) Tryz.func102 fun F => ?_
  refine go_ ?_
  cases h : decide (a ≤ x) with
  | false =>
    have := of_decide_eq_false h
    refine go_ ?_
    exact s_ret1 (rs := [.tmp 6]) Tryz.func102 rfl (by intro j; refine RVS.tmp _ rfl ?_; exact RVS.nil) (⟨by rw [decide_eq_false]; omega, rfl⟩) (by repeat (first | exact Ent.nil | refine Ent.per (by repeat (first | with_reducible exact Sel.here | with_reducible apply Sel.there)) ?_ | refine Ent.cons (by repeat (first | with_reducible exact Sel.here | with_reducible apply Sel.there)) ?_))
  | true =>
    have := of_decide_eq_true h
    refine go_ ?_
    exact s_ret1 (rs := [.tmp 6]) Tryz.func102 rfl (by intro j; refine RVS.tmp _ rfl ?_; exact RVS.nil) (⟨by congr 1; exact decide_eq_decide.2 (by omega), rfl⟩) (by repeat (first | exact Ent.nil | refine Ent.per (by repeat (first | with_reducible exact Sel.here | with_reducible apply Sel.there)) ?_ | refine Ent.cons (by repeat (first | with_reducible exact Sel.here | with_reducible apply Sel.there)) ?_))
def nodeOk (x : Node) : Bool :=
  if x.level = 0 then decide (∀ q, q < x.items.length → (x.items.getD q default).val.length ≤ 28) && decide (x.kids.length = 0) && decide (1 ≤ x.items.length ∧ x.items.length ≤ 6) && decide (KeysRise (x.items.map Item.key))
  else decide (∀ q, q < x.kids.length → 1 ≤ (x.kids.getD q default).addr ∧ (x.kids.getD q default).addr ≤ 2047) && decide (1 ≤ x.level ∧ x.level ≤ 7) && decide (x.items.length = 0) && decide (2 ≤ x.kids.length ∧ x.kids.length ≤ 12) && decide (KeysRise (x.kids.map Kid.key))
abbrev nodeV (lv : Int) (a : Option Addr) (n c : Nat) (b : Option Addr) (m d : Nat) : Value := .agg #[.int .i64 lv, .slice a n c, .slice b m d]
set_option maxHeartbeats 8000000 in
theorem nmay_c (x : Node) {a b : Option Addr} {n c m d : Nat} {w : Nat → Option Addr × Nat} (hn : x.items.length = n) (hm : x.kids.length = m) (hn2 : n < 1000000) (hm2 : m < 1000000) (hv : ∀ i, i < n → (x.items.getD i default).val.length < 1000000) : Ctr Tryz.prog 73 [nodeV x.level a n c b m d] [SA none 4 (.slice a n c) n (itemRow w x.items), SA none 4 (.slice b m d) m (kidRow x.kids)] (fun r Bs => r = .bool (nodeOk x) ∧ Bs = []) := by
  refine s_enter 69 [(0, _)] (fun F => [_, _, F]) Tryz.func73 fun F => ?_
  refine go_ ?_
  refine s_box fun r1 => ?_
  refine go_ ?_
  refine s_ieq (fun h0 => ?_) (fun h0 => ?_)
  · refine go_ ?_
    refine s_loop (fun i : Nat => [(1, .pointer (some ⟨r1, 0, none⟩)), (11, .slice a n c), (12, .int .i64 n), (13, .int .i64 i)]) (fun _ => [SA none 4 (.slice a n c) n (itemRow w x.items), SA none 4 (.slice b m d) m (kidRow x.kids), Box r1 88 [.int .i64 x.level, .slice a n c, .slice b m d], F]) (fun i => i ≤ n ∧ ∀ q, q < i → (x.items.getD q default).val.length ≤ 28) (fun i => n - i) 0 ⟨by omega, fun q hq => by omega⟩ (by repeat (first | exact Ent.nil | refine Ent.per (by repeat (first | with_reducible exact Sel.here | with_reducible apply Sel.there)) ?_ | refine Ent.cons (by repeat (first | with_reducible exact Sel.here | with_reducible apply Sel.there)) ?_)) ?_
    rintro i ⟨hi, hq⟩ next
    refine go_ ?_
    refine s_if (fun h => ?_) (fun h => ?_)
    · have hi2 : i < n := by omega
      refine go_ ?_
      refine s_alloc fun r6 => ?_
      refine go_ ?_
      refine s_if (fun h2 => ?_) (fun h2 => ?_)
      · refine go_ ?_
        exact s_ret1 (rs := [.tmp 2]) Tryz.func73 rfl (by intro j; refine RVS.tmp _ rfl ?_; exact RVS.nil) (⟨by unfold nodeOk; rw [if_pos h0, decide_eq_false (p := ∀ q, _ → _)]; rfl; intro hh; have := hh i (by omega); omega, rfl⟩) (by repeat (first | exact Ent.nil | refine Ent.per (by repeat (first | with_reducible exact Sel.here | with_reducible apply Sel.there)) ?_ | refine Ent.cons (by repeat (first | with_reducible exact Sel.here | with_reducible apply Sel.there)) ?_))
      · refine go_ ?_
        exact s_entF (by repeat (first | exact Ent.nil | refine Ent.per (by repeat (first | with_reducible exact Sel.here | with_reducible apply Sel.there)) ?_ | refine Ent.cons (by repeat (first | with_reducible exact Sel.here | with_reducible apply Sel.there)) ?_)) (s_keep _ (next (i + 1) ⟨by omega, fun q hq2 => if e : q < i then hq q e else (by rw [show q = i by omega]; omega)⟩ (by omega)))
    · have : i = n := by omega
      subst this
      have hA : decide (∀ q, q < x.items.length → (x.items.getD q default).val.length ≤ 28) = true := decide_eq_true (by rw [hn]; exact hq)
      refine go_ ?_
      cases hk0 : ((m : Int) == 0) with
      | false =>
        have hk1 := ne_of_beq_false hk0
        refine go_ ?_
        exact s_ret1 (rs := [.tmp 2]) Tryz.func73 rfl (by intro j; refine RVS.tmp _ rfl ?_; exact RVS.nil) (⟨by unfold nodeOk; rw [if_pos h0, hA, decide_eq_false (p := x.kids.length = 0) (by omega)]; rfl, rfl⟩) (by repeat (first | exact Ent.nil | refine Ent.per (by repeat (first | with_reducible exact Sel.here | with_reducible apply Sel.there)) ?_ | refine Ent.cons (by repeat (first | with_reducible exact Sel.here | with_reducible apply Sel.there)) ?_))
      | true =>
        have hk1 := eq_of_beq hk0
        refine go_ ?_
        refine s_call (sp := (by repeat (first | exact Split.nil | apply Split.perx (by repeat (first | with_reducible exact Sel.here | with_reducible apply Sel.there)) (by infer_instance) | apply Split.cons (by repeat (first | with_reducible exact Sel.here | with_reducible apply Sel.there))))) (hs := nwithin_c (i : Int) 1 6) (h := ?_)
        rintro v Bs ⟨rfl, rfl⟩
        have hB : decide (1 ≤ x.items.length ∧ x.items.length ≤ 6) = decide (1 ≤ (i : Int) ∧ (i : Int) ≤ 6) := decide_eq_decide.2 (by omega)
        cases hw : decide (1 ≤ (i : Int) ∧ (i : Int) ≤ 6) with
        | false =>
          refine go_ ?_
          exact s_ret1 (rs := [.tmp 2]) Tryz.func73 rfl (by intro j; refine RVS.tmp _ rfl ?_; exact RVS.nil) (⟨by unfold nodeOk; rw [if_pos h0, hA, hB, hw, decide_eq_true (p := x.kids.length = 0) (by omega)]; rfl, rfl⟩) (by repeat (first | exact Ent.nil | refine Ent.per (by repeat (first | with_reducible exact Sel.here | with_reducible apply Sel.there)) ?_ | refine Ent.cons (by repeat (first | with_reducible exact Sel.here | with_reducible apply Sel.there)) ?_))
        | true =>
          refine go_ ?_
          refine s_call (sp := (by repeat (first | exact Split.nil | apply Split.perx (by repeat (first | with_reducible exact Sel.here | with_reducible apply Sel.there)) (by infer_instance) | apply Split.cons (by repeat (first | with_reducible exact Sel.here | with_reducible apply Sel.there))))) (hs := risesI_c (a := a) (n := i) (c := c) (row := itemRow w x.items) x.items hn (fun j hj => ⟨_, rfl, inferInstance⟩) hn2) (h := ?_)
          rintro v Bs ⟨rfl, rfl⟩
          refine go_ ?_
          exact s_ret1 (rs := [.tmp 2]) Tryz.func73 rfl (by intro j; refine RVS.tmp _ rfl ?_; exact RVS.nil) (⟨by unfold nodeOk; rw [if_pos h0, hA, hB, hw, decide_eq_true (p := x.kids.length = 0) (by omega)]; rfl, rfl⟩) (by repeat (first | exact Ent.nil | refine Ent.per (by repeat (first | with_reducible exact Sel.here | with_reducible apply Sel.there)) ?_ | refine Ent.cons (by repeat (first | with_reducible exact Sel.here | with_reducible apply Sel.there)) ?_))
  · refine go_ ?_
    refine s_loop (fun i : Nat => [(1, .pointer (some ⟨r1, 0, none⟩)), (38, .slice b m d), (39, .int .i64 m), (40, .int .i64 i)]) (fun _ => [SA none 4 (.slice a n c) n (itemRow w x.items), SA none 4 (.slice b m d) m (kidRow x.kids), Box r1 88 [.int .i64 x.level, .slice a n c, .slice b m d], F]) (fun i => i ≤ m ∧ ∀ q, q < i → 1 ≤ (x.kids.getD q default).addr ∧ (x.kids.getD q default).addr ≤ 2047) (fun i => m - i) 0 ⟨by omega, fun q hq => by omega⟩ (by repeat (first | exact Ent.nil | refine Ent.per (by repeat (first | with_reducible exact Sel.here | with_reducible apply Sel.there)) ?_ | refine Ent.cons (by repeat (first | with_reducible exact Sel.here | with_reducible apply Sel.there)) ?_)) ?_
    rintro i ⟨hi, hq⟩ next
    refine go_ ?_
    refine s_if (fun h => ?_) (fun h => ?_)
    · have hi2 : i < m := by omega
      refine go_ ?_
      refine s_alloc fun r6 => ?_
      refine go_ ?_
      refine s_call (sp := (by repeat (first | exact Split.nil | apply Split.perx (by repeat (first | with_reducible exact Sel.here | with_reducible apply Sel.there)) (by infer_instance) | apply Split.cons (by repeat (first | with_reducible exact Sel.here | with_reducible apply Sel.there))))) (hs := nwithin_c (x.kids.getD i default).addr 1 2047) (h := ?_)
      rintro v Bs ⟨rfl, rfl⟩
      cases hw : decide (1 ≤ (x.kids.getD i default).addr ∧ (x.kids.getD i default).addr ≤ 2047) with
      | false =>
        have hw2 := of_decide_eq_false hw
        refine go_ ?_
        exact s_ret1 (rs := [.tmp 2]) Tryz.func73 rfl (by intro j; refine RVS.tmp _ rfl ?_; exact RVS.nil) (⟨by unfold nodeOk; rw [if_neg h0, decide_eq_false (p := ∀ q, _ → _)]; rfl; intro hh; exact hw2 (hh i (by omega)), rfl⟩) (by repeat (first | exact Ent.nil | refine Ent.per (by repeat (first | with_reducible exact Sel.here | with_reducible apply Sel.there)) ?_ | refine Ent.cons (by repeat (first | with_reducible exact Sel.here | with_reducible apply Sel.there)) ?_))
      | true =>
        have hw2 := of_decide_eq_true hw
        refine go_ ?_
        exact s_entF (by repeat (first | exact Ent.nil | refine Ent.per (by repeat (first | with_reducible exact Sel.here | with_reducible apply Sel.there)) ?_ | refine Ent.cons (by repeat (first | with_reducible exact Sel.here | with_reducible apply Sel.there)) ?_)) (s_keep _ (next (i + 1) ⟨by omega, fun q hq2 => if e : q < i then hq q e else (by rw [show q = i by omega]; exact hw2)⟩ (by omega)))
    · have : i = m := by omega
      subst this
      have hA : decide (∀ q, q < x.kids.length → 1 ≤ (x.kids.getD q default).addr ∧ (x.kids.getD q default).addr ≤ 2047) = true := decide_eq_true (by rw [hm]; exact hq)
      refine go_ ?_
      refine s_call (sp := (by repeat (first | exact Split.nil | apply Split.perx (by repeat (first | with_reducible exact Sel.here | with_reducible apply Sel.there)) (by infer_instance) | apply Split.cons (by repeat (first | with_reducible exact Sel.here | with_reducible apply Sel.there))))) (hs := nwithin_c x.level 1 7) (h := ?_)
      rintro v Bs ⟨rfl, rfl⟩
      cases hw : decide (1 ≤ x.level ∧ x.level ≤ 7) with
      | false =>
        refine go_ ?_
        exact s_ret1 (rs := [.tmp 2]) Tryz.func73 rfl (by intro j; refine RVS.tmp _ rfl ?_; exact RVS.nil) (⟨by unfold nodeOk; rw [if_neg h0, hA, hw]; rfl, rfl⟩) (by repeat (first | exact Ent.nil | refine Ent.per (by repeat (first | with_reducible exact Sel.here | with_reducible apply Sel.there)) ?_ | refine Ent.cons (by repeat (first | with_reducible exact Sel.here | with_reducible apply Sel.there)) ?_))
      | true =>
        refine go_ ?_
        cases hk0 : ((n : Int) == 0) with
        | false =>
          have hk1 := ne_of_beq_false hk0
          refine go_ ?_
          exact s_ret1 (rs := [.tmp 2]) Tryz.func73 rfl (by intro j; refine RVS.tmp _ rfl ?_; exact RVS.nil) (⟨by unfold nodeOk; rw [if_neg h0, hA, hw, decide_eq_false (p := x.items.length = 0) (by omega)]; rfl, rfl⟩) (by repeat (first | exact Ent.nil | refine Ent.per (by repeat (first | with_reducible exact Sel.here | with_reducible apply Sel.there)) ?_ | refine Ent.cons (by repeat (first | with_reducible exact Sel.here | with_reducible apply Sel.there)) ?_))
        | true =>
          have hk1 := eq_of_beq hk0
          refine go_ ?_
          refine s_call (sp := (by repeat (first | exact Split.nil | apply Split.perx (by repeat (first | with_reducible exact Sel.here | with_reducible apply Sel.there)) (by infer_instance) | apply Split.cons (by repeat (first | with_reducible exact Sel.here | with_reducible apply Sel.there))))) (hs := nwithin_c (i : Int) 2 12) (h := ?_)
          rintro v Bs ⟨rfl, rfl⟩
          have hB : decide (2 ≤ x.kids.length ∧ x.kids.length ≤ 12) = decide (2 ≤ (i : Int) ∧ (i : Int) ≤ 12) := decide_eq_decide.2 (by omega)
          cases hw2 : decide (2 ≤ (i : Int) ∧ (i : Int) ≤ 12) with
          | false =>
            refine go_ ?_
            exact s_ret1 (rs := [.tmp 2]) Tryz.func73 rfl (by intro j; refine RVS.tmp _ rfl ?_; exact RVS.nil) (⟨by unfold nodeOk; rw [if_neg h0, hA, hw, hB, hw2, decide_eq_true (p := x.items.length = 0) (by omega)]; rfl, rfl⟩) (by repeat (first | exact Ent.nil | refine Ent.per (by repeat (first | with_reducible exact Sel.here | with_reducible apply Sel.there)) ?_ | refine Ent.cons (by repeat (first | with_reducible exact Sel.here | with_reducible apply Sel.there)) ?_))
          | true =>
            refine go_ ?_
            refine s_call (sp := (by repeat (first | exact Split.nil | apply Split.perx (by repeat (first | with_reducible exact Sel.here | with_reducible apply Sel.there)) (by infer_instance) | apply Split.cons (by repeat (first | with_reducible exact Sel.here | with_reducible apply Sel.there))))) (hs := risesK_c (a := b) (n := i) (c := d) (row := kidRow x.kids) x.kids hm (fun j hj => ⟨_, rfl, inferInstance⟩) hm2) (h := ?_)
            rintro v Bs ⟨rfl, rfl⟩
            refine go_ ?_
            exact s_ret1 (rs := [.tmp 2]) Tryz.func73 rfl (by intro j; refine RVS.tmp _ rfl ?_; exact RVS.nil) (⟨by unfold nodeOk; rw [if_neg h0, hA, hw, hB, hw2, decide_eq_true (p := x.items.length = 0) (by omega)]; rfl, rfl⟩) (by repeat (first | exact Ent.nil | refine Ent.per (by repeat (first | with_reducible exact Sel.here | with_reducible apply Sel.there)) ?_ | refine Ent.cons (by repeat (first | with_reducible exact Sel.here | with_reducible apply Sel.there)) ?_))
end Go.Proofs.YtgbbcpfnmkeijaaGreat
