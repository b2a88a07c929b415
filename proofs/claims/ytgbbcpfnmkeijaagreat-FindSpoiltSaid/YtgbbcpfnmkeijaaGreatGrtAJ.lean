/- node.within, node.May. -/
import Derived.Test.YtgbbcpfnmkeijaaGreatGrtAV
import Derived.Test.YtgbbcpfnmkeijaaGreatCamAL
import Derived.Test.YtgbbcpfnmkeijaaGreatGrtZ
namespace Go.Proofs.YtgbbcpfnmkeijaaGreat
open Go.Cam
set_option maxRecDepth 100000
theorem nwithin_c (x a b : Int) : Ctr Tryz.prog 102 [.int .i64 x, .int .i64 a, .int .i64 b] [] (fun v Bs => v = .bool (decide (a ≤ x ∧ x ≤ b)) ∧ Bs = []) := by
  refine s_enter 15 [(0, _), (1, _), (2, _)] (fun F => [F]) Tryz.func102 fun F => ?_
  refine go_ ?_
  cases h : decide (a ≤ x) with
  | false =>
    have := of_decide_eq_false h
    refine go_ ?_
    exact s_ret1 (rs := [.tmp 6]) Tryz.func102 rfl (by intro j; refine RVS.tmp _ rfl ?_; exact RVS.nil) (⟨by rw [decide_eq_false]; omega, rfl⟩) (by repeat (first | exact Ent.nil | refine Ent.per (by repeat (first | with_reducible exact Sel.here | with_reducible apply Sel.there)) ?_ | refine Ent.cons (by repeat (first | with_reducible exact Sel.here | with_reducible apply Sel.there)) ?_))
  | true =>
    have := of_decide_eq_true h
    refine go_ ?_
    exact s_ret1 (rs := [.tmp 6]) Tryz.func102 rfl (by intro j; refine RVS.tmp _ rfl ?_; exact RVS.nil) (⟨by congr 1; exact decide_eq_decide.2 (by omega), rfl⟩) (by repeat (first | exact Ent.nil | refine Ent.per (by repeat (first | with_reducible exact Sel.here | with_reducible apply Sel.there)) ?_ | refine Ent.cons (by repeat (first | with_reducible exact Sel.here | with_reducible apply Sel.there)) ?_))
def nodeOk (x : Node) : Bool :=
  if x.level = 0 then decide (∀ q, q < x.items.length → (x.items.getD q default).val.length ≤ 28) && decide (x.kids.length = 0) && decide (1 ≤ x.items.length ∧ x.items.length ≤ 6) && decide (KeysRise (x.items.map Item.key))
  else decide (∀ q, q < x.kids.length → 1 ≤ (x.kids.getD q default).addr ∧ (x.kids.getD q default).addr ≤ 2047) && decide (1 ≤ x.level ∧ x.level ≤ 7) && decide (x.items.length = 0) && decide (2 ≤ x.kids.length ∧ x.kids.length ≤ 12) && decide (KeysRise (x.kids.map Kid.key))
abbrev nodeV (lv : Int) (a : Option Addr) (n c : Nat) (b : Option Addr) (m d : Nat) : Value := .agg #[.int .i64 lv, .slice a n c, .slice b m d]
set_option maxHeartbeats 8000000 in
theorem nmay_c (x : Node) {a b : Option Addr} {n c m d : Nat} {w : Nat → Option Addr × Nat} (hn : x.items.length = n) (hm : x.kids.length = m) (hn2 : n < 1000000) (hm2 : m < 1000000) (hv : ∀ i, i < n → (x.items.getD i default).val.length < 1000000) : Ctr Tryz.prog 73 [nodeV x.level a n c b m d] [SA none 4 (.slice a n c) n (itemRow w x.items), SA none 4 (.slice b m d) m (kidRow x.kids)] (fun r Bs => r = .bool (nodeOk x) ∧ Bs = []) := by
  refine s_enter 69 [(0, _)] (fun F => [_, _, F]) Tryz.func73 fun F => ?_
  refine go_ ?_
  refine s_box fun r1 => ?_
  refine go_ ?_
  refine s_ieq (fun h0 => ?_) (fun h0 => ?_)
  · refine go_ ?_
    refine s_loop (fun i : Nat => [(1, .pointer (some ⟨r1, 0, none⟩)), (11, .slice a n c), (12, .int .i64 n), (13, .int .i64 i)]) (fun _ => [SA none 4 (.slice a n c) n (itemRow w x.items), SA none 4 (.slice b m d) m (kidRow x.kids), Box r1 88 [.int .i64 x.level, .slice a n c, .slice b m d], F]) (fun i => i ≤ n ∧ ∀ q, q < i → (x.items.getD q default).val.length ≤ 28) (fun i => n - i) 0 ⟨by omega, fun q hq => by omega⟩ (by repeat (first | exact Ent.nil | refine Ent.per (by repeat (first | with_reducible exact Sel.here | with_reducible apply Sel.there)) ?_ | refine Ent.cons (by repeat (first | with_reducible exact Sel.here | with_reducible apply Sel.there)) ?_)) ?_
    rintro i ⟨hi, hq⟩ next
    refine go_ ?_
    refine s_if (fun h => ?_) (fun h => ?_)
    · have hi2 : i < n := by omega
      refine go_ ?_
      refine s_alloc fun r6 => ?_
      refine go_ ?_
      refine s_if (fun h2 => ?_) (fun h2 => ?_)
      · refine go_ ?_
        exact s_ret1 (rs := [.tmp 2]) Tryz.func73 rfl (by intro j; refine RVS.tmp _ rfl ?_; exact RVS.nil) (⟨by unfold nodeOk; rw [if_pos h0, decide_eq_false (p := ∀ q, _ → _)]; rfl; intro hh; have := hh i (by omega); omega, rfl⟩) (by repeat (first | exact Ent.nil | refine Ent.per (by repeat (first | with_reducible exact Sel.here | with_reducible apply Sel.there)) ?_ | refine Ent.cons (by repeat (first | with_reducible exact Sel.here | with_reducible apply Sel.there)) ?_))
      · refine go_ ?_
        exact s_entF (by repeat (first | exact Ent.nil | refine Ent.per (by repeat (first | with_reducible exact Sel.here | with_reducible apply Sel.there)) ?_ | refine Ent.cons (by repeat (first | with_reducible exact Sel.here | with_reducible apply Sel.there)) ?_)) (s_keep _ (next (i + 1) ⟨by omega, fun q hq2 => if e : q < i then hq q e else (by rw [show q = i by omega]; omega)⟩ (by omega)))
    · have : i = n := by omega
      subst this
      have hA : decide (∀ q, q < x.items.length → (x.items.getD q default).val.length ≤ 28) = true := decide_eq_true (by rw [hn]; exact hq)
      refine go_ ?_
      cases hk0 : ((m : Int) == 0) with
      | false =>
        have hk1 := ne_of_beq_false hk0
        refine go_ ?_
        exact s_ret1 (rs := [.tmp 2]) Tryz.func73 rfl (by intro j; refine RVS.tmp _ rfl ?_; exact RVS.nil) (⟨by unfold nodeOk; rw [if_pos h0, hA, decide_eq_false (p := x.kids.length = 0) (by omega)]; rfl, rfl⟩) (by repeat (first | exact Ent.nil | refine Ent.per (by repeat (first | with_reducible exact Sel.here | with_reducible apply Sel.there)) ?_ | refine Ent.cons (by repeat (first | with_reducible exact Sel.here | with_reducible apply Sel.there)) ?_))
      | true =>
        have hk1 := eq_of_beq hk0
        refine go_ ?_
        refine s_call (sp := (by repeat (first | exact Split.nil | apply Split.perx (by repeat (first | with_reducible exact Sel.here | with_reducible apply Sel.there)) (by infer_instance) | apply Split.cons (by repeat (first | with_reducible exact Sel.here | with_reducible apply Sel.there))))) (hs := nwithin_c (i : Int) 1 6) (h := ?_)
        rintro v Bs ⟨rfl, rfl⟩
        have hB : decide (1 ≤ x.items.length ∧ x.items.length ≤ 6) = decide (1 ≤ (i : Int) ∧ (i : Int) ≤ 6) := decide_eq_decide.2 (by omega)
        cases hw : decide (1 ≤ (i : Int) ∧ (i : Int) ≤ 6) with
        | false =>
          refine go_ ?_
          exact s_ret1 (rs := [.tmp 2]) Tryz.func73 rfl (by intro j; refine RVS.tmp _ rfl ?_; exact RVS.nil) (⟨by unfold nodeOk; rw [if_pos h0, hA, hB, hw, decide_eq_true (p := x.kids.length = 0) (by omega)]; rfl, rfl⟩) (by repeat (first | exact Ent.nil | refine Ent.per (by repeat (first | with_reducible exact Sel.here | with_reducible apply Sel.there)) ?_ | refine Ent.cons (by repeat (first | with_reducible exact Sel.here | with_reducible apply Sel.there)) ?_))
        | true =>
          refine go_ ?_
          refine s_call (sp := (by repeat (first | exact Split.nil | apply Split.perx (by repeat (first | with_reducible exact Sel.here | with_reducible apply Sel.there)) (by infer_instance) | apply Split.cons (by repeat (first | with_reducible exact Sel.here | with_reducible apply Sel.there))))) (hs := risesI_c (a := a) (n := i) (c := c) (row := itemRow w x.items) x.items hn (fun j hj => ⟨_, rfl, inferInstance⟩) hn2) (h := ?_)
          rintro v Bs ⟨rfl, rfl⟩
          refine go_ ?_
          exact s_ret1 (rs := [.tmp 2]) Tryz.func73 rfl (by intro j; refine RVS.tmp _ rfl ?_; exact RVS.nil) (⟨by unfold nodeOk; rw [if_pos h0, hA, hB, hw, decide_eq_true (p := x.kids.length = 0) (by omega)]; rfl, rfl⟩) (by repeat (first | exact Ent.nil | refine Ent.per (by repeat (first | with_reducible exact Sel.here | with_reducible apply Sel.there)) ?_ | refine Ent.cons (by repeat (first | with_reducible exact Sel.here | with_reducible apply Sel.there)) ?_))
  · refine go_ ?_
    refine s_loop (fun i : Nat => [(1, .pointer (some ⟨r1, 0, none⟩)), (38, .slice b m d), (39, .int .i64 m), (40, .int .i64 i)]) (fun _ => [SA none 4 (.slice a n c) n (itemRow w x.items), SA none 4 (.slice b m d) m (kidRow x.kids), Box r1 88 [.int .i64 x.level, .slice a n c, .slice b m d], F]) (fun i => i ≤ m ∧ ∀ q, q < i → 1 ≤ (x.kids.getD q default).addr ∧ (x.kids.getD q default).addr ≤ 2047) (fun i => m - i) 0 ⟨by omega, fun q hq => by omega⟩ (by repeat (first | exact Ent.nil | refine Ent.per (by repeat (first | with_reducible exact Sel.here | with_reducible apply Sel.there)) ?_ | refine Ent.cons (by repeat (first | with_reducible exact Sel.here | with_reducible apply Sel.there)) ?_)) ?_
    rintro i ⟨hi, hq⟩ next
    refine go_ ?_
    refine s_if (fun h => ?_) (fun h => ?_)
    · have hi2 : i < m := by omega
      refine go_ ?_
      refine s_alloc fun r6 => ?_
      refine go_ ?_
      refine s_call (sp := (by repeat (first | exact Split.nil | apply Split.perx (by repeat (first | with_reducible exact Sel.here | with_reducible apply Sel.there)) (by infer_instance) | apply Split.cons (by repeat (first | with_reducible exact Sel.here | with_reducible apply Sel.there))))) (hs := nwithin_c (x.kids.getD i default).addr 1 2047) (h := ?_)
      rintro v Bs ⟨rfl, rfl⟩
      cases hw : decide (1 ≤ (x.kids.getD i default).addr ∧ (x.kids.getD i default).addr ≤ 2047) with
      | false =>
        have hw2 := of_decide_eq_false hw
        refine go_ ?_
        exact s_ret1 (rs := [.tmp 2]) Tryz.func73 rfl (by intro j; refine RVS.tmp _ rfl ?_; exact RVS.nil) (⟨by unfold nodeOk; rw [if_neg h0, decide_eq_false (p := ∀ q, _ → _)]; rfl; intro hh; exact hw2 (hh i (by omega)), rfl⟩) (by repeat (first | exact Ent.nil | refine Ent.per (by repeat (first | with_reducible exact Sel.here | with_reducible apply Sel.there)) ?_ | refine Ent.cons (by repeat (first | with_reducible exact Sel.here | with_reducible apply Sel.there)) ?_))
      | true =>
        have hw2 := of_decide_eq_true hw
        refine go_ ?_
        exact s_entF (by repeat (first | exact Ent.nil | refine Ent.per (by repeat (first | with_reducible exact Sel.here | with_reducible apply Sel.there)) ?_ | refine Ent.cons (by repeat (first | with_reducible exact Sel.here | with_reducible apply Sel.there)) ?_)) (s_keep _ (next (i + 1) ⟨by omega, fun q hq2 => if e : q < i then hq q e else (by rw [show q = i by omega]; exact hw2)⟩ (by omega)))
    · have : i = m := by omega
      subst this
      have hA : decide (∀ q, q < x.kids.length → 1 ≤ (x.kids.getD q default).addr ∧ (x.kids.getD q default).addr ≤ 2047) = true := decide_eq_true (by rw [hm]; exact hq)
      refine go_ ?_
      refine s_call (sp := (by repeat (first | exact Split.nil | apply Split.perx (by repeat (first | with_reducible exact Sel.here | with_reducible apply Sel.there)) (by infer_instance) | apply Split.cons (by repeat (first | with_reducible exact Sel.here | with_reducible apply Sel.there))))) (hs := nwithin_c x.level 1 7) (h := ?_)
      rintro v Bs ⟨rfl, rfl⟩
      cases hw : decide (1 ≤ x.level ∧ x.level ≤ 7) with
      | false =>
        refine go_ ?_
        exact s_ret1 (rs := [.tmp 2]) Tryz.func73 rfl (by intro j; refine RVS.tmp _ rfl ?_; exact RVS.nil) (⟨by unfold nodeOk; rw [if_neg h0, hA, hw]; rfl, rfl⟩) (by repeat (first | exact Ent.nil | refine Ent.per (by repeat (first | with_reducible exact Sel.here | with_reducible apply Sel.there)) ?_ | refine Ent.cons (by repeat (first | with_reducible exact Sel.here | with_reducible apply Sel.there)) ?_))
      | true =>
        refine go_ ?_
        cases hk0 : ((n : Int) == 0) with
        | false =>
          have hk1 := ne_of_beq_false hk0
          refine go_ ?_
          exact s_ret1 (rs := [.tmp 2]) Tryz.func73 rfl (by intro j; refine RVS.tmp _ rfl ?_; exact RVS.nil) (⟨by unfold nodeOk; rw [if_neg h0, hA, hw, decide_eq_false (p := x.items.length = 0) (by omega)]; rfl, rfl⟩) (by repeat (first | exact Ent.nil | refine Ent.per (by repeat (first | with_reducible exact Sel.here | with_reducible apply Sel.there)) ?_ | refine Ent.cons (by repeat (first | with_reducible exact Sel.here | with_reducible apply Sel.there)) ?_))
        | true =>
          have hk1 := eq_of_beq hk0
          refine go_ ?_
          refine s_call (sp := (by repeat (first | exact Split.nil | apply Split.perx (by repeat (first | with_reducible exact Sel.here | with_reducible apply Sel.there)) (by infer_instance) | apply Split.cons (by repeat (first | with_reducible exact Sel.here | with_reducible apply Sel.there))))) (hs := nwithin_c (i : Int) 2 12) (h := ?_)
          rintro v Bs ⟨rfl, rfl⟩
          have hB : decide (2 ≤ x.kids.length ∧ x.kids.length ≤ 12) = decide (2 ≤ (i : Int) ∧ (i : Int) ≤ 12) := decide_eq_decide.2 (by omega)
          cases hw2 : decide (2 ≤ (i : Int) ∧ (i : Int) ≤ 12) with
          | false =>
            refine go_ ?_
            exact s_ret1 (rs := [.tmp 2]) Tryz.func73 rfl (by intro j; refine RVS.tmp _ rfl ?_; exact RVS.nil) (⟨by unfold nodeOk; rw [if_neg h0, hA, hw, hB, hw2, decide_eq_true (p := x.items.length = 0) (by omega)]; rfl, rfl⟩) (by repeat (first | exact Ent.nil | refine Ent.per (by repeat (first | with_reducible exact Sel.here | with_reducible apply Sel.there)) ?_ | refine Ent.cons (by repeat (first | with_reducible exact Sel.here | with_reducible apply Sel.there)) ?_))
          | true =>
            refine go_ ?_
            refine s_call (sp := (by repeat (first | exact Split.nil | apply Split.perx (by repeat (first | with_reducible exact Sel.here | with_reducible apply Sel.there)) (by infer_instance) | apply Split.cons (by repeat (first | with_reducible exact Sel.here | with_reducible apply Sel.there))))) (hs := risesK_c (a := b) (n := i) (c := d) (row := kidRow x.kids) x.kids hm (fun j hj => ⟨_, rfl, inferInstance⟩) hm2) (h := ?_)
            rintro v Bs ⟨rfl, rfl⟩
            refine go_ ?_
            exact s_ret1 (rs := [.tmp 2]) Tryz.func73 rfl (by intro j; refine RVS.tmp _ rfl ?_; exact RVS.nil) (⟨by unfold nodeOk; rw [if_neg h0, hA, hw, hB, hw2, decide_eq_true (p := x.items.length = 0) (by omega)]; rfl, rfl⟩) (by repeat (first | exact Ent.nil | refine Ent.per (by repeat (first | with_reducible exact Sel.here | with_reducible apply Sel.there)) ?_ | refine Ent.cons (by repeat (first | with_reducible exact Sel.here | with_reducible apply Sel.there)) ?_))
end Go.Proofs.YtgbbcpfnmkeijaaGreat
/- node.seek over items and kids. -/
namespace Go.Proofs.YtgbbcpfnmkeijaaGreat
open Go.Cam
set_option maxRecDepth 100000
abbrev Key.row (k : Key) : List Value := [.int .i64 k.obj, .int .i64 k.kind, .int .i64 k.off]
theorem seek1_c (x k : Key) (v : Value) [OneV v] (rk : Nat) : Ctr Tryz.prog 88 [.agg #[.int .i64 x.obj, .int .i64 x.kind, .int .i64 x.off, v], .pointer (some ⟨rk, 0, none⟩)] [Box rk 49 k.row] (fun r Bs => r = .bool (x.lt k) ∧ Bs = [Box rk 49 k.row]) := by
  refine s_enter 8 [(0, _), (1, _)] (fun F => [_, F]) Tryz.func88 fun F => ?_
  refine go_ ?_
  refine s_box fun r1 => ?_
  refine go_ ?_
  refine s_call (sp := (by repeat (first | exact Split.nil | apply Split.perx (by repeat (first | with_reducible exact Sel.here | with_reducible apply Sel.there)) (by infer_instance) | apply Split.cons (by repeat (first | with_reducible exact Sel.here | with_reducible apply Sel.there))))) (hs := less_ok x k) (h := ?_)
  rintro r Bs ⟨rfl, rfl⟩
  refine go_ ?_
  exact s_ret1 (rs := [.tmp 3]) Tryz.func88 rfl (by intro j; refine RVS.tmp _ rfl ?_; exact RVS.nil) (⟨rfl, rfl⟩) (by repeat (first | exact Ent.nil | refine Ent.per (by repeat (first | with_reducible exact Sel.here | with_reducible apply Sel.there)) ?_ | refine Ent.cons (by repeat (first | with_reducible exact Sel.here | with_reducible apply Sel.there)) ?_))
theorem seek2_c (x k : Key) (v : Value) [OneV v] (rk : Nat) : Ctr Tryz.prog 90 [.agg #[.int .i64 x.obj, .int .i64 x.kind, .int .i64 x.off, v], .pointer (some ⟨rk, 0, none⟩)] [Box rk 49 k.row] (fun r Bs => r = .bool (!(k.lt x)) ∧ Bs = [Box rk 49 k.row]) := by
  refine s_enter 9 [(0, _), (1, _)] (fun F => [_, F]) Tryz.func90 fun F => ?_
  refine go_ ?_
  refine s_box fun r1 => ?_
  refine go_ ?_
  refine s_call (sp := (by repeat (first | exact Split.nil | apply Split.perx (by repeat (first | with_reducible exact Sel.here | with_reducible apply Sel.there)) (by infer_instance) | apply Split.cons (by repeat (first | with_reducible exact Sel.here | with_reducible apply Sel.there))))) (hs := less_ok k x) (h := ?_)
  rintro r Bs ⟨rfl, rfl⟩
  refine go_ ?_
  exact s_ret1 (rs := [.tmp 3]) Tryz.func90 rfl (by intro j; refine RVS.tmp _ rfl ?_; exact RVS.nil) (⟨rfl, rfl⟩) (by repeat (first | exact Ent.nil | refine Ent.per (by repeat (first | with_reducible exact Sel.here | with_reducible apply Sel.there)) ?_ | refine Ent.cons (by repeat (first | with_reducible exact Sel.here | with_reducible apply Sel.there)) ?_))
def seekN (p : Nat → Bool) : Nat → Nat → Nat
  | 0, i => i
  | m + 1, i => if p i then seekN p m (i + 1) else i
set_option maxHeartbeats 4000000 in
theorem seekI_c {a : Option Addr} {n c : Nat} {w : Nat → Option Addr × Nat} (l : List Item) (hl : l.length = n) (k : Key) (rk : Nat) (hn : n < 1000000) : Ctr Tryz.prog 87 [.slice a n c, .func (.func 88) #[] #[.pointer (some ⟨rk, 0, none⟩)]] [SA none 4 (.slice a n c) n (itemRow w l), Box rk 49 k.row] (fun r Bs => r = .int .i64 (seekN (fun i => (l.getD i default).key.lt k) n 0 : Nat) ∧ Bs = [Box rk 49 k.row]) := by
  refine s_enter 22 [(0, _), (1, _)] (fun F => [_, _, F]) Tryz.func87 fun F => ?_
  refine go_ ?_
  refine s_loop (fun i : Nat => [(1, .func (.func 88) #[] #[.pointer (some ⟨rk, 0, none⟩)]), (0, .slice a n c), (7, .slice a n c), (8, .int .i64 n), (9, .int .i64 i)]) (fun _ => [SA none 4 (.slice a n c) n (itemRow w l), Box rk 49 k.row, F]) (fun i => i ≤ n ∧ seekN (fun i => (l.getD i default).key.lt k) n 0 = seekN (fun i => (l.getD i default).key.lt k) (n - i) i) (fun i => n - i) 0 ⟨by omega, rfl⟩ (by repeat (first | exact Ent.nil | refine Ent.per (by repeat (first | with_reducible exact Sel.here | with_reducible apply Sel.there)) ?_ | refine Ent.cons (by repeat (first | with_reducible exact Sel.here | with_reducible apply Sel.there)) ?_)) ?_
  rintro i ⟨hi, hq⟩ next
  refine go_ ?_
  refine s_if (fun h => ?_) (fun h => ?_)
  · have hi2 : i < n := by omega
    obtain ⟨m, hm⟩ : ∃ m, n - i = m + 1 := ⟨n - i - 1, by omega⟩
    rw [hm] at hq
    refine go_ ?_
    refine s_alloc fun r6 => ?_
    refine go_ ?_
    refine s_step (st_callC (sp := (by repeat (first | exact Split.nil | apply Split.perx (by repeat (first | with_reducible exact Sel.here | with_reducible apply Sel.there)) (by infer_instance) | apply Split.cons (by repeat (first | with_reducible exact Sel.here | with_reducible apply Sel.there))))) (hs := seek1_c (l.getD i default).key k (.slice (w i).1 (l.getD i default).val.length (w i).2) rk)) ?_
    rintro r Bs ⟨Cs, ⟨rfl, rfl⟩, rfl⟩
    cases hp : (l.getD i default).key.lt k with
    | false =>
      refine go_ ?_
      exact s_ret1 (rs := [.tmp 4]) Tryz.func87 rfl (by intro j; refine RVS.tmp _ rfl ?_; exact RVS.nil) (⟨by rw [hq, seekN, if_neg (by rw [hp]; decide)], rfl⟩) (by repeat (first | exact Ent.nil | refine Ent.per (by repeat (first | with_reducible exact Sel.here | with_reducible apply Sel.there)) ?_ | refine Ent.cons (by repeat (first | with_reducible exact Sel.here | with_reducible apply Sel.there)) ?_))
    | true =>
      refine go_ ?_
      exact s_entF (by repeat (first | exact Ent.nil | refine Ent.per (by repeat (first | with_reducible exact Sel.here | with_reducible apply Sel.there)) ?_ | refine Ent.cons (by repeat (first | with_reducible exact Sel.here | with_reducible apply Sel.there)) ?_)) (s_keep _ (next (i + 1) ⟨by omega, by rw [hq, seekN, if_pos hp, show n - (i + 1) = m by omega]⟩ (by omega)))
  · have : i = n := by omega
    subst this
    refine go_ ?_
    exact s_ret1 (rs := [.tmp 4]) Tryz.func87 rfl (by intro j; refine RVS.tmp _ rfl ?_; exact RVS.nil) (⟨by rw [hq, Nat.sub_self]; rfl, rfl⟩) (by repeat (first | exact Ent.nil | refine Ent.per (by repeat (first | with_reducible exact Sel.here | with_reducible apply Sel.there)) ?_ | refine Ent.cons (by repeat (first | with_reducible exact Sel.here | with_reducible apply Sel.there)) ?_))
set_option maxHeartbeats 4000000 in
theorem seekK_c {a : Option Addr} {n c : Nat} (l : List Kid) (hl : l.length = n) (k : Key) (rk : Nat) (hn : n < 1000000) : Ctr Tryz.prog 89 [.slice a n c, .func (.func 90) #[] #[.pointer (some ⟨rk, 0, none⟩)]] [SA none 4 (.slice a n c) n (kidRow l), Box rk 49 k.row] (fun r Bs => r = .int .i64 (seekN (fun i => !(k.lt (l.getD i default).key)) n 0 : Nat) ∧ Bs = [Box rk 49 k.row]) := by
  refine s_enter 22 [(0, _), (1, _)] (fun F => [_, _, F]) Tryz.func89 fun F => ?_
  refine go_ ?_
  refine s_loop (fun i : Nat => [(1, .func (.func 90) #[] #[.pointer (some ⟨rk, 0, none⟩)]), (0, .slice a n c), (7, .slice a n c), (8, .int .i64 n), (9, .int .i64 i)]) (fun _ => [SA none 4 (.slice a n c) n (kidRow l), Box rk 49 k.row, F]) (fun i => i ≤ n ∧ seekN (fun i => !(k.lt (l.getD i default).key)) n 0 = seekN (fun i => !(k.lt (l.getD i default).key)) (n - i) i) (fun i => n - i) 0 ⟨by omega, rfl⟩ (by repeat (first | exact Ent.nil | refine Ent.per (by repeat (first | with_reducible exact Sel.here | with_reducible apply Sel.there)) ?_ | refine Ent.cons (by repeat (first | with_reducible exact Sel.here | with_reducible apply Sel.there)) ?_)) ?_
  rintro i ⟨hi, hq⟩ next
  refine go_ ?_
  refine s_if (fun h => ?_) (fun h => ?_)
  · have hi2 : i < n := by omega
    obtain ⟨m, hm⟩ : ∃ m, n - i = m + 1 := ⟨n - i - 1, by omega⟩
    rw [hm] at hq
    refine go_ ?_
    refine s_alloc fun r6 => ?_
    refine go_ ?_
    refine s_step (st_callC (sp := (by repeat (first | exact Split.nil | apply Split.perx (by repeat (first | with_reducible exact Sel.here | with_reducible apply Sel.there)) (by infer_instance) | apply Split.cons (by repeat (first | with_reducible exact Sel.here | with_reducible apply Sel.there))))) (hs := seek2_c (l.getD i default).key k (.int .i64 (l.getD i default).addr) rk)) ?_
    rintro r Bs ⟨Cs, ⟨rfl, rfl⟩, rfl⟩
    cases hp : !(k.lt (l.getD i default).key) with
    | false =>
      refine go_ ?_
      exact s_ret1 (rs := [.tmp 4]) Tryz.func89 rfl (by intro j; refine RVS.tmp _ rfl ?_; exact RVS.nil) (⟨by rw [hq, seekN, if_neg (by rw [hp]; decide)], rfl⟩) (by repeat (first | exact Ent.nil | refine Ent.per (by repeat (first | with_reducible exact Sel.here | with_reducible apply Sel.there)) ?_ | refine Ent.cons (by repeat (first | with_reducible exact Sel.here | with_reducible apply Sel.there)) ?_))
    | true =>
      refine go_ ?_
      exact s_entF (by repeat (first | exact Ent.nil | refine Ent.per (by repeat (first | with_reducible exact Sel.here | with_reducible apply Sel.there)) ?_ | refine Ent.cons (by repeat (first | with_reducible exact Sel.here | with_reducible apply Sel.there)) ?_)) (s_keep _ (next (i + 1) ⟨by omega, by rw [hq, seekN, if_pos hp, show n - (i + 1) = m by omega]⟩ (by omega)))
  · have : i = n := by omega
    subst this
    refine go_ ?_
    exact s_ret1 (rs := [.tmp 4]) Tryz.func89 rfl (by intro j; refine RVS.tmp _ rfl ?_; exact RVS.nil) (⟨by rw [hq, Nat.sub_self]; rfl, rfl⟩) (by repeat (first | exact Ent.nil | refine Ent.per (by repeat (first | with_reducible exact Sel.here | with_reducible apply Sel.there)) ?_ | refine Ent.cons (by repeat (first | with_reducible exact Sel.here | with_reducible apply Sel.there)) ?_))
end Go.Proofs.YtgbbcpfnmkeijaaGreat
/- node.Seek. -/
namespace Go.Proofs.YtgbbcpfnmkeijaaGreat
open Go.Cam
set_option maxRecDepth 100000
def seekX (x : Node) (k : Key) : Nat :=
  if x.level = 0 then seekN (fun i => (x.items.getD i default).key.lt k) x.items.length 0
  else seekN (fun i => !(k.lt (x.kids.getD i default).key)) x.kids.length 0 - 1
def seekHit (x : Node) (k : Key) : Bool :=
  if x.level = 0 then decide (seekX x k < x.items.length) && decide ((x.items.getD (seekX x k) default).key = k)
  else decide (seekX x k < x.kids.length) && decide ((x.kids.getD (seekX x k) default).key = k)
theorem seekN_le (p : Nat → Bool) : ∀ m i, seekN p m i ≤ i + m
  | 0, i => Nat.le_refl _
  | m + 1, i => by
    unfold seekN
    cases p i with
    | false => simp
    | true => have := seekN_le p m (i + 1); simp; omega
theorem eql27 (x y : Key) (w : World) : (binOp .eql 49 (.agg #[.int .i64 x.obj, .int .i64 x.kind, .int .i64 x.off]) (.agg #[.int .i64 y.obj, .int .i64 y.kind, .int .i64 y.off])).run Tryz.prog w = .ok (.bool (decide (x = y))) w := by
  obtain ⟨a, b, c⟩ := x; obtain ⟨d, e, f⟩ := y
  go_simp
  by_cases h1 : a = d <;> by_cases h2 : b = e <;> by_cases h3 : c = f <;> simp [h1, h2, h3]
theorem nql27 (x y : Key) (w : World) : (binOp .neq 49 (.agg #[.int .i64 x.obj, .int .i64 x.kind, .int .i64 x.off]) (.agg #[.int .i64 y.obj, .int .i64 y.kind, .int .i64 y.off])).run Tryz.prog w = .ok (.bool (!(decide (x = y)))) w := by
  obtain ⟨a, b, c⟩ := x; obtain ⟨d, e, f⟩ := y
  go_simp
  by_cases h1 : a = d <;> by_cases h2 : b = e <;> by_cases h3 : c = f <;> simp [h1, h2, h3]
instance eq27k (x y : Key) : EQ Tryz.prog 49 (.agg #[.int .i64 x.obj, .int .i64 x.kind, .int .i64 x.off]) (.agg #[.int .i64 y.obj, .int .i64 y.kind, .int .i64 y.off]) (decide (x = y)) := ⟨fun op _ _ => by cases op <;> kernel_rfl, eql27 x y, nql27 x y⟩
set_option maxHeartbeats 8000000 in
theorem nseek_c (x : Node) (k : Key) {a b : Option Addr} {n c m d : Nat} {w : Nat → Option Addr × Nat} (hn : x.items.length = n) (hm : x.kids.length = m) (hn2 : n < 1000000) (hm2 : m < 1000000) : Ctr Tryz.prog 49 [nodeV x.level a n c b m d, k.v] [SA none 4 (.slice a n c) n (itemRow w x.items), SA none 4 (.slice b m d) m (kidRow x.kids)] (fun r Bs => r = .tuple #[.int .i64 (seekX x k : Nat), .bool (seekHit x k)] ∧ Bs = []) := by
  refine s_enter 54 [(0, _), (1, _)] (fun F => [_, _, F]) Tryz.func49 fun F => ?_
  refine go_ ?_
  refine s_box fun r1 => ?_
  refine s_box fun r2 => ?_
  refine go_ ?_
  refine s_ieq (fun h0 => ?_) (fun h0 => ?_)
  · refine go_ ?_
    refine s_look lk_mkf1 ?_
    refine go_ ?_
    refine s_call (sp := (by repeat (first | exact Split.nil | apply Split.perx (by repeat (first | with_reducible exact Sel.here | with_reducible apply Sel.there)) (by infer_instance) | apply Split.cons (by repeat (first | with_reducible exact Sel.here | with_reducible apply Sel.there))))) (hs := seekI_c (a := a) (n := n) (c := c) (w := w) x.items hn k r2 hn2) (h := ?_)
    rintro v Bs ⟨rfl, rfl⟩
    have e0 : seekN (fun i => (x.items.getD i default).key.lt k) n 0 = seekX x k := by unfold seekX; rw [if_pos h0, hn]
    rw [e0]
    have hle : seekX x k ≤ n := by rw [← e0]; have := seekN_le (fun i => (x.items.getD i default).key.lt k) n 0; omega
    refine go_ ?_
    refine s_drawN 0 [.q 0, .q 1, .q 2, .q 3, .q 4, .q 5, .q 6, .q 7, .q 8, .q 9, .q 10, .q 11, .q 12, .q 13, .q 14, .q 15, .q 16, .q 17] ?_
    refine do_ ?_
    cases hd : decide (((seekX x k : Nat) : Int) < (n : Int)) with
    | false =>
      have hd2 := of_decide_eq_false hd
      refine do_ ?_
      refine go_ ?_
      exact s_rett (rs := [.tmp 4, .tmp 5]) (vs := [_, _]) Tryz.func49 rfl (by intro j; refine RVS.tmp _ rfl ?_; refine RVS.tmp _ rfl ?_; exact RVS.nil) rfl (⟨by unfold seekHit; rw [if_pos h0, decide_eq_false (p := seekX x k < x.items.length) (by omega)]; rfl, rfl⟩) (by repeat (first | exact Ent.nil | refine Ent.per (by repeat (first | with_reducible exact Sel.here | with_reducible apply Sel.there)) ?_ | refine Ent.cons (by repeat (first | with_reducible exact Sel.here | with_reducible apply Sel.there)) ?_))
    | true =>
      have hd2 := of_decide_eq_true hd
      refine do_ ?_
      refine d_look rfl (lk_ldeN (sz := 4) (fo := 0) (n := n) (i := seekX x k) (v := .slice a n c) (vs := [.int .i64 (x.items.getD (seekX x k) default).key.obj, .int .i64 (x.items.getD (seekX x k) default).key.kind, .int .i64 (x.items.getD (seekX x k) default).key.off]) (s := (by repeat (first | with_reducible exact SelR.here | with_reducible apply SelR.there)))) ?_
      refine do_ ?_
      refine d_look rfl lk_eqs ?_
      refine do_ ?_
      refine go_ ?_
      exact s_rett (rs := [.tmp 4, .tmp 5]) (vs := [_, _]) Tryz.func49 rfl (by intro j; refine RVS.tmp _ rfl ?_; refine RVS.tmp _ rfl ?_; exact RVS.nil) rfl (⟨by unfold seekHit; rw [if_pos h0, decide_eq_true (p := seekX x k < x.items.length) (by omega)]; rfl, rfl⟩) (by repeat (first | exact Ent.nil | refine Ent.per (by repeat (first | with_reducible exact Sel.here | with_reducible apply Sel.there)) ?_ | refine Ent.cons (by repeat (first | with_reducible exact Sel.here | with_reducible apply Sel.there)) ?_))
  · refine go_ ?_
    refine s_look lk_mkf1 ?_
    refine go_ ?_
    refine s_call (sp := (by repeat (first | exact Split.nil | apply Split.perx (by repeat (first | with_reducible exact Sel.here | with_reducible apply Sel.there)) (by infer_instance) | apply Split.cons (by repeat (first | with_reducible exact Sel.here | with_reducible apply Sel.there))))) (hs := seekK_c (a := b) (n := m) (c := d) x.kids hm k r2 hm2) (h := ?_)
    rintro v Bs ⟨rfl, rfl⟩
    obtain ⟨z, hz⟩ : ∃ z, seekN (fun i => !(k.lt (x.kids.getD i default).key)) m 0 = z := ⟨_, rfl⟩
    have e0 : z - 1 = seekX x k := by unfold seekX; rw [if_neg h0, hm, hz]
    rw [hz]
    have hle : seekX x k ≤ m := by rw [← e0, ← hz]; have := seekN_le (fun i => !(k.lt (x.kids.getD i default).key)) m 0; omega
    have hzm : z ≤ m := by rw [← hz]; have := seekN_le (fun i => !(k.lt (x.kids.getD i default).key)) m 0; omega
    refine go_ ?_
    refine s_look (lk_max ((seekX x k : Nat) : Int)) ?_
    refine go_ ?_
    refine s_drawN 0 [.q 0, .q 1, .q 2, .q 3, .q 4, .q 5, .q 6, .q 7, .q 8, .q 9, .q 10, .q 11, .q 12, .q 13, .q 14, .q 15, .q 16, .q 17] ?_
    refine do_ ?_
    cases hd : decide (((seekX x k : Nat) : Int) < (m : Int)) with
    | false =>
      have hd2 := of_decide_eq_false hd
      refine do_ ?_
      refine go_ ?_
      exact s_rett (rs := [.tmp 4, .tmp 5]) (vs := [_, _]) Tryz.func49 rfl (by intro j; refine RVS.tmp _ rfl ?_; refine RVS.tmp _ rfl ?_; exact RVS.nil) rfl (⟨by unfold seekHit; rw [if_neg h0, decide_eq_false (p := seekX x k < x.kids.length) (by omega)]; rfl, rfl⟩) (by repeat (first | exact Ent.nil | refine Ent.per (by repeat (first | with_reducible exact Sel.here | with_reducible apply Sel.there)) ?_ | refine Ent.cons (by repeat (first | with_reducible exact Sel.here | with_reducible apply Sel.there)) ?_))
    | true =>
      have hd2 := of_decide_eq_true hd
      refine do_ ?_
      refine d_look rfl (lk_ldeN (sz := 4) (fo := 0) (n := m) (i := seekX x k) (v := .slice b m d) (vs := [.int .i64 (x.kids.getD (seekX x k) default).key.obj, .int .i64 (x.kids.getD (seekX x k) default).key.kind, .int .i64 (x.kids.getD (seekX x k) default).key.off]) (s := (by repeat (first | with_reducible exact SelR.here | with_reducible apply SelR.there)))) ?_
      refine do_ ?_
      refine d_look rfl lk_eqs ?_
      refine do_ ?_
      refine go_ ?_
      exact s_rett (rs := [.tmp 4, .tmp 5]) (vs := [_, _]) Tryz.func49 rfl (by intro j; refine RVS.tmp _ rfl ?_; refine RVS.tmp _ rfl ?_; exact RVS.nil) rfl (⟨by unfold seekHit; rw [if_neg h0, decide_eq_true (p := seekX x k < x.kids.length) (by omega)]; rfl, rfl⟩) (by repeat (first | exact Ent.nil | refine Ent.per (by repeat (first | with_reducible exact Sel.here | with_reducible apply Sel.there)) ?_ | refine Ent.cons (by repeat (first | with_reducible exact Sel.here | with_reducible apply Sel.there)) ?_))
end Go.Proofs.YtgbbcpfnmkeijaaGreat
/- pool.own: a node of one's own. -/
namespace Go.Proofs.YtgbbcpfnmkeijaaGreat
open Go.Cam
set_option maxRecDepth 100000
theorem itemRow_one (w : Nat → Option Addr × Nat) (l : List Item) : ∀ n, (flat n (itemRow w l)).all one = true
  | 0 => rfl
  | n + 1 => by
    have ih := itemRow_one w l n
    unfold flat at ih ⊢
    rw [List.range_succ, List.flatMap_append, List.all_append, ih]; rfl
theorem kidRow_one (l : List Kid) : ∀ n, (flat n (kidRow l)).all one = true
  | 0 => rfl
  | n + 1 => by
    have ih := kidRow_one l n
    unfold flat at ih ⊢
    rw [List.range_succ, List.flatMap_append, List.all_append, ih]; rfl
set_option maxHeartbeats 8000000 in
theorem pown_c (x : Node) {A1 A2 : HP} {a b : Option Addr} {n c m d : Nat} {w : Nat → Option Addr × Nat} [Rd A1 4 (.slice a n c) n (itemRow w x.items)] [Rd A2 4 (.slice b m d) m (kidRow x.kids)] (hn : x.items.length = n) (hm : x.kids.length = m) (hn2 : n < 1000000) (hm2 : m < 1000000) (hv : ∀ i, i < n → (x.items.getD i default).val.length < 1000000) : Ctr Tryz.prog 74 [nodeV x.level a n c b m d] [A1, A2, Fam n (itemFam w x.items)]
    (fun r Bs => ∃ a' c' b' d' w', r = nodeV x.level a' n c' b' m d' ∧ Bs = [SO 51 4 (.slice a' n c') n (itemRow w' x.items), Fam n (itemFam w' x.items), SO 99 4 (.slice b' m d') m (kidRow x.kids), A1, A2]) := by
  refine s_enter 31 [(0, _)] (fun F => [_, _, _, F]) Tryz.func74 fun F => ?_
  refine go_ ?_
  refine s_box fun r1 => ?_
  refine s_alloc fun r2 => ?_
  refine go_ ?_
  refine s_call (sp := (by repeat (first | exact Split.nil | apply Split.perx (by repeat (first | with_reducible exact Sel.here | with_reducible apply Sel.there)) (by infer_instance) | apply Split.cons (by repeat (first | with_reducible exact Sel.here | with_reducible apply Sel.there))))) (hs := cloneI_c (A := A1) (a := a) (n := n) (c := c) (row := itemRow w x.items) (itemRow_one w x.items n) hn2) (h := ?_)
  rintro v Bs ⟨a2, c2, rfl, rfl⟩
  refine go_ ?_
  refine s_fam0 (F := itemFam w x.items) ?_
  refine s_loop (fun q : Nat × (Nat → Option Addr × Nat) => [(1, .pointer (some ⟨r1, 0, none⟩)), (2, .pointer (some ⟨r2, 0, none⟩)), (10, .slice a2 n c2), (11, .int .i64 n), (12, .int .i64 q.1)])
    (fun q => [SO 51 4 (.slice a2 n c2) n (itemRow q.2 x.items), Fam q.1 (itemFam q.2 x.items), A1, Box r2 88 [.int .i64 0, .slice none 0 0, .slice none 0 0], Box r1 88 [.int .i64 x.level, .slice a2 n c2, .slice b m d], A2, Fam n (itemFam w x.items), F]) (fun q => q.1 ≤ n ∧ ∀ j, q.1 ≤ j → q.2 j = w j) (fun q => n - q.1) (0, w) ⟨Nat.zero_le _, fun _ _ => rfl⟩ (by repeat (first | exact Ent.nil | refine Ent.per (by repeat (first | with_reducible exact Sel.here | with_reducible apply Sel.there)) ?_ | refine Ent.cons (by repeat (first | with_reducible exact Sel.here | with_reducible apply Sel.there)) ?_)) ?_
  rintro ⟨i, u⟩ ⟨hi, hq⟩ next
  dsimp only at hi hq next ⊢
  refine go_ ?_
  refine s_if (fun h => ?_) (fun h => ?_)
  · have hi2 : i < n := by omega
    refine go_ ?_
    refine s_alloc fun r4 => ?_
    refine go_ ?_
    refine s_get i (F := itemFam w x.items) (m := n) (by repeat (first | with_reducible exact Sel.here | with_reducible apply Sel.there)) hi2 ?_
    refine s_open (B := BS (.slice (u i).1 (x.items.getD i default).val.length (u i).2) (x.items.getD i default).val) (fun H M q => by rw [hq i (Nat.le_refl _)]; exact q) ?_
    refine s_front (a := SO 51 4 (.slice a2 n c2) n (itemRow u x.items)) (by repeat (first | with_reducible exact Sel.here | with_reducible apply Sel.there)) ?_
    refine s_front (a := BS (.slice (u i).1 (x.items.getD i default).val.length (u i).2) (x.items.getD i default).val) (by repeat (first | with_reducible exact Sel.here | with_reducible apply Sel.there)) ?_
    refine s_know (a := SO 51 4 (.slice a2 n c2) n (itemRow u x.items)) (.there .here) (rd_els (n := n) (sz := 4) (v := .slice a2 n c2) (row := itemRow u x.items) (by omega)) fun hel => ?_
    refine s_drawN 2 [.q 0, .q 1, .q 2, .q 3, .q 4, .s 5, .q 6, .q 7, .s 8] ?_
    refine do_ ?_
    refine d_step rfl (st_call (sp := (by repeat (first | exact Split.nil | apply Split.perx (by repeat (first | with_reducible exact Sel.here | with_reducible apply Sel.there)) (by infer_instance) | apply Split.cons (by repeat (first | with_reducible exact Sel.here | with_reducible apply Sel.there))))) (hs := cloneB_c (A := BS (.slice (u i).1 (x.items.getD i default).val.length (u i).2) (x.items.getD i default).val) (row := byR (x.items.getD i default).val) (byR_one _ _) (hv i hi2))) ?_
    rintro v Bs ⟨Cs, ⟨a3, c3, rfl, rfl⟩, rfl⟩
    refine do_ ?_
    refine d_look rfl (lk_ixq (i := i) hel) ?_
    refine do_ ?_
    refine d_look rfl (lk_faeq (i := i) (fo := 0) hel) ?_
    refine do_ ?_
    refine d_stepU rfl (st_steO (i := i) (fo := 3) (vs := [.slice a3 (x.items.getD i default).val.length c3]) (m := n) (v := .slice a2 n c2) (e := 51) (row := itemRow u x.items) (by repeat (first | with_reducible exact Sel.here | with_reducible apply Sel.there))) ?_
    rintro v Bs rfl
    refine do_ ?_
    refine go_ ?_
    refine s_open (SO.cg (itemRow (wset u i (a3, c3)) x.items) fun q hq2 => ?_) ?_
    · unfold rput wset
      by_cases e : q = i
      · subst e; rw [if_pos rfl]; dsimp only [itemRow]; rw [if_pos rfl]; rfl
      · rw [if_neg e]; dsimp only [itemRow]; rw [if_neg e]
    refine s_front (a := Fam i (itemFam u x.items)) (by repeat (first | with_reducible exact Sel.here | with_reducible apply Sel.there)) (s_open (Fam.cg (itemFam (wset u i (a3, c3)) x.items) fun q hq2 H M hh => ?_) ?_)
    · unfold itemFam wset at *
      rw [if_neg (by omega)]; exact hh
    refine s_fzO (e := 5) (v := .slice a3 (x.items.getD i default).val.length c3) (by repeat (first | with_reducible exact Sel.here | with_reducible apply Sel.there)) ?_
    refine s_open (B := itemFam (wset u i (a3, c3)) x.items i) (fun _ _ q => ?_) ?_
    · unfold itemFam wset; rw [if_pos rfl]; exact q
    refine s_famS (m := i) (F := itemFam (wset u i (a3, c3)) x.items) (by repeat (first | with_reducible exact Sel.here | with_reducible apply Sel.there)) (by repeat (first | with_reducible exact Sel.here | with_reducible apply Sel.there)) ?_
    refine go_ ?_
    exact s_entF (by repeat (first | exact Ent.nil | refine Ent.per (by repeat (first | with_reducible exact Sel.here | with_reducible apply Sel.there)) ?_ | refine Ent.cons (by repeat (first | with_reducible exact Sel.here | with_reducible apply Sel.there)) ?_)) (s_keep _ (next (i + 1, wset u i (a3, c3)) ⟨by dsimp only; omega, fun j hj => by dsimp only [wset] at hj ⊢; rw [if_neg (by omega)]; exact hq j (by omega)⟩ (by dsimp only; omega)))
  · have : i = n := by omega
    subst this
    refine go_ ?_
    refine s_call (sp := (by repeat (first | exact Split.nil | apply Split.perx (by repeat (first | with_reducible exact Sel.here | with_reducible apply Sel.there)) (by infer_instance) | apply Split.cons (by repeat (first | with_reducible exact Sel.here | with_reducible apply Sel.there))))) (hs := cloneK_c (A := A2) (a := b) (n := m) (c := d) (row := kidRow x.kids) (kidRow_one x.kids m) hm2) (h := ?_)
    rintro v Bs ⟨b3, d3, rfl, rfl⟩
    refine go_ ?_
    exact s_ret1 (rs := [.cell 2 88]) Tryz.func74 rfl (by intro j; refine RVS.cell _ _ rfl (by repeat (first | with_reducible exact Sel.here | with_reducible apply Sel.there)) (by rfl) ?_; exact RVS.nil) (⟨a2, c2, b3, d3, u, rfl, rfl⟩) (by repeat (first | exact Ent.nil | refine Ent.per (by repeat (first | with_reducible exact Sel.here | with_reducible apply Sel.there)) ?_ | refine Ent.cons (by repeat (first | with_reducible exact Sel.here | with_reducible apply Sel.there)) ?_))
end Go.Proofs.YtgbbcpfnmkeijaaGreat
