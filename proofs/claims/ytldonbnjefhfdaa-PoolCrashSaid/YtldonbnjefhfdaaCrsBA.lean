/- node.within, node.May. -/
import Derived.Test.YtldonbnjefhfdaaCrsAF
import Derived.Test.YtldonbnjefhfdaaCamAM
import Derived.Test.YtldonbnjefhfdaaCrsZ
import Derived.Shelf.SlIterI.Nil
import Derived.Shelf.SortM.Plain
import Derived.Shelf.SortM.SortNone
import Derived.Ground.GgzProg
import Derived.Ground.SlgmProg
import Derived.Test.YtldonbnjefhfdaaProg
namespace Go.Proofs.Ytldonbnjefhfdaa
open Go.Cam
set_option maxRecDepth 100000
theorem nwithin_c (x a b : Int) : Ctr Try.prog 67 [.int .i64 x, .int .i64 a, .int .i64 b] [] (fun v Bs => v = .bool (decide (a ≤ x ∧ x ≤ b)) ∧ Bs = []) := by
  refine s_enter 15 [(0, _), (1, _), (2, _)] (fun F => [F]) Try.func67 fun F => ?_
  refine go_ ?_
  cases h : decide (a ≤ x) with
  | false =>
    have := of_decide_eq_false h
    refine go_ ?_
    exact s_ret1 (rs := [.tmp 6]) Try.func67 rfl (by intro j; refine RVS.tmp _ rfl ?_; exact RVS.nil) (⟨by rw [decide_eq_false]; omega, rfl⟩) (by repeat (first | exact Ent.nil | refine Ent.per (by repeat (first | with_reducible exact Sel.here | with_reducible apply Sel.there)) ?_ | refine Ent.cons (by repeat (first | with_reducible exact Sel.here | with_reducible apply Sel.there)) ?_))
  | true =>
    have := of_decide_eq_true h
    refine go_ ?_
    exact s_ret1 (rs := [.tmp 6]) Try.func67 rfl (by intro j; refine RVS.tmp _ rfl ?_; exact RVS.nil) (⟨by congr 1; exact decide_eq_decide.2 (by omega), rfl⟩) (by repeat (first | exact Ent.nil | refine Ent.per (by repeat (first | with_reducible exact Sel.here | with_reducible apply Sel.there)) ?_ | refine Ent.cons (by repeat (first | with_reducible exact Sel.here | with_reducible apply Sel.there)) ?_))
def nodeOk (x : Node) : Bool :=
  if x.level = 0 then decide (∀ q, q < x.items.length → (x.items.getD q default).val.length ≤ 28) && decide (x.kids.length = 0) && decide (1 ≤ x.items.length ∧ x.items.length ≤ 6) && decide (KeysRise (x.items.map Item.key))
  else decide (∀ q, q < x.kids.length → 1 ≤ (x.kids.getD q default).addr ∧ (x.kids.getD q default).addr ≤ 2047) && decide (1 ≤ x.level ∧ x.level ≤ 7) && decide (x.items.length = 0) && decide (2 ≤ x.kids.length ∧ x.kids.length ≤ 12) && decide (KeysRise (x.kids.map Kid.key))
abbrev nodeV (lv : Int) (a : Option Addr) (n c : Nat) (b : Option Addr) (m d : Nat) : Value := .agg #[.int .i64 lv, .slice a n c, .slice b m d]
set_option maxHeartbeats 8000000 in
theorem nmay_c (x : Node) {a b : Option Addr} {n c m d : Nat} {w : Nat → Option Addr × Nat} (hn : x.items.length = n) (hm : x.kids.length = m) (hn2 : n < 1000000) (hm2 : m < 1000000) (hv : ∀ i, i < n → (x.items.getD i default).val.length < 1000000) : Ctr Try.prog 49 [nodeV x.level a n c b m d] [SA none 4 (.slice a n c) n (itemRow w x.items), SA none 4 (.slice b m d) m (kidRow x.kids)] (fun r Bs => r = .bool (nodeOk x) ∧ Bs = []) := by
  refine s_enter 69 [(0, _)] (fun F => [_, _, F]) Try.func49 fun F => ?_
  refine go_ ?_
  refine s_box fun r1 => ?_
  refine go_ ?_
  refine s_ieq (fun h0 => ?_) (fun h0 => ?_)
  · refine go_ ?_
    refine s_loop (fun i : Nat => [(1, .pointer (some ⟨r1, 0, none⟩)), (11, .slice a n c), (12, .int .i64 n), (13, .int .i64 i)]) (fun _ => [SA none 4 (.slice a n c) n (itemRow w x.items), SA none 4 (.slice b m d) m (kidRow x.kids), Box r1 73 [.int .i64 x.level, .slice a n c, .slice b m d], F]) (fun i => i ≤ n ∧ ∀ q, q < i → (x.items.getD q default).val.length ≤ 28) (fun i => n - i) 0 ⟨by omega, fun q hq => by omega⟩ (by repeat (first | exact Ent.nil | refine Ent.per (by repeat (first | with_reducible exact Sel.here | with_reducible apply Sel.there)) ?_ | refine Ent.cons (by repeat (first | with_reducible exact Sel.here | with_reducible apply Sel.there)) ?_)) ?_
    rintro i ⟨hi, hq⟩ next
    refine go_ ?_
    refine s_if (fun h => ?_) (fun h => ?_)
    · have hi2 : i < n := by omega
      refine go_ ?_
      refine s_alloc fun r6 => ?_
      refine go_ ?_
      refine s_if (fun h2 => ?_) (fun h2 => ?_)
      · refine go_ ?_
        exact s_ret1 (rs := [.tmp 2]) Try.func49 rfl (by intro j; refine RVS.tmp _ rfl ?_; exact RVS.nil) (⟨by unfold nodeOk; rw [if_pos h0, decide_eq_false (p := ∀ q, _ → _)]; rfl; intro hh; have := hh i (by omega); omega, rfl⟩) (by repeat (first | exact Ent.nil | refine Ent.per (by repeat (first | with_reducible exact Sel.here | with_reducible apply Sel.there)) ?_ | refine Ent.cons (by repeat (first | with_reducible exact Sel.here | with_reducible apply Sel.there)) ?_))
      · refine go_ ?_
        exact s_entF (by repeat (first | exact Ent.nil | refine Ent.per (by repeat (first | with_reducible exact Sel.here | with_reducible apply Sel.there)) ?_ | refine Ent.cons (by repeat (first | with_reducible exact Sel.here | with_reducible apply Sel.there)) ?_)) (s_keep _ (next (i + 1) ⟨by omega, fun q hq2 => if e : q < i then hq q e else (by rw [show q = i by omega]; omega)⟩ (by omega)))
    · have : i = n := by omega
      subst this
      have hA : decide (∀ q, q < x.items.length → (x.items.getD q default).val.length ≤ 28) = true := decide_eq_true (by rw [hn]; exact hq)
      refine go_ ?_
      cases hk0 : ((m : Int) == 0) with
      | false =>
        have hk1 := ne_of_beq_false hk0
        refine go_ ?_
        exact s_ret1 (rs := [.tmp 2]) Try.func49 rfl (by intro j; refine RVS.tmp _ rfl ?_; exact RVS.nil) (⟨by unfold nodeOk; rw [if_pos h0, hA, decide_eq_false (p := x.kids.length = 0) (by omega)]; rfl, rfl⟩) (by repeat (first | exact Ent.nil | refine Ent.per (by repeat (first | with_reducible exact Sel.here | with_reducible apply Sel.there)) ?_ | refine Ent.cons (by repeat (first | with_reducible exact Sel.here | with_reducible apply Sel.there)) ?_))
      | true =>
        have hk1 := eq_of_beq hk0
        refine go_ ?_
        refine s_call (sp := (by repeat (first | exact Split.nil | apply Split.perx (by repeat (first | with_reducible exact Sel.here | with_reducible apply Sel.there)) (by infer_instance) | apply Split.cons (by repeat (first | with_reducible exact Sel.here | with_reducible apply Sel.there))))) (hs := nwithin_c (i : Int) 1 6) (h := ?_)
        rintro v Bs ⟨rfl, rfl⟩
        have hB : decide (1 ≤ x.items.length ∧ x.items.length ≤ 6) = decide (1 ≤ (i : Int) ∧ (i : Int) ≤ 6) := decide_eq_decide.2 (by omega)
        cases hw : decide (1 ≤ (i : Int) ∧ (i : Int) ≤ 6) with
        | false =>
          refine go_ ?_
          exact s_ret1 (rs := [.tmp 2]) Try.func49 rfl (by intro j; refine RVS.tmp _ rfl ?_; exact RVS.nil) (⟨by unfold nodeOk; rw [if_pos h0, hA, hB, hw, decide_eq_true (p := x.kids.length = 0) (by omega)]; rfl, rfl⟩) (by repeat (first | exact Ent.nil | refine Ent.per (by repeat (first | with_reducible exact Sel.here | with_reducible apply Sel.there)) ?_ | refine Ent.cons (by repeat (first | with_reducible exact Sel.here | with_reducible apply Sel.there)) ?_))
        | true =>
          refine go_ ?_
          refine s_call (sp := (by repeat (first | exact Split.nil | apply Split.perx (by repeat (first | with_reducible exact Sel.here | with_reducible apply Sel.there)) (by infer_instance) | apply Split.cons (by repeat (first | with_reducible exact Sel.here | with_reducible apply Sel.there))))) (hs := risesI_c (a := a) (n := i) (c := c) (row := itemRow w x.items) x.items hn (fun j hj => ⟨_, rfl, inferInstance⟩) hn2) (h := ?_)
          rintro v Bs ⟨rfl, rfl⟩
          refine go_ ?_
          exact s_ret1 (rs := [.tmp 2]) Try.func49 rfl (by intro j; refine RVS.tmp _ rfl ?_; exact RVS.nil) (⟨by unfold nodeOk; rw [if_pos h0, hA, hB, hw, decide_eq_true (p := x.kids.length = 0) (by omega)]; rfl, rfl⟩) (by repeat (first | exact Ent.nil | refine Ent.per (by repeat (first | with_reducible exact Sel.here | with_reducible apply Sel.there)) ?_ | refine Ent.cons (by repeat (first | with_reducible exact Sel.here | with_reducible apply Sel.there)) ?_))
  · refine go_ ?_
    refine s_loop (fun i : Nat => [(1, .pointer (some ⟨r1, 0, none⟩)), (38, .slice b m d), (39, .int .i64 m), (40, .int .i64 i)]) (fun _ => [SA none 4 (.slice a n c) n (itemRow w x.items), SA none 4 (.slice b m d) m (kidRow x.kids), Box r1 73 [.int .i64 x.level, .slice a n c, .slice b m d], F]) (fun i => i ≤ m ∧ ∀ q, q < i → 1 ≤ (x.kids.getD q default).addr ∧ (x.kids.getD q default).addr ≤ 2047) (fun i => m - i) 0 ⟨by omega, fun q hq => by omega⟩ (by repeat (first | exact Ent.nil | refine Ent.per (by repeat (first | with_reducible exact Sel.here | with_reducible apply Sel.there)) ?_ | refine Ent.cons (by repeat (first | with_reducible exact Sel.here | with_reducible apply Sel.there)) ?_)) ?_
    rintro i ⟨hi, hq⟩ next
    refine go_ ?_
    refine s_if (fun h => ?_) (fun h => ?_)
    · have hi2 : i < m := by omega
      refine go_ ?_
      refine s_alloc fun r6 => ?_
      refine go_ ?_
      refine s_call (sp := (by repeat (first | exact Split.nil | apply Split.perx (by repeat (first | with_reducible exact Sel.here | with_reducible apply Sel.there)) (by infer_instance) | apply Split.cons (by repeat (first | with_reducible exact Sel.here | with_reducible apply Sel.there))))) (hs := nwithin_c (x.kids.getD i default).addr 1 2047) (h := ?_)
      rintro v Bs ⟨rfl, rfl⟩
      cases hw : decide (1 ≤ (x.kids.getD i default).addr ∧ (x.kids.getD i default).addr ≤ 2047) with
      | false =>
        have hw2 := of_decide_eq_false hw
        refine go_ ?_
        exact s_ret1 (rs := [.tmp 2]) Try.func49 rfl (by intro j; refine RVS.tmp _ rfl ?_; exact RVS.nil) (⟨by unfold nodeOk; rw [if_neg h0, decide_eq_false (p := ∀ q, _ → _)]; rfl; intro hh; exact hw2 (hh i (by omega)), rfl⟩) (by repeat (first | exact Ent.nil | refine Ent.per (by repeat (first | with_reducible exact Sel.here | with_reducible apply Sel.there)) ?_ | refine Ent.cons (by repeat (first | with_reducible exact Sel.here | with_reducible apply Sel.there)) ?_))
      | true =>
        have hw2 := of_decide_eq_true hw
        refine go_ ?_
        exact s_entF (by repeat (first | exact Ent.nil | refine Ent.per (by repeat (first | with_reducible exact Sel.here | with_reducible apply Sel.there)) ?_ | refine Ent.cons (by repeat (first | with_reducible exact Sel.here | with_reducible apply Sel.there)) ?_)) (s_keep _ (next (i + 1) ⟨by omega, fun q hq2 => if e : q < i then hq q e else (by rw [show q = i by omega]; exact hw2)⟩ (by omega)))
    · have : i = m := by omega
      subst this
      have hA : decide (∀ q, q < x.kids.length → 1 ≤ (x.kids.getD q default).addr ∧ (x.kids.getD q default).addr ≤ 2047) = true := decide_eq_true (by rw [hm]; exact hq)
      refine go_ ?_
      refine s_call (sp := (by repeat (first | exact Split.nil | apply Split.perx (by repeat (first | with_reducible exact Sel.here | with_reducible apply Sel.there)) (by infer_instance) | apply Split.cons (by repeat (first | with_reducible exact Sel.here | with_reducible apply Sel.there))))) (hs := nwithin_c x.level 1 7) (h := ?_)
      rintro v Bs ⟨rfl, rfl⟩
      cases hw : decide (1 ≤ x.level ∧ x.level ≤ 7) with
      | false =>
        refine go_ ?_
        exact s_ret1 (rs := [.tmp 2]) Try.func49 rfl (by intro j; refine RVS.tmp _ rfl ?_; exact RVS.nil) (⟨by unfold nodeOk; rw [if_neg h0, hA, hw]; rfl, rfl⟩) (by repeat (first | exact Ent.nil | refine Ent.per (by repeat (first | with_reducible exact Sel.here | with_reducible apply Sel.there)) ?_ | refine Ent.cons (by repeat (first | with_reducible exact Sel.here | with_reducible apply Sel.there)) ?_))
      | true =>
        refine go_ ?_
        cases hk0 : ((n : Int) == 0) with
        | false =>
          have hk1 := ne_of_beq_false hk0
          refine go_ ?_
          exact s_ret1 (rs := [.tmp 2]) Try.func49 rfl (by intro j; refine RVS.tmp _ rfl ?_; exact RVS.nil) (⟨by unfold nodeOk; rw [if_neg h0, hA, hw, decide_eq_false (p := x.items.length = 0) (by omega)]; rfl, rfl⟩) (by repeat (first | exact Ent.nil | refine Ent.per (by repeat (first | with_reducible exact Sel.here | with_reducible apply Sel.there)) ?_ | refine Ent.cons (by repeat (first | with_reducible exact Sel.here | with_reducible apply Sel.there)) ?_))
        | true =>
          have hk1 := eq_of_beq hk0
          refine go_ ?_
          refine s_call (sp := (by repeat (first | exact Split.nil | apply Split.perx (by repeat (first | with_reducible exact Sel.here | with_reducible apply Sel.there)) (by infer_instance) | apply Split.cons (by repeat (first | with_reducible exact Sel.here | with_reducible apply Sel.there))))) (hs := nwithin_c (i : Int) 2 12) (h := ?_)
          rintro v Bs ⟨rfl, rfl⟩
          have hB : decide (2 ≤ x.kids.length ∧ x.kids.length ≤ 12) = decide (2 ≤ (i : Int) ∧ (i : Int) ≤ 12) := decide_eq_decide.2 (by omega)
          cases hw2 : decide (2 ≤ (i : Int) ∧ (i : Int) ≤ 12) with
          | false =>
            refine go_ ?_
            exact s_ret1 (rs := [.tmp 2]) Try.func49 rfl (by intro j; refine RVS.tmp _ rfl ?_; exact RVS.nil) (⟨by unfold nodeOk; rw [if_neg h0, hA, hw, hB, hw2, decide_eq_true (p := x.items.length = 0) (by omega)]; rfl, rfl⟩) (by repeat (first | exact Ent.nil | refine Ent.per (by repeat (first | with_reducible exact Sel.here | with_reducible apply Sel.there)) ?_ | refine Ent.cons (by repeat (first | with_reducible exact Sel.here | with_reducible apply Sel.there)) ?_))
          | true =>
            refine go_ ?_
            refine s_call (sp := (by repeat (first | exact Split.nil | apply Split.perx (by repeat (first | with_reducible exact Sel.here | with_reducible apply Sel.there)) (by infer_instance) | apply Split.cons (by repeat (first | with_reducible exact Sel.here | with_reducible apply Sel.there))))) (hs := risesK_c (a := b) (n := i) (c := d) (row := kidRow x.kids) x.kids hm (fun j hj => ⟨_, rfl, inferInstance⟩) hm2) (h := ?_)
            rintro v Bs ⟨rfl, rfl⟩
            refine go_ ?_
            exact s_ret1 (rs := [.tmp 2]) Try.func49 rfl (by intro j; refine RVS.tmp _ rfl ?_; exact RVS.nil) (⟨by unfold nodeOk; rw [if_neg h0, hA, hw, hB, hw2, decide_eq_true (p := x.items.length = 0) (by omega)]; rfl, rfl⟩) (by repeat (first | exact Ent.nil | refine Ent.per (by repeat (first | with_reducible exact Sel.here | with_reducible apply Sel.there)) ?_ | refine Ent.cons (by repeat (first | with_reducible exact Sel.here | with_reducible apply Sel.there)) ?_))
end Go.Proofs.Ytldonbnjefhfdaa
/- node.seek over items and kids. -/
namespace Go.Proofs.Ytldonbnjefhfdaa
open Go.Cam
set_option maxRecDepth 100000
abbrev Key.row (k : Key) : List Value := [.int .i64 k.obj, .int .i64 k.kind, .int .i64 k.off]
def seekN (p : Nat → Bool) : Nat → Nat → Nat
  | 0, i => i
  | m + 1, i => if p i then seekN p m (i + 1) else i
end Go.Proofs.Ytldonbnjefhfdaa
/- node.Seek. -/
namespace Go.Proofs.Ytldonbnjefhfdaa
open Go.Cam
set_option maxRecDepth 100000
def seekX (x : Node) (k : Key) : Nat :=
  if x.level = 0 then seekN (fun i => (x.items.getD i default).key.lt k) x.items.length 0
  else seekN (fun i => !(k.lt (x.kids.getD i default).key)) x.kids.length 0 - 1
theorem seekN_le (p : Nat → Bool) : ∀ m i, seekN p m i ≤ i + m
  | 0, i => Nat.le_refl _
  | m + 1, i => by
    unfold seekN
    cases p i with
    | false => simp
    | true => have := seekN_le p m (i + 1); simp; omega
theorem eql27 (x y : Key) (w : World) : (binOp .eql 112 (.agg #[.int .i64 x.obj, .int .i64 x.kind, .int .i64 x.off]) (.agg #[.int .i64 y.obj, .int .i64 y.kind, .int .i64 y.off])).run Try.prog w = .ok (.bool (decide (x = y))) w := by
  obtain ⟨a, b, c⟩ := x; obtain ⟨d, e, f⟩ := y
  go_simp
  by_cases h1 : a = d <;> by_cases h2 : b = e <;> by_cases h3 : c = f <;> simp [h1, h2, h3]
theorem nql27 (x y : Key) (w : World) : (binOp .neq 112 (.agg #[.int .i64 x.obj, .int .i64 x.kind, .int .i64 x.off]) (.agg #[.int .i64 y.obj, .int .i64 y.kind, .int .i64 y.off])).run Try.prog w = .ok (.bool (!(decide (x = y)))) w := by
  obtain ⟨a, b, c⟩ := x; obtain ⟨d, e, f⟩ := y
  go_simp
  by_cases h1 : a = d <;> by_cases h2 : b = e <;> by_cases h3 : c = f <;> simp [h1, h2, h3]
instance eq27k (x y : Key) : EQ Try.prog 112 (.agg #[.int .i64 x.obj, .int .i64 x.kind, .int .i64 x.off]) (.agg #[.int .i64 y.obj, .int .i64 y.kind, .int .i64 y.off]) (decide (x = y)) := ⟨fun op _ _ => by cases op <;> kernel_rfl, eql27 x y, nql27 x y⟩
end Go.Proofs.Ytldonbnjefhfdaa
/- pool.own: a node of one's own. -/
namespace Go.Proofs.Ytldonbnjefhfdaa
open Go.Cam
set_option maxRecDepth 100000
end Go.Proofs.Ytldonbnjefhfdaa
/- pool: the nodes laid down; lay, PutNode, Count. -/
namespace Go.Proofs.Ytldonbnjefhfdaa
open Go.Cam
set_option maxRecDepth 100000
/-- where a node lies -/
structure Plc where
  a : Option Addr
  c : Nat
  b : Option Addr
  d : Nat
  w : Nat → Option Addr × Nat
abbrev blkV (x : Node) (u : Plc) : Value := .agg #[.int .i64 0, .int .i64 x.level, .slice u.a x.items.length u.c, .slice u.b x.kids.length u.d, .slice none 0 0]
abbrev Nd1 (x : Node) (u : Plc) : HP := SA none 4 (.slice u.a x.items.length u.c) x.items.length (itemRow u.w x.items)
abbrev Nd2 (x : Node) (u : Plc) : HP := Fam x.items.length (itemFam u.w x.items)
abbrev Nd3 (x : Node) (u : Plc) : HP := SA none 4 (.slice u.b x.kids.length u.d) x.kids.length (kidRow x.kids)
def Nds (g : Int → Option (Node × Plc)) : HP := ⟨fun H M => ∀ k x u, g k = some (x, u) → (Nd1 x u).p H M ∧ (Nd2 x u).p H M ∧ (Nd3 x u).p H M, fun h1 h2 h k x u e => ⟨(Nd1 x u).mono h1 h2 (h k x u e).1, (Nd2 x u).mono h1 h2 (h k x u e).2.1, (Nd3 x u).mono h1 h2 (h k x u e).2.2⟩⟩
instance perNd1 (x : Node) (u : Plc) : Per (Nd1 x u) := inferInstance
instance perNd2 (x : Node) (u : Plc) : Per (Nd2 x u) := inferInstance
instance perNd3 (x : Node) (u : Plc) : Per (Nd3 x u) := inferInstance
instance {g : Int → Option (Node × Plc)} : Per (Nds g) := ⟨fun h k x u e => ⟨(perNd1 x u).h (h k x u e).1, (perNd2 x u).h (h k x u e).2.1, (perNd3 x u).h (h k x u e).2.2⟩⟩
abbrev gmap (g : Int → Option (Node × Plc)) : Int → Option Value := fun k => (g k).map fun q => blkV q.1 q.2
section
variable {P : Program} {f : FuncId} {n : Nat} {R : Value → HP} {k : List It} {l : List (Nat × Value)} {As Bs Rs Ss Zs : List HP}
end
abbrev PoB (p b gen n bc m : Nat) : HP := Box p 78 (poolL b gen n bc m)
theorem pcount_c (p b gen n bc m : Nat) (σ : Ct) (k : Int) : Ctr Try.prog 15 [.pointer (some ⟨p, 0, none⟩), .int .i64 k] [PoB p b gen n bc m, CtA bc σ] (fun v Bs => v = .int .i64 (if 0 ≤ k ∧ k < σ.n then σ.now k.toNat else 0 : Nat) ∧ Bs = [PoB p b gen n bc m, CtA bc σ]) := by
  refine s_enter 11 [(0, _), (1, _)] (fun F => [_, _, F]) Try.func15 fun F => ?_
  refine go_ ?_
  refine s_call (sp := (by repeat (first | exact Split.nil | apply Split.perx (by repeat (first | with_reducible exact Sel.here | with_reducible apply Sel.there)) (by infer_instance) | apply Split.cons (by repeat (first | with_reducible exact Sel.here | with_reducible apply Sel.there))))) (hs := cget_c bc σ k) (h := ?_)
  rintro v Bs ⟨rfl, rfl⟩
  refine go_ ?_
  exact s_ret1 (rs := [.tmp 4]) Try.func15 rfl (by intro j; refine RVS.tmp _ rfl ?_; exact RVS.nil) (⟨rfl, rfl⟩) (by repeat (first | exact Ent.nil | refine Ent.per (by repeat (first | with_reducible exact Sel.here | with_reducible apply Sel.there)) ?_ | refine Ent.cons (by repeat (first | with_reducible exact Sel.here | with_reducible apply Sel.there)) ?_))
end Go.Proofs.Ytldonbnjefhfdaa
/- pool.PutNode, Node. -/
namespace Go.Proofs.Ytldonbnjefhfdaa
open Go.Cam
set_option maxRecDepth 100000
structure Node.small (x : Node) : Prop where
  i : x.items.length < 1000000
  k : x.kids.length < 1000000
  v : ∀ i, i < x.items.length → (x.items.getD i default).val.length < 1000000
end Go.Proofs.Ytldonbnjefhfdaa
/- pool.Node of a node that is laid down. -/
namespace Go.Proofs.Ytldonbnjefhfdaa
open Go.Cam
set_option maxRecDepth 100000
end Go.Proofs.Ytldonbnjefhfdaa
/- find.walk.at. -/
namespace Go.Proofs.Ytldonbnjefhfdaa
open Go.Cam
set_option maxRecDepth 100000
structure PoZ where
  b : Nat
  gen : Nat
  n : Nat
  bc : Nat
  m : Nat
def Po.parts (p : Nat) (z : PoZ) (σ : Ct) (g : Int → Option (Node × Plc)) (_ : Unit) : List HP := [PoB p z.b z.gen z.n z.bc z.m, CtA z.bc σ, MG z.m (gmap g), Nds g]
abbrev Po (p : Nat) (z : PoZ) (σ : Ct) (g : Int → Option (Node × Plc)) : HP := EX (fun _ : Unit => True) (Po.parts p z σ g)
abbrev pathR (l : List Int) (i : Nat) : List Value := [.int .i64 (l.getD i 0)]
structure Held (σ : Ct) (g : Int → Option (Node × Plc)) (k : Int) (x : Node) (u : Plc) : Prop where
  hs : x.small
  ok : nodeOk x = true
  hk : 0 ≤ k ∧ k < σ.n
  hc : σ.now k.toNat ≠ 0
  hg : g k = some (x, u)
end Go.Proofs.Ytldonbnjefhfdaa
/- The numbers at which the library's contracts of maps.Keys, slices.Sorted and slices.Sort stand in this program (printed by the kit's tool). -/
namespace Go.Proofs.Ytldonbnjefhfdaa
open Go.Shelf
def Try.keysA_ren : Go.Shelf.Ren := ⟨fun | 7 => 26 | 10 => 48 | n => n, fun | 23 => 76 | 26 => 3 | 3 => 75 | 28 => 81 | 0 => 0 | 27 => 80 | 33 => 109 | 4 => 4 | n => n, fun | n => n⟩
theorem Try.keysA : Go.Proofs.SlLaysZI.n7 Try.prog Try.keysA_ren := {
  mixed := by kernel_rfl
  f7 := ⟨Try.f26.name, by decide, Try.func26.trans (congrArg some (by kernel_rfl))⟩
  f10 := ⟨Try.f48.name, by decide, Try.func48.trans (congrArg some (by kernel_rfl))⟩
  t0 := Try.underlying0
  a0 := Try.isAgg0
  z0 := Try.sizeOf0
  v0 := Try.zeroValue0
  t4 := Try.underlying4
  a4 := Try.isAgg4
  z4 := Try.sizeOf4
  v4 := Try.zeroValue4
  t23 := Try.underlying76
  a23 := Try.isAgg76
  z23 := Try.sizeOf76
  v23 := Try.zeroValue76
  t26 := Try.underlying3
  a26 := Try.isAgg3
  z26 := Try.sizeOf3
  v26 := Try.zeroValue3
  t27 := Try.underlying80
  a27 := Try.isAgg80
  z27 := Try.sizeOf80
  v27 := Try.zeroValue80
  t28 := Try.underlying81
  a28 := Try.isAgg81
  z28 := Try.sizeOf81
  v28 := Try.zeroValue81
  t33 := Try.underlying109
  a33 := Try.isAgg109
  z33 := Try.sizeOf109
  v33 := Try.zeroValue109 }
def Try.sortedA_ren : Go.Shelf.Ren := ⟨fun | 6 => 25 | 8 => 46 | 9 => 47 | 11 => 64 | 13 => 66 | 12 => 65 | 23 => 86 | 24 => 87 | 14 => 77 | 15 => 78 | 16 => 79 | 17 => 80 | 18 => 81 | 19 => 82 | 20 => 83 | 21 => 84 | 22 => 85 | 25 => 92 | 26 => 93 | 27 => 94 | 28 => 95 | 29 => 96 | 30 => 97 | 31 => 102 | n => n, fun | 26 => 3 | 28 => 81 | 24 => 24 | 0 => 0 | 3 => 3 | 37 => 136 | 48 => 120 | 50 => 143 | 4 => 4 | 40 => 151 | 39 => 150 | 45 => 66 | 5 => 5 | 9 => 9 | 51 => 165 | 55 => 169 | 57 => 174 | 58 => 94 | 33 => 109 | n => n, fun | n => n⟩
theorem Try.sortedA : Go.Proofs.SlLaysZI.n6 Try.prog Try.sortedA_ren := {
  mixed := by kernel_rfl
  f6 := ⟨Try.f25.name, by decide, Try.func25.trans (congrArg some (by kernel_rfl))⟩
  f8 := ⟨Try.f46.name, by decide, Try.func46.trans (congrArg some (by kernel_rfl))⟩
  f11 := ⟨Try.f64.name, by decide, Try.func64.trans (congrArg some (by kernel_rfl))⟩
  t0 := Try.underlying0
  a0 := Try.isAgg0
  z0 := Try.sizeOf0
  v0 := Try.zeroValue0
  t24 := Try.underlying24
  a24 := Try.isAgg24
  z24 := Try.sizeOf24
  v24 := Try.zeroValue24
  t26 := Try.underlying3
  a26 := Try.isAgg3
  z26 := Try.sizeOf3
  v26 := Try.zeroValue3
  t28 := Try.underlying81
  a28 := Try.isAgg81
  z28 := Try.sizeOf81
  v28 := Try.zeroValue81
  i26 := by kernel_rfl }
def Try.sortA_ren : Go.Shelf.Ren := ⟨fun | 5 => 47 | 8 => 66 | 7 => 65 | 19 => 86 | 20 => 87 | 10 => 77 | 11 => 78 | 12 => 79 | 13 => 80 | 14 => 81 | 15 => 82 | 16 => 83 | 17 => 84 | 18 => 85 | 30 => 92 | 31 => 93 | 32 => 94 | 33 => 95 | 34 => 96 | 35 => 97 | 40 => 102 | n => n, fun | 23 => 24 | 25 => 3 | 3 => 3 | 32 => 136 | 22 => 24 | 0 => 0 | 44 => 120 | 46 => 143 | 4 => 4 | 36 => 151 | 35 => 150 | 41 => 66 | 5 => 5 | 9 => 9 | 53 => 165 | 57 => 169 | 63 => 174 | 64 => 94 | n => n, fun | n => n⟩
theorem Try.sortA : Go.Proofs.SlLaysM.n5 Try.prog Try.sortA_ren := {
  mixed := by kernel_rfl
  f5 := ⟨Try.f47.name, by decide, Try.func47.trans (congrArg some (by kernel_rfl))⟩
  f7 := ⟨Try.f65.name, by decide, Try.func65.trans (congrArg some (by kernel_rfl))⟩
  f8 := Try.func66.trans (congrArg some (by kernel_rfl))
  f10 := ⟨Try.f77.name, by decide, Try.func77.trans (congrArg some (by kernel_rfl))⟩
  f11 := ⟨Try.f78.name, by decide, Try.func78.trans (congrArg some (by kernel_rfl))⟩
  f12 := ⟨Try.f79.name, by decide, Try.func79.trans (congrArg some (by kernel_rfl))⟩
  f13 := ⟨Try.f80.name, by decide, Try.func80.trans (congrArg some (by kernel_rfl))⟩
  f14 := ⟨Try.f81.name, by decide, Try.func81.trans (congrArg some (by kernel_rfl))⟩
  f15 := ⟨Try.f82.name, by decide, Try.func82.trans (congrArg some (by kernel_rfl))⟩
  f16 := ⟨Try.f83.name, by decide, Try.func83.trans (congrArg some (by kernel_rfl))⟩
  f17 := ⟨Try.f84.name, by decide, Try.func84.trans (congrArg some (by kernel_rfl))⟩
  f18 := ⟨Try.f85.name, by decide, Try.func85.trans (congrArg some (by kernel_rfl))⟩
  f19 := Try.func86.trans (congrArg some (by kernel_rfl))
  f20 := Try.func87.trans (congrArg some (by kernel_rfl))
  f30 := ⟨Try.f92.name, by decide, Try.func92.trans (congrArg some (by kernel_rfl))⟩
  f31 := Try.func93.trans (congrArg some (by kernel_rfl))
  f32 := Try.func94.trans (congrArg some (by kernel_rfl))
  f33 := ⟨Try.f95.name, by decide, Try.func95.trans (congrArg some (by kernel_rfl))⟩
  f34 := ⟨Try.f96.name, by decide, Try.func96.trans (congrArg some (by kernel_rfl))⟩
  f35 := ⟨Try.f97.name, by decide, Try.func97.trans (congrArg some (by kernel_rfl))⟩
  f40 := ⟨Try.f102.name, by decide, Try.func102.trans (congrArg some (by kernel_rfl))⟩
  t0 := Try.underlying0
  a0 := Try.isAgg0
  z0 := Try.sizeOf0
  v0 := Try.zeroValue0
  t3 := Try.underlying3
  a3 := Try.isAgg3
  z3 := Try.sizeOf3
  v3 := Try.zeroValue3
  t4 := Try.underlying4
  a4 := Try.isAgg4
  z4 := Try.sizeOf4
  v4 := Try.zeroValue4
  t5 := Try.underlying5
  a5 := Try.isAgg5
  z5 := Try.sizeOf5
  v5 := Try.zeroValue5
  t9 := Try.underlying9
  a9 := Try.isAgg9
  z9 := Try.sizeOf9
  v9 := Try.zeroValue9
  t22 := Try.underlying24
  a22 := Try.isAgg24
  z22 := Try.sizeOf24
  v22 := Try.zeroValue24
  t23 := Try.underlying24
  a23 := Try.isAgg24
  z23 := Try.sizeOf24
  v23 := Try.zeroValue24
  t25 := Try.underlying3
  a25 := Try.isAgg3
  z25 := Try.sizeOf3
  v25 := Try.zeroValue3
  t32 := Try.underlying136
  a32 := Try.isAgg136
  z32 := Try.sizeOf136
  v32 := Try.zeroValue136
  t35 := Try.underlying150
  a35 := Try.isAgg150
  z35 := Try.sizeOf150
  v35 := Try.zeroValue150
  t36 := Try.underlying151
  a36 := Try.isAgg151
  z36 := Try.sizeOf151
  v36 := Try.zeroValue151
  t41 := Try.underlying66
  a41 := Try.isAgg66
  z41 := Try.sizeOf66
  v41 := Try.zeroValue66
  t44 := Try.underlying120
  a44 := Try.isAgg120
  z44 := Try.sizeOf120
  v44 := Try.zeroValue120
  t46 := Try.underlying143
  a46 := Try.isAgg143
  z46 := Try.sizeOf143
  v46 := Try.zeroValue143
  t53 := Try.underlying165
  a53 := Try.isAgg165
  z53 := Try.sizeOf165
  v53 := Try.zeroValue165
  t57 := Try.underlying169
  a57 := Try.isAgg169
  z57 := Try.sizeOf169
  v57 := Try.zeroValue169
  t63 := Try.underlying174
  a63 := Try.isAgg174
  z63 := Try.sizeOf174
  v63 := Try.zeroValue174
  t64 := Try.underlying94
  a64 := Try.isAgg94
  z64 := Try.sizeOf94
  v64 := Try.zeroValue94 }
end Go.Proofs.Ytldonbnjefhfdaa
/- The keys of a map, sorted: from the library's contracts to the walk's. -/
namespace Go.Proofs.Ytldonbnjefhfdaa
open Go.Cam Go.RowKit Go.Maps Go.Sort Go.Shelf
set_option maxRecDepth 100000
theorem Try.sortsA (m : Nat) : AnyZI.SortsIn Try.prog Try.sortedA_ren Fence.wide m :=
  ⟨fun blk off cap ss W hH hblk hsz => callsIn_wide.2 (AnyM.slices_Sort_int Try.sortA blk off cap ss W hH hblk hsz),
   fun p cap W => callsIn_wide.2 (AnyM.slices_Sort_int_none Try.sortA p cap W)⟩
theorem keys_c (m : Nat) : Ctr Try.prog 26 [.map (some m)] [] (fun v Bs => ∃ r, v = .func (.func 48) #[] #[.pointer (some ⟨r, 0, none⟩)] ∧ Bs = [Box r 76 [.map (some m)]]) := fun F H M s w0 w hh => by
  have h1 : Calls Try.prog 26 #[.map (some m)] w _ := (callsIn_wide (n := 5)).1 (AnyZI.keys_in Try.keysA Fence.wide 5 trivial rfl (some m) w)
  refine h1.mono fun e w' ⟨he, hw⟩ => ?_
  subst he; subst hw
  exact ⟨_, H, _, rfl, hh.push _, _, ⟨_, rfl, rfl⟩, own_new hh.fresh s⟩
/-- a map's keys, in order -/
def keysN (gm : Int → Option Value) (N : Nat) : List Int := ((List.range N).map fun (i : Nat) => (i : Int)).filter fun k => (gm k).isSome
theorem keysN_mem {gm : Int → Option Value} {N : Nat} (hk : ∀ k, gm k ≠ none → 0 ≤ k ∧ k < N) (k : Int) : k ∈ keysN gm N ↔ gm k ≠ none := by
  unfold keysN
  rw [List.mem_filter, List.mem_map]
  constructor
  · rintro ⟨_, h⟩ e; rw [e] at h; cases h
  · intro h
    obtain ⟨h1, h2⟩ := hk k h
    exact ⟨⟨k.toNat, List.mem_range.2 (by omega), by omega⟩, by cases hg : gm k with
      | none => exact absurd hg h
      | some v => rfl⟩
theorem keysN_lt (gm : Int → Option Value) (N : Nat) : (keysN gm N).Pairwise (· < ·) := by
  refine List.Pairwise.filter _ (List.pairwise_map.2 ?_)
  refine List.Pairwise.imp (R := (· < ·)) (fun h => by omega) List.pairwise_lt_range
theorem keysN_sorted {gm : Int → Option Value} {N : Nat} {es : List MapEntry} {ck : Nat} (hk : ∀ k, gm k ≠ none → 0 ≤ k ∧ k < N) (hw : WFM es ck gm) {ss : List Int} (hp : ss.Perm (es.map fun e => match e.key with | .int _ k => k | _ => 0)) :
    ss.mergeSort (fun x y => decide (x ≤ y)) = keysN gm N := by
  have hkey : ∀ e ∈ es, e.key = .int .i64 (match e.key with | .int _ k => k | _ => 0) := fun e he => by
    obtain ⟨k, h1, _⟩ := hw.key e he; rw [h1]
  have hnd : (es.map fun e => match e.key with | .int _ k => k | _ => 0).Nodup := by
    refine List.pairwise_map.2 (hw.kd.imp_of_mem fun {a b} ha hb hne e => hne ?_)
    rw [hkey a ha, hkey b hb, e]
  have hp2 : ss.Perm (keysN gm N) := by
    refine hp.trans ((List.perm_ext_iff_of_nodup hnd ((keysN_lt gm N).imp fun h => by omega)).2 fun k => ?_)
    rw [keysN_mem hk, List.mem_map]
    constructor
    · rintro ⟨e, he, rfl⟩
      obtain ⟨k, h1, h2⟩ := hw.key e he
      rw [h1]; dsimp only; rw [h2]; simp
    · intro h
      obtain ⟨v, hv⟩ : ∃ v, gm k = some v := by
        cases hg : gm k with
        | none => exact absurd hg h
        | some v => exact ⟨v, rfl⟩
      obtain ⟨e, he, h1⟩ := hw.all k v hv
      exact ⟨e, he, by rw [h1]⟩
  rw [show (fun x y : Int => decide (x ≤ y)) = leI from rfl, mergeSort_of_perm_i hp2]
  exact List.mergeSort_of_pairwise ((keysN_lt gm N).imp fun h => by simp [leI]; omega)
theorem flat_int (l : List Int) : flat l.length (pathR l) = l.map fun k => .int .i64 k := by
  unfold flat
  have : ∀ (n : Nat) (f : Nat → Value), (List.range n).flatMap (fun i => [f i]) = (List.range n).map f := fun n f => by
    induction List.range n with
    | nil => rfl
    | cons x xs ih => rw [List.flatMap_cons, ih]; rfl
  show ((List.range l.length).flatMap fun i => [Value.int .i64 (l.getD i 0)]) = _
  rw [this]
  apply List.ext_getElem?
  intro i
  by_cases h : i < l.length
  · simp [h, List.getD_eq_getElem?_getD]
  · simp [h]
theorem own_row {g e n cap : Nat} {cur : Array Value} {l : List Int} {H M : Heap} (hn : n = l.length) (hc : n ≤ cap) (hs : cur.size = cap) (ht : cur.toList.take n = l.map fun k => .int .i64 k) (h : (HP.own g (.cells cur e (0, 0))).p H M) : (SA (some e) 1 (.slice (some ⟨g, 0, none⟩) n cap) n (pathR l)).p H M := by
  subst hn
  have hf := flat_int l
  refine ⟨fun _ _ => rfl, ?_, .inr ⟨g, l.length, cap, cur, rfl, flat_len fun _ _ => rfl, by omega, hc, h, ?_⟩, _, _, rfl⟩
  · rw [hf, List.all_eq_true]
    intro u hu
    obtain ⟨k, _, rfl⟩ := List.mem_map.1 hu
    rfl
  · rw [hf, List.length_map, ht]
theorem sorted_c (m r : Nat) (gm : Int → Option Value) (N : Nat) (hN : N ≤ 1000000) (hk : ∀ k, gm k ≠ none → 0 ≤ k ∧ k < N) : Ctr Try.prog 25 [.func (.func 48) #[] #[.pointer (some ⟨r, 0, none⟩)]] [Box r 76 [.map (some m)], MG m gm]
    (fun v Bs => ∃ a c, v = .slice a (keysN gm N).length c ∧ Bs = [SO 3 1 (.slice a (keysN gm N).length c) (keysN gm N).length (pathR (keysN gm N)), MG m gm]) := fun F H M s w0 w hh => by
  have s2 : ((HP.own r (.cells #[.map (some m)] 76 (0, 0))).star (Sat [MG m gm, F])).p H M := s
  have hr := hh.m r _ (star_fst s2)
  have s3 := star_snd s2
  obtain ⟨es, ck, hm, hw⟩ := star_fst s3
  have hm2 := hh.m m _ hm
  have hlt : r < w.heap.size := by
    rcases Nat.lt_or_ge r w.heap.size with h | h
    · exact h
    · rw [Array.getElem?_eq_none h] at hr; cases hr
  have hcell : w.cell? ⟨r, 0, none⟩ = some (.map (some m)) := by
    unfold World.cell?
    simp only [hr]
    rfl
  have hwf : ∀ e ∈ es.toList, ∃ k : Int, e.key = .int .i64 k ∧ (Lit.int .i64 k).wf = true := fun e he => by
    obtain ⟨k, h1, h2⟩ := hw.key e he
    obtain ⟨h3, h4⟩ := hk k (by rw [h2]; simp)
    exact ⟨k, h1, by simp [Lit.wf, IntKind.min, IntKind.max, IntKind.signed, IntKind.bits]; omega⟩
  let R : Value → Option (DataW Unit × List MemPlace) := fun _ => some (.nil, [])
  have hu3 : Try.prog.underlying 3 = some (.int .i64) := by kernel_rfl
  have hrd : ∀ e ∈ es.toList, ∀ k, e.key = .int .i64 k → (Lit.int .i64 k).wf = true → WideElems.rd Try.prog 3 R e = some (.int .i64 k, .nil) := fun e he k h1 h2 => by
    unfold WideElems.rd
    have : keyOf Try.prog 3 e.key = some (.int .i64 k) := by
      unfold keyOf mapKey
      rw [hu3, h1]
      simp [h2]
    rw [this]; rfl
  have hnd : (es.toList.map (·.key)).Nodup := List.pairwise_map.2 hw.kd
  have hsz : es.size ≤ N := by
    have h1 : (es.toList.map fun e => match e.key with | .int _ k => k | _ => 0).Perm (keysN gm N) := by
      have := keysN_sorted hk hw (List.Perm.refl _)
      rw [← this]; exact (List.mergeSort_perm _ _).symm
    have h2 := h1.length_eq
    rw [List.length_map, Array.length_toList] at h2
    rw [h2]
    unfold keysN
    refine Nat.le_trans (List.length_filter_le _ _) ?_
    simp
  have hfit : WideElems.Fit Try.prog 3 R es ck := by
    refine ⟨?_, ⟨hw.bl, List.pairwise_map.2 hw.bd, hnd⟩, fun e he => ?_⟩
    · have : maxLen = 9223372036854775807 := rfl
      omega
    · obtain ⟨k, h1, h2⟩ := hwf e he
      exact ⟨_, hrd e he k h1 h2⟩
  have hown : w.ownsMap Try.prog 3 R m es.size (.map ((es.toList.map (WideElems.rg Try.prog 3 R)).foldr DataW.insert [])) := ⟨es, ck, hm2, hfit, Nat.le_refl _, rfl⟩
  have hperm : (intKeys (DataW.map ((es.toList.map (WideElems.rg Try.prog 3 R)).foldr DataW.insert []))).Perm (es.toList.map fun e => match e.key with | .int _ k => k | _ => 0) := by
    show List.Perm (List.map _ _) _
    refine ((Go.WideShapes.sorted_perm _).map _).trans ?_
    rw [List.map_map]
    refine List.Perm.of_eq (List.map_congr_left fun e he => ?_)
    obtain ⟨k, h1, h2⟩ := hwf e he
    show Go.intOf (WideElems.rg Try.prog 3 R e).1 = _
    rw [WideElems.rg_of (hrd e he k h1 h2), h1]; rfl
  have hDs : Maps.size (DataW.map ((es.toList.map (WideElems.rg Try.prog 3 R)).foldr DataW.insert [])) ≤ N := by
    have h1 := hperm.length_eq
    have h3 : (es.toList.map fun e => match e.key with | .int _ k => k | _ => 0).length = es.size := by rw [List.length_map, Array.length_toList]
    have h2 : (intKeys (DataW.map ((es.toList.map (WideElems.rg Try.prog 3 R)).foldr DataW.insert []))).length = ((es.toList.map (WideElems.rg Try.prog 3 R)).foldr DataW.insert []).length := List.length_map _
    show ((es.toList.map (WideElems.rg Try.prog 3 R)).foldr DataW.insert []).length ≤ N
    rw [← h2, h1, h3]; exact hsz
  have hseq := AnyZI.keys_gives (ρ := Try.keysA_ren) { Try.keysA with } Fence.wide 2 trivial rfl (by omega) r m es.size _ w hlt hcell hown
  have cS := AnyZI.sorted_in Try.sortedA Fence.wide 5 trivial trivial trivial trivial rfl (by omega) (Try.sortsA _) (enters_of Try.func47 (by kernel_rfl) rfl) 48 #[.pointer (some ⟨r, 0, none⟩)] trivial (enters_of Try.func48 (by kernel_rfl) rfl) _ _ (by have : maxLen = 9223372036854775807 := rfl; omega) (by omega) _ hseq
  change CallsIn _ _ Try.prog 25 _ _ _ at cS
  refine (callsIn_wide.1 cS).mono fun e w' ⟨v, ss, he, hS, hrow, hnil, hb⟩ => ?_
  subst he
  have hks := keysN_sorted hk hw (hS.trans hperm)
  have hlen : ss.length = (keysN gm N).length := by rw [← hks, List.length_mergeSort]
  rw [hks, hlen] at hrow
  obtain ⟨_, hrow⟩ := hrow
  have hold : ∀ c o, w.heap[c]? = some o → w'.heap[c]? = some o ∧ c < w.heap.size := fun c o h => by
    have hl : c < w.heap.size := by
      rcases Nat.lt_or_ge c w.heap.size with h2 | h2
      · exact h2
      · rw [Array.getElem?_eq_none h2] at h; cases h
    exact ⟨(hb.block c hl).trans h, hl⟩
  rcases hrow with ⟨rfl, hz⟩ | ⟨g, cap, cur, rfl, hg, hgb, h1, h2, h3, h4⟩
  · refine ⟨_, H, M, rfl, ⟨hb.os.trans hh.os, hb.tape.trans hh.tape, hb.output.trans hh.output, Nat.le_trans hh.size hb.size, fun c o h => (hold c o (hh.h c o h)).1, fun c o h => (hold c o (hh.m c o h)).1, hh.d⟩, _, ⟨none, 0, by rw [hz], rfl⟩, ?_⟩
    refine ⟨fun _ => none, M, (fun _ _ h => nomatch h), Le.refl _, fun _ => .inl rfl, .inr ⟨hz, none, by rw [hz]⟩, s3⟩
  · have hfr : Fresh H M g := by
      constructor
      · cases e : H g with
        | none => rfl
        | some o => have := (hold g o (hh.h g o e)).2; omega
      · cases e : M g with
        | none => rfl
        | some o => have := (hold g o (hh.m g o e)).2; omega
    refine ⟨_, H, upd M g (.cells cur 3 (0, 0)), rfl, ⟨hb.os.trans hh.os, hb.tape.trans hh.tape, hb.output.trans hh.output, Nat.le_trans hh.size hb.size, fun c o h => (hold c o (hh.h c o h)).1, fun c o h => ?_, fun c h => ?_⟩, _, ⟨some ⟨g, 0, none⟩, cap, rfl, rfl⟩, ?_⟩
    · by_cases e : c = g
      · subst e; rw [upd_same] at h; cases h; exact hgb
      · rw [upd_ne e] at h; exact (hold c o (hh.m c o h)).1
    · by_cases e : c = g
      · subst e; exact absurd hfr.1 h
      · rw [upd_ne e]; exact hh.d c h
    · refine star_monoL (C := SO 3 1 _ _ _) (fun H M h => .inl (own_row rfl h1 (by omega) (by rw [Nat.mul_one] at h4; exact h4) h)) (own_new hfr s3)
end Go.Proofs.Ytldonbnjefhfdaa
/- The reference's keys: Less, May, Next. -/
namespace Go.Proofs.Ytldonbnjefhfdaa
open Go.Cam
set_option maxRecDepth 100000
theorem Key.lt_iff (a b : Key) : a.lt b = true ↔ a.obj < b.obj ∨ (a.obj = b.obj ∧ (a.kind < b.kind ∨ (a.kind = b.kind ∧ a.off < b.off))) := by
  unfold Key.lt
  rw [decide_eq_true_eq]
  simp only [orI, cmpI]
  repeat' split
  all_goals omega
def Key.next (k : Key) : Option Key :=
  if k.off < 2147483647 then some ⟨k.obj, k.kind, IntKind.i64.wrap (k.off + 1)⟩
  else if k.kind < 255 then some ⟨k.obj, IntKind.i64.wrap (k.kind + 1), 0⟩
  else if k.obj < 2147483647 then some ⟨IntKind.i64.wrap (k.obj + 1), 0, 0⟩
  else none
end Go.Proofs.Ytldonbnjefhfdaa
/- The reference's nodes: Keys, Least. -/
namespace Go.Proofs.Ytldonbnjefhfdaa
open Go.Cam
set_option maxRecDepth 100000
def nkeys (x : Node) : List Key := x.items.map Item.key ++ x.kids.map Kid.key
end Go.Proofs.Ytldonbnjefhfdaa
/- The reference's rows: Get. -/
namespace Go.Proofs.Ytldonbnjefhfdaa
open Go.Cam
set_option maxRecDepth 100000
end Go.Proofs.Ytldonbnjefhfdaa
/- Trees that are laid down; find.walk.leaf. -/
namespace Go.Proofs.Ytldonbnjefhfdaa
open Go.Cam
set_option maxRecDepth 100000
def nd (g : Int → Option (Node × Plc)) (k : Int) : Node := match g k with | some q => q.1 | none => ⟨0, [], []⟩
def kidN (g : Int → Option (Node × Plc)) (key : Key) (k : Int) : Int := ((nd g k).kids.getD (seekX (nd g k) key) default).addr
def leafN (g : Int → Option (Node × Plc)) (key : Key) : Nat → Int → Int
  | 0, k => k
  | h + 1, k => leafN g key h (kidN g key k)
/-- a tree of a height, laid down -/
def Tr (σ : Ct) (g : Int → Option (Node × Plc)) : Nat → Int → Prop
  | 0, k => (∃ u, Held σ g k (nd g k) u) ∧ (nd g k).level = 0
  | h + 1, k => (∃ u, Held σ g k (nd g k) u) ∧ (nd g k).level = (h + 1 : Nat) ∧ 0 < (nd g k).kids.length ∧ ∀ i, i < (nd g k).kids.length → Tr σ g h ((nd g k).kids.getD i default).addr
theorem Tr.held {σ : Ct} {g : Int → Option (Node × Plc)} : ∀ {h : Nat} {k : Int}, Tr σ g h k → ∃ u, Held σ g k (nd g k) u
  | 0, _, t => t.1
  | _ + 1, _, t => t.1
theorem Tr.lv {σ : Ct} {g : Int → Option (Node × Plc)} : ∀ {h : Nat} {k : Int}, Tr σ g h k → (nd g k).level = (h : Nat)
  | 0, _, t => t.2
  | _ + 1, _, t => t.2.1
theorem Tr.seek {σ : Ct} {g : Int → Option (Node × Plc)} {h : Nat} {k : Int} (t : Tr σ g (h + 1) k) (key : Key) : seekX (nd g k) key < (nd g k).kids.length := by
  have := seekN_le (fun i => !(key.lt ((nd g k).kids.getD i default).key)) (nd g k).kids.length 0
  have h2 := t.2.2.1
  have h3 := t.2.1
  unfold seekX; rw [if_neg (by omega)]; omega
end Go.Proofs.Ytldonbnjefhfdaa
/- find.Get, Height, Path. -/
namespace Go.Proofs.Ytldonbnjefhfdaa
open Go.Cam
set_option maxRecDepth 100000
theorem Tr.leaf {σ : Ct} {g : Int → Option (Node × Plc)} (key : Key) : ∀ {h : Nat} {k : Int}, Tr σ g h k → Tr σ g 0 (leafN g key h k)
  | 0, _, t => t
  | h + 1, k, t => Tr.leaf key (h := h) (k := kidN g key k) (t.2.2.2 _ (t.seek key))
end Go.Proofs.Ytldonbnjefhfdaa
/- find.Height, Path. -/
namespace Go.Proofs.Ytldonbnjefhfdaa
open Go.Cam
set_option maxRecDepth 100000
end Go.Proofs.Ytldonbnjefhfdaa
/- What a scan tells, of a tree that is laid down. -/
namespace Go.Proofs.Ytldonbnjefhfdaa
open Go.Cam
set_option maxRecDepth 100000
theorem nodeOk_kids {x : Node} (h : nodeOk x = true) (h0 : x.level ≠ 0) : 2 ≤ x.kids.length ∧ x.kids.length ≤ 12 ∧ x.items.length = 0 := by
  unfold nodeOk at h; rw [if_neg h0] at h
  simp only [Bool.and_eq_true, decide_eq_true_eq] at h; omega
end Go.Proofs.Ytldonbnjefhfdaa
/- find.Scan$1 on a leaf. -/
namespace Go.Proofs.Ytldonbnjefhfdaa
open Go.Cam
set_option maxRecDepth 100000
def Out.parts (r : Nat) (out : List Item) (q : Option Addr × Nat × (Nat → Option Addr × Nat)) : List HP := [Box r 70 [.slice q.1 out.length q.2.1], SO 114 4 (.slice q.1 out.length q.2.1) out.length (itemRow q.2.2 out), Fam out.length (itemFam q.2.2 out)]
end Go.Proofs.Ytldonbnjefhfdaa
/- The reference's rows: Scan. -/
namespace Go.Proofs.Ytldonbnjefhfdaa
open Go.Cam
set_option maxRecDepth 100000
end Go.Proofs.Ytldonbnjefhfdaa
/- The reference's rows: SameItems. -/
namespace Go.Proofs.Ytldonbnjefhfdaa
open Go.Cam
set_option maxRecDepth 100000
end Go.Proofs.Ytldonbnjefhfdaa
/- The reference's rows: cut. -/
namespace Go.Proofs.Ytldonbnjefhfdaa
open Go.Cam
set_option maxRecDepth 100000
theorem lk_rem {P : Program} {l : List (Nat × Value)} {As : List HP} {d : Nat} {oty : TypeId} {pos : String} {af : Array Edge} {g : Option (Nat × Bool)} {t t2 : TypeId} {x y : Operand} {kd : IntKind} {p q : Int} (hq : q ≠ 0) (hx : ∀ j, ev (mk l j) x = .int kd p := by intro j; rfl) (hy : ∀ j, ev (mk l j) y = .int kd q := by intro j; rfl) :
    LookS P ⟨some d, .binOp .rem t x y t2, oty, pos, af, g⟩ l As (.int kd (p.tmod q)) := .mk fun j _ _ _ => qt_bin rfl rfl (by rw [hx j, hy j]; exact cst_rem hq)
end Go.Proofs.Ytldonbnjefhfdaa
