/- find.Height, Path. -/
import Derived.Test.YtgbbcpfnmkeijaaGreatGrtAP
import Derived.Test.YtgbbcpfnmkeijaaGreatCamAQ
namespace Go.Proofs.YtgbbcpfnmkeijaaGreat
open Go.Cam
set_option maxRecDepth 100000
theorem height0_c (p : Nat) (k : Int) (hk : k = 0) : Ctr Tryz.prog 34 [.pointer (some ⟨p, 0, none⟩), .int .i64 k] [] (fun v Bs => v = .tuple #[.int .i64 0, .int .i64 0] ∧ Bs = []) := by
  subst hk
  refine s_enter 22 [(0, _), (1, _)] (fun F => [F]) Tryz.func34 fun F => ?_
  refine go_ ?_
  exact s_rett (rs := [.tmp 4, .tmp 5]) (vs := [_, _]) Tryz.func34 rfl (by intro j; refine RVS.tmp _ rfl ?_; refine RVS.tmp _ rfl ?_; exact RVS.nil) rfl (⟨rfl, rfl⟩) (by repeat (first | exact Ent.nil | refine Ent.per (by repeat (first | with_reducible exact Sel.here | with_reducible apply Sel.there)) ?_ | refine Ent.cons (by repeat (first | with_reducible exact Sel.here | with_reducible apply Sel.there)) ?_))
end Go.Proofs.YtgbbcpfnmkeijaaGreat
/- What a scan tells, of a tree that is laid down. -/
namespace Go.Proofs.YtgbbcpfnmkeijaaGreat
open Go.Cam
set_option maxRecDepth 100000
def scanStop (to : Key) (most : Int) (k : Key) (out : List Item) : Bool := to.lt k || decide ((out.length : Int) ≥ most)
def scanItems (to : Key) (most : Int) : List Item → List Item → List Item
  | [], out => out
  | x :: l, out => if scanStop to most x.key out then out else scanItems to most l (out ++ [x])
def scanKids (to : Key) (most : Int) (rec : Int → List Item → List Item) : List Kid → List Item → List Item
  | [], out => out
  | y :: l, out => if scanStop to most y.key out then out else scanKids to most rec l (rec y.addr out)
def scanN (g : Int → Option (Node × Plc)) (fr to : Key) (most : Int) : Nat → Int → List Item → List Item
  | 0, k, out => scanItems to most ((nd g k).items.drop (seekX (nd g k) fr)) out
  | h + 1, k, out => scanKids to most (scanN g fr to most h) ((nd g k).kids.drop (seekX (nd g k) fr)) out
theorem nodeOk_items {x : Node} (h : nodeOk x = true) (h0 : x.level = 0) : 1 ≤ x.items.length ∧ x.items.length ≤ 6 ∧ x.kids.length = 0 := by
  unfold nodeOk at h; rw [if_pos h0] at h
  simp only [Bool.and_eq_true, decide_eq_true_eq] at h; omega
theorem nodeOk_kids {x : Node} (h : nodeOk x = true) (h0 : x.level ≠ 0) : 2 ≤ x.kids.length ∧ x.kids.length ≤ 12 ∧ x.items.length = 0 := by
  unfold nodeOk at h; rw [if_neg h0] at h
  simp only [Bool.and_eq_true, decide_eq_true_eq] at h; omega
end Go.Proofs.YtgbbcpfnmkeijaaGreat
/- find.Scan$1 on a leaf. -/
namespace Go.Proofs.YtgbbcpfnmkeijaaGreat
open Go.Cam
set_option maxRecDepth 100000
theorem getD_snoc_lt {α : Type} [Inhabited α] (l : List α) (x : α) {q : Nat} (h : q < l.length) : (l ++ [x]).getD q default = l.getD q default := by
  rw [List.getD_eq_getElem?_getD, List.getD_eq_getElem?_getD, List.getElem?_append_left h]
theorem getD_snoc_eq {α : Type} [Inhabited α] (l : List α) (x : α) : (l ++ [x]).getD l.length default = x := by
  simp [List.getD_eq_getElem?_getD]
theorem items_snoc_row (w : Nat → Option Addr × Nat) (l : List Item) (x : Item) (ux : Option Addr × Nat) (q : Nat) (hq : q < l.length + 1) : rcat l.length (itemRow w l) (fun _ => [.int .i64 x.key.obj, .int .i64 x.key.kind, .int .i64 x.key.off, .slice ux.1 x.val.length ux.2]) q = itemRow (wset w l.length ux) (l ++ [x]) q := by
  unfold rcat itemRow wset
  by_cases h : q < l.length
  · rw [if_pos h, getD_snoc_lt l x h, if_neg (by omega)]
  · have : q = l.length := by omega
    subst this
    rw [if_neg h, getD_snoc_eq, if_pos rfl]
theorem items_snoc_fam (w : Nat → Option Addr × Nat) (l : List Item) (x : Item) (ux : Option Addr × Nat) (q : Nat) (hq : q < l.length) (H M : Heap) (h : (itemFam w l q).p H M) : (itemFam (wset w l.length ux) (l ++ [x]) q).p H M := by
  unfold itemFam wset at *
  rw [getD_snoc_lt l x hq, if_neg (by omega)]; exact h
theorem items_snoc_new (w : Nat → Option Addr × Nat) (l : List Item) (x : Item) (ux : Option Addr × Nat) (H M : Heap) (h : (BS (.slice ux.1 x.val.length ux.2) x.val).p H M) : (itemFam (wset w l.length ux) (l ++ [x]) l.length).p H M := by
  unfold itemFam wset
  rw [getD_snoc_eq, if_pos rfl]; exact h
def Out.parts (r : Nat) (out : List Item) (q : Option Addr × Nat × (Nat → Option Addr × Nat)) : List HP := [Box r 37 [.slice q.1 out.length q.2.1], SO 51 4 (.slice q.1 out.length q.2.1) out.length (itemRow q.2.2 out), Fam out.length (itemFam q.2.2 out)]
abbrev OutA (r : Nat) (out : List Item) : HP := EX (fun _ : Option Addr × Nat × (Nat → Option Addr × Nat) => True) (Out.parts r out)
/-- the closure's boxes -/
structure ScB where
  w : Nat
  fr : Nat
  to : Nat
  out : Nat
  most : Nat
  below : Nat
  wk : Nat
abbrev bW (y : ScB) : HP := Box y.w 112 [.pointer (some ⟨y.wk, 0, none⟩)]
abbrev bF (y : ScB) (fr : Key) : HP := Box y.fr 49 fr.row
abbrev bT (y : ScB) (to : Key) : HP := Box y.to 49 to.row
abbrev bM (y : ScB) (most : Int) : HP := Box y.most 3 [.int .i64 most]
abbrev bB (y : ScB) : HP := Box y.below 121 [.func (.func 51) #[] #[.pointer (some ⟨y.w, 0, none⟩), .pointer (some ⟨y.fr, 0, none⟩), .pointer (some ⟨y.to, 0, none⟩), .pointer (some ⟨y.out, 0, none⟩), .pointer (some ⟨y.most, 0, none⟩), .pointer (some ⟨y.below, 0, none⟩)]]
end Go.Proofs.YtgbbcpfnmkeijaaGreat
/- The reference's rows: Scan. -/
namespace Go.Proofs.YtgbbcpfnmkeijaaGreat
open Go.Cam
set_option maxRecDepth 100000
def rscanP (fr to : Key) (k : Key) : Bool := !(k.lt fr) && !(to.lt k)
end Go.Proofs.YtgbbcpfnmkeijaaGreat
/- The reference's rows: SameItems. -/
namespace Go.Proofs.YtgbbcpfnmkeijaaGreat
open Go.Cam
set_option maxRecDepth 100000
set_option maxHeartbeats 8000000 in
theorem rsame_c {A B : HP} {a b : Option Addr} {c d : Nat} {w u : Nat → Option Addr × Nat} (l m : List Item) [Rd A 4 (.slice a l.length c) l.length (itemRow w l)] [Rd B 4 (.slice b m.length d) m.length (itemRow u m)] (hn : l.length < 1000000) (hm : m.length < 1000000) (he : l = m) (hb : ∀ x ∈ l, Bys x.val ∧ x.val.length < 1000000) : Ctr Tryz.prog 21 [.slice a l.length c, .slice b m.length d] [A, Fam l.length (itemFam w l), B, Fam m.length (itemFam u m)]
    (fun v Bs => v = .bool true ∧ Bs = [A, B]) := by
  subst he
  refine s_enter 43 [(0, _), (1, _)] (fun F => [_, _, _, _, F]) Tryz.func21 fun F => ?_
  refine go_ ?_
  refine s_ine (fun h => ?_) (fun h => ?_)
  · exact absurd rfl h
  refine go_ ?_
  refine s_loop (fun i : Nat => [(0, .slice a l.length c), (1, .slice b l.length d), (5, .int .i64 i)]) (fun _ => [A, Fam l.length (itemFam w l), B, Fam l.length (itemFam u l), F]) (fun i => i ≤ l.length) (fun i => l.length - i) 0 (Nat.zero_le _) (by repeat (first | exact Ent.nil | refine Ent.per (by repeat (first | with_reducible exact Sel.here | with_reducible apply Sel.there)) ?_ | refine Ent.cons (by repeat (first | with_reducible exact Sel.here | with_reducible apply Sel.there)) ?_)) ?_
  rintro i hi next
  refine go_ ?_
  refine s_if (fun h => ?_) (fun h => ?_)
  · have hi2 : i < l.length := by omega
    refine go_ ?_
    refine s_get i (F := itemFam w l) (m := l.length) (by repeat (first | with_reducible exact Sel.here | with_reducible apply Sel.there)) hi2 ?_
    refine s_open (B := BS (.slice (w i).1 (l.getD i default).val.length (w i).2) (l.getD i default).val) (fun _ _ q => q) ?_
    refine s_get i (F := itemFam u l) (m := l.length) (by repeat (first | with_reducible exact Sel.here | with_reducible apply Sel.there)) hi2 ?_
    refine s_open (B := BS (.slice (u i).1 (l.getD i default).val.length (u i).2) (l.getD i default).val) (fun _ _ q => q) ?_
    refine s_drawN 0 [.q 0, .q 1, .q 2, .q 3, .q 4, .q 5, .q 6, .q 7, .q 8, .q 9, .q 10, .q 11, .q 12, .q 13, .q 14, .q 15, .q 16, .q 17, .q 18, .q 19, .q 20, .q 21, .q 22, .q 23, .q 24, .q 25] ?_
    refine do_ ?_
    refine d_look rfl (lk_ldeN (sz := 4) (fo := 0) (n := l.length) (i := i) (v := .slice a l.length c) (vs := (l.getD i default).key.row) (s := (by repeat (first | with_reducible exact SelR.here | with_reducible apply SelR.there)))) ?_
    refine do_ ?_
    refine d_look rfl (lk_ldeN (sz := 4) (fo := 0) (n := l.length) (i := i) (v := .slice b l.length d) (vs := (l.getD i default).key.row) (s := (by repeat (first | with_reducible exact SelR.here | with_reducible apply SelR.there)))) ?_
    refine do_ ?_
    refine d_look rfl lk_nes ?_
    rw [show (!decide ((l.getD i default).key = (l.getD i default).key)) = false by simp]
    refine do_ ?_
    refine d_look rfl (lk_b2s (a := (w i).1) (c := (w i).2) (m := (l.getD i default).val.length) (s := (l.getD i default).val) (by repeat (first | with_reducible exact SelR.here | with_reducible apply SelR.there)) rfl) ?_
    refine do_ ?_
    refine d_look rfl (lk_b2s (a := (u i).1) (c := (u i).2) (m := (l.getD i default).val.length) (s := (l.getD i default).val) (by repeat (first | with_reducible exact SelR.here | with_reducible apply SelR.there)) rfl) ?_
    refine do_ ?_
    rw [show (!((strB (l.getD i default).val).toList == (strB (l.getD i default).val).toList)) = false by simp]
    refine go_ ?_
    exact s_entF (by repeat (first | exact Ent.nil | refine Ent.per (by repeat (first | with_reducible exact Sel.here | with_reducible apply Sel.there)) ?_ | refine Ent.cons (by repeat (first | with_reducible exact Sel.here | with_reducible apply Sel.there)) ?_)) (s_keep _ (next (i + 1) (by omega) (by omega)))
  · refine go_ ?_
    exact s_ret1 (rs := [.tmp 4]) Tryz.func21 rfl (by intro j; refine RVS.tmp _ rfl ?_; exact RVS.nil) (⟨rfl, rfl⟩) (by repeat (first | exact Ent.nil | refine Ent.per (by repeat (first | with_reducible exact Sel.here | with_reducible apply Sel.there)) ?_ | refine Ent.cons (by repeat (first | with_reducible exact Sel.here | with_reducible apply Sel.there)) ?_))
end Go.Proofs.YtgbbcpfnmkeijaaGreat
/- The reference's rows: cut. -/
namespace Go.Proofs.YtgbbcpfnmkeijaaGreat
open Go.Cam
set_option maxRecDepth 100000
theorem lk_rem {P : Program} {l : List (Nat × Value)} {As : List HP} {d : Nat} {oty : TypeId} {pos : String} {af : Array Edge} {g : Option (Nat × Bool)} {t t2 : TypeId} {x y : Operand} {kd : IntKind} {p q : Int} (hq : q ≠ 0) (hx : ∀ j, ev (mk l j) x = .int kd p := by intro j; rfl) (hy : ∀ j, ev (mk l j) y = .int kd q := by intro j; rfl) :
    LookS P ⟨some d, .binOp .rem t x y t2, oty, pos, af, g⟩ l As (.int kd (p.tmod q)) := .mk fun j _ _ _ => qt_bin rfl rfl (by rw [hx j, hy j]; exact cst_rem hq)
def cutI (l : List Int) (i : Nat) : Int :=
  if l.length = 0 then 0 else if l.getD (i % l.length) 0 < 0 then -(l.getD (i % l.length) 0 + 1) else l.getD (i % l.length) 0
set_option maxHeartbeats 4000000 in
theorem cut_c {A : HP} {a : Option Addr} {c : Nat} (l : List Int) (i : Nat) [Rd A 1 (.slice a l.length c) l.length (pathR l)] (hn : l.length < 9223372036854775808) (hi : i < 1000000) (hr : ∀ q, q < l.length → -9223372036854775808 ≤ l.getD q 0 ∧ l.getD q 0 ≤ 9223372036854775807) : Ctr Tryz.prog 76 [.slice a l.length c, .int .i64 i] [A] (fun v Bs => v = .int .i64 (cutI l i) ∧ Bs = [A]) := by
  unfold cutI
  refine s_enter 22 [(0, _), (1, _)] (fun F => [_, F]) Tryz.func76 fun F => ?_
  refine go_ ?_
  refine s_ieq (fun h => ?_) (fun h => ?_)
  · rw [if_pos (by omega)]
    refine go_ ?_
    exact s_ret1 (rs := [.tmp 4]) Tryz.func76 rfl (by intro j; refine RVS.tmp _ rfl ?_; exact RVS.nil) (⟨rfl, rfl⟩) (by repeat (first | exact Ent.nil | refine Ent.per (by repeat (first | with_reducible exact Sel.here | with_reducible apply Sel.there)) ?_ | refine Ent.cons (by repeat (first | with_reducible exact Sel.here | with_reducible apply Sel.there)) ?_))
  · rw [if_neg (by omega)]
    have hq : i % l.length < l.length := Nat.mod_lt _ (by omega)
    have hrq := hr _ hq
    have em : (i : Int).tmod (l.length : Int) = ((i % l.length : Nat) : Int) := by rw [Int.tmod_eq_emod_of_nonneg (by omega)]; omega
    refine go_ ?_
    refine s_look (lk_rem (q := (l.length : Int)) h) ?_
    rw [em]
    refine go_ ?_
    refine s_if (fun h2 => ?_) (fun h2 => ?_)
    · rw [if_pos h2]
      refine go_ ?_
      rw [wrap_id (x := 0 - (l.getD (i % l.length) 0 + 1)) (by omega) (by omega), show 0 - (l.getD (i % l.length) 0 + 1) = -(l.getD (i % l.length) 0 + 1) by omega]
      exact s_ret1 (rs := [.tmp 4]) Tryz.func76 rfl (by intro j; refine RVS.tmp _ rfl ?_; exact RVS.nil) (⟨rfl, rfl⟩) (by repeat (first | exact Ent.nil | refine Ent.per (by repeat (first | with_reducible exact Sel.here | with_reducible apply Sel.there)) ?_ | refine Ent.cons (by repeat (first | with_reducible exact Sel.here | with_reducible apply Sel.there)) ?_))
    · rw [if_neg h2]
      refine go_ ?_
      exact s_ret1 (rs := [.tmp 4]) Tryz.func76 rfl (by intro j; refine RVS.tmp _ rfl ?_; exact RVS.nil) (⟨rfl, rfl⟩) (by repeat (first | exact Ent.nil | refine Ent.per (by repeat (first | with_reducible exact Sel.here | with_reducible apply Sel.there)) ?_ | refine Ent.cons (by repeat (first | with_reducible exact Sel.here | with_reducible apply Sel.there)) ?_))
end Go.Proofs.YtgbbcpfnmkeijaaGreat
/- The reference's rows: Put. -/
namespace Go.Proofs.YtgbbcpfnmkeijaaGreat
open Go.Cam
set_option maxRecDepth 100000
def iputC (k : Key) (x : Item) (dn : Bool) : Bool := !dn && (k.lt x.key || decide (x.key = k))
def iputL (k : Key) (v : List Nat) : List Item → List Item → Bool → List Item × Bool
  | [], out, dn => (out, dn)
  | x :: l, out, dn => iputL k v l ((if iputC k x dn then out ++ [⟨k, v⟩] else out) ++ if x.key = k then [] else [x]) (dn || iputC k x dn)
def iputF (l : List Item) (k : Key) (v : List Nat) : List Item := (iputL k v l [] false).1 ++ if (iputL k v l [] false).2 then [] else [⟨k, v⟩]
abbrev IRow (a : Option Addr) (c : Nat) (w : Nat → Option Addr × Nat) (l : List Item) : HP := SO 51 4 (.slice a l.length c) l.length (itemRow w l)
abbrev IFam (w : Nat → Option Addr × Nat) (l : List Item) : HP := Fam l.length (itemFam w l)
theorem s_isnoc {P : Program} {f : FuncId} {n : Nat} {R : Value → HP} {K : List It} {s : List (Nat × Value)} {As Bs Rs Zs : List HP} {a : Option Addr} {c : Nat} {w : Nat → Option Addr × Nat} {l : List Item} {r : List Value} (x : Item) (u : Option Addr × Nat)
    (e1 : Sel (SO 51 4 (.slice a (l.length + 1) c) (l.length + 1) (rcat l.length (itemRow w l) (fun _ => r))) As Bs) (e2 : Sel (IFam w l) Bs Rs) (e3 : Sel (BS (.slice u.1 x.val.length u.2) x.val) Rs Zs)
    (hr : r = [.int .i64 x.key.obj, .int .i64 x.key.kind, .int .i64 x.key.off, .slice u.1 x.val.length u.2])
    (h : RunS P f n R K s (IRow a c (wset w l.length u) (l ++ [x]) :: IFam (wset w l.length u) (l ++ [x]) :: Zs)) : RunS P f n R K s As := by
  subst hr
  refine s_front e1 ?_
  refine s_open (SO.cg (itemRow (wset w l.length u) (l ++ [x])) fun q hq => items_snoc_row w l x u q hq) ?_
  refine s_front (.there e2) ?_
  refine s_open (Fam.cg (itemFam (wset w l.length u) (l ++ [x])) (items_snoc_fam w l x u)) ?_
  refine s_front (.there (.there e3)) ?_
  refine s_open (B := itemFam (wset w l.length u) (l ++ [x]) l.length) (items_snoc_new w l x u) ?_
  refine s_famS (m := l.length) (F := itemFam (wset w l.length u) (l ++ [x])) (.there .here) .here ?_
  refine s_front (.there .here) ?_
  have e : l.length + 1 = (l ++ [x]).length := by simp
  rw [e]
  exact h
set_option maxHeartbeats 8000000 in
theorem rput_c {A : HP} {a : Option Addr} {c : Nat} {w : Nat → Option Addr × Nat} {va : Option Addr} {vc : Nat} (l : List Item) (k : Key) (v : List Nat) [Rd A 4 (.slice a l.length c) l.length (itemRow w l)] (hn : l.length < 1000000) (hv : v.length < 1000000) : Ctr Tryz.prog 37 [.slice a l.length c, k.v, .slice va v.length vc] [A, IFam w l, BS (.slice va v.length vc) v]
    (fun r Bs => ∃ a2 c2 w2, r = .slice a2 (iputF l k v).length c2 ∧ Bs = [IRow a2 c2 w2 (iputF l k v), IFam w2 (iputF l k v)]) := by
  refine s_enter 72 [(0, _), (1, _), (2, _)] (fun F => [_, _, _, F]) Tryz.func37 fun F => ?_
  refine go_ ?_
  refine s_box fun r4 => ?_
  refine go_ ?_
  refine s_bs0 (sz := 4) (row := itemRow (fun _ => (none, 0)) []) (fun a0 => ?_)
  refine s_open (B := IRow a0 0 (fun _ => (none, 0)) []) (SO.of) ?_
  refine s_fam0 (F := itemFam (fun _ => (none, 0)) []) ?_
  refine s_open (B := IFam (fun _ => (none, 0)) []) (fun _ _ q => q) ?_
  refine go_ ?_
  refine s_loop (fun q : Nat × List Item × Option Addr × Nat × (Nat → Option Addr × Nat) × Bool => [(0, .slice a l.length c), (2, .slice va v.length vc), (4, .pointer (some ⟨r4, 0, none⟩)), (7, .slice q.2.2.1 q.2.1.length q.2.2.2.1), (8, .bool q.2.2.2.2.2), (9, .int .i64 q.1)])
    (fun q => [A, IFam w l, BS (.slice va v.length vc) v, IRow q.2.2.1 q.2.2.2.1 q.2.2.2.2.1 q.2.1, IFam q.2.2.2.2.1 q.2.1, Box r4 49 k.row, F])
    (fun q => q.1 ≤ l.length ∧ q.2.1.length ≤ 2 * q.1 ∧ iputL k v (l.drop q.1) q.2.1 q.2.2.2.2.2 = iputL k v l [] false) (fun q => l.length - q.1) (0, [], a0, 0, fun _ => (none, 0), false) ⟨Nat.zero_le _, Nat.le_refl _, rfl⟩ (by repeat (first | exact Ent.nil | refine Ent.per (by repeat (first | with_reducible exact Sel.here | with_reducible apply Sel.there)) ?_ | refine Ent.cons (by repeat (first | with_reducible exact Sel.here | with_reducible apply Sel.there)) ?_)) ?_
  rintro ⟨i, o, b, d, wo, dn⟩ ⟨hi, ho, hq⟩ next
  dsimp only at hi ho hq next ⊢
  refine go_ ?_
  refine s_if (fun h => ?_) (fun h => ?_)
  · have hi2 : i < l.length := by omega
    have hx : l.getD i default = l[i] := by simp [List.getD_eq_getElem?_getD, hi2]
    rw [List.drop_eq_getElem_cons hi2, ← hx, iputL] at hq
    refine go_ ?_
    refine s_drawN 0 [.q 0, .q 1, .q 2, .q 3, .q 4, .q 5, .q 6, .q 7] ?_
    refine do_ ?_
    refine d_look rfl (lk_ldeN (sz := 4) (fo := 0) (n := l.length) (i := i) (v := .slice a l.length c) (vs := (l.getD i default).key.row) (s := (by repeat (first | with_reducible exact SelR.here | with_reducible apply SelR.there)))) ?_
    refine do_ ?_
    refine d_call (ho := rfl) (v := .bool (k.lt (l.getD i default).key)) (sp := (by repeat (first | exact Split.nil | apply Split.perx (by repeat (first | with_reducible exact Sel.here | with_reducible apply Sel.there)) (by infer_instance) | apply Split.cons (by repeat (first | with_reducible exact Sel.here | with_reducible apply Sel.there))))) (hs := rless_c k (l.getD i default).key) (hq := by rintro r Bs ⟨rfl, rfl⟩; exact ⟨rfl, (by (try simp only [List.cons_append, List.nil_append]); repeat (first | exact Ent.nil | refine Ent.per (by repeat (first | with_reducible exact Sel.here | with_reducible apply Sel.there)) ?_ | refine Ent.cons (by repeat (first | with_reducible exact Sel.here | with_reducible apply Sel.there)) ?_))⟩) (h := ?_)
    refine do_ ?_
    refine go_ ?_
    apply s_join (α := List Item × Option Addr × Nat × (Nat → Option Addr × Nat)) (fun q => [(0, .slice a l.length c), (2, .slice va v.length vc), (4, .pointer (some ⟨r4, 0, none⟩)), (7, .slice q.2.1 q.1.length q.2.2.1), (8, .bool (dn || iputC k (l.getD i default) dn)), (9, .int .i64 i)])
      (fun q => [A, IFam w l, BS (.slice va v.length vc) v, IRow q.2.1 q.2.2.1 q.2.2.2 q.1, IFam q.2.2.2 q.1, Box r4 49 k.row, F]) (fun q => q.1 = if iputC k (l.getD i default) dn then o ++ [⟨k, v⟩] else o)
    case h =>
      intro K
      apply s_join (α := Unit) (fun _ => [(0, .slice a l.length c), (2, .slice va v.length vc), (4, .pointer (some ⟨r4, 0, none⟩)), (7, .slice b o.length d), (8, .bool dn), (9, .int .i64 i)])
        (fun _ => [A, IFam w l, BS (.slice va v.length vc) v, IRow b d wo o, IFam wo o, Box r4 49 k.row, F]) (fun _ => dn = false ∧ iputC k (l.getD i default) dn = true)
      case h =>
        intro K8
        refine s_drawN 0 [.q 0, .q 1, .q 2, .q 3, .q 4, .q 5, .q 6, .q 7, .q 8, .q 9, .q 10, .q 11, .q 12, .q 13] ?_
        refine do_ ?_
        cases e1 : dn with
        | true =>
          rw [e1] at K K8
          refine do_ ?_
          refine go_ ?_
          exact s_entF (by repeat (first | exact Ent.nil | refine Ent.per (by repeat (first | with_reducible exact Sel.here | with_reducible apply Sel.there)) ?_ | refine Ent.cons (by repeat (first | with_reducible exact Sel.here | with_reducible apply Sel.there)) ?_)) (s_keep _ (K (o, b, d, wo) rfl))
        | false =>
          rw [e1] at K K8
          refine do_ ?_
          cases e2 : k.lt (l.getD i default).key with
          | true =>
            have e3 : iputC k (l.getD i default) false = true := by unfold iputC; rw [e2]; rfl
            rw [e3] at K
            refine do_ ?_
            refine go_ ?_
            exact s_entF (by repeat (first | exact Ent.nil | refine Ent.per (by repeat (first | with_reducible exact Sel.here | with_reducible apply Sel.there)) ?_ | refine Ent.cons (by repeat (first | with_reducible exact Sel.here | with_reducible apply Sel.there)) ?_)) (s_keep _ (K8 () ⟨rfl, e3⟩))
          | false =>
            refine do_ ?_
            refine d_look rfl (lk_ldeN (sz := 4) (fo := 0) (n := l.length) (i := i) (v := .slice a l.length c) (vs := (l.getD i default).key.row) (s := (by repeat (first | with_reducible exact SelR.here | with_reducible apply SelR.there)))) ?_
            refine do_ ?_
            refine d_look rfl lk_eqs ?_
            cases e4 : decide ((l.getD i default).key = k) with
            | true =>
              have e3 : iputC k (l.getD i default) false = true := by unfold iputC; rw [e2, e4]; rfl
              rw [e3] at K
              refine do_ ?_
              refine go_ ?_
              exact s_entF (by repeat (first | exact Ent.nil | refine Ent.per (by repeat (first | with_reducible exact Sel.here | with_reducible apply Sel.there)) ?_ | refine Ent.cons (by repeat (first | with_reducible exact Sel.here | with_reducible apply Sel.there)) ?_)) (s_keep _ (K8 () ⟨rfl, e3⟩))
            | false =>
              have e3 : iputC k (l.getD i default) false = false := by unfold iputC; rw [e2, e4]; rfl
              rw [e3] at K
              refine do_ ?_
              refine go_ ?_
              exact s_entF (by repeat (first | exact Ent.nil | refine Ent.per (by repeat (first | with_reducible exact Sel.here | with_reducible apply Sel.there)) ?_ | refine Ent.cons (by repeat (first | with_reducible exact Sel.here | with_reducible apply Sel.there)) ?_)) (s_keep _ (K (o, b, d, wo) rfl))
      case K =>
        rintro _ ⟨h1, h2⟩
        rw [h1] at h2
        rw [h1, h2] at K
        refine s_dup (a := BS (.slice va v.length vc) v) (by repeat (first | with_reducible exact Sel.here | with_reducible apply Sel.there)) ?_
        refine s_front (a := IRow b d wo o) (by repeat (first | with_reducible exact Sel.here | with_reducible apply Sel.there)) ?_
        refine s_drawN 2 [.q 0, .q 1, .q 3, .s 2, .s 4, .q 5, .s 6, .s 7, .q 8] ?_
        refine do_ ?_
        refine d_step rfl (st_bs0 (sz := 1) (row := byR v)) ?_
        rintro _ _ ⟨a3, rfl, rfl⟩
        refine do_ ?_
        refine d_step rfl (st_appO (a := a3) (len := 0) (cap := 0) (b := va) (m := v.length) (c := vc) (row2 := byR v) (by repeat (first | with_reducible exact Sel.here | with_reducible apply Sel.there)) (by repeat (first | with_reducible exact SelR.here | with_reducible apply SelR.there)) (by rw [flat_byR']; exact bcl_one v)) ?_
        rintro _ _ ⟨a4, c4, rfl, rfl⟩
        rw [Nat.zero_add]
        refine d_open (SO.cg (byR v) fun q hq => by unfold rcat; rw [if_neg (Nat.not_lt_zero _)]; rfl) ?_
        refine do_ ?_
        refine d_step rfl (st_bs1 (sz := 4) (cells := [.int .i64 k.obj, .int .i64 k.kind, .int .i64 k.off, .slice a4 v.length c4]) rfl) ?_
        rintro _ _ ⟨a5, rfl, rfl⟩
        refine do_ ?_
        refine d_step rfl (st_appO (a := b) (len := o.length) (cap := d) (b := a5) (m := 1) (c := 1) (by repeat (first | with_reducible exact Sel.here | with_reducible apply Sel.there)) (by repeat (first | with_reducible exact SelR.here | with_reducible apply SelR.there)) (by rw [flat_one]; rfl)) ?_
        rintro _ _ ⟨a6, c6, rfl, rfl⟩
        refine do_ ?_
        refine s_nrm ?_
        refine s_fzO (e := 5) (v := .slice a4 v.length c4) (by repeat (first | with_reducible exact Sel.here | with_reducible apply Sel.there)) ?_
        refine s_isnoc ⟨k, v⟩ (a4, c4) (by repeat (first | with_reducible exact Sel.here | with_reducible apply Sel.there)) (by repeat (first | with_reducible exact Sel.here | with_reducible apply Sel.there)) (by repeat (first | with_reducible exact Sel.here | with_reducible apply Sel.there)) rfl ?_
        refine go_ ?_
        rw [show o.length + 1 = (o ++ [(⟨k, v⟩ : Item)]).length by simp]
        exact s_entF (by repeat (first | exact Ent.nil | refine Ent.per (by repeat (first | with_reducible exact Sel.here | with_reducible apply Sel.there)) ?_ | refine Ent.cons (by repeat (first | with_reducible exact Sel.here | with_reducible apply Sel.there)) ?_)) (s_keep _ (K (o ++ [⟨k, v⟩], a6, c6, wset wo o.length (a4, c4)) rfl))
    case K =>
      rintro ⟨o2, b2, d2, w2⟩ h2
      dsimp only at h2 ⊢
      rw [← h2] at hq
      have ho2 : o2.length ≤ 2 * i + 1 := by
        rw [h2]; split
        · simp; omega
        · omega
      generalize (dn || iputC k (l.getD i default) dn) = dn2 at hq ⊢
      refine s_drawN 0 [.q 0, .q 1, .q 2, .q 3, .q 4, .q 5, .q 6] ?_
      refine do_ ?_
      refine d_look rfl (lk_ldeN (sz := 4) (fo := 0) (n := l.length) (i := i) (v := .slice a l.length c) (vs := (l.getD i default).key.row) (s := (by repeat (first | with_reducible exact SelR.here | with_reducible apply SelR.there)))) ?_
      refine do_ ?_
      refine d_look rfl lk_nes ?_
      refine do_ ?_
      cases e4 : decide ((l.getD i default).key = k) with
      | true =>
        rw [if_pos (of_decide_eq_true e4), List.append_nil] at hq
        refine go_ ?_
        exact s_entF (by repeat (first | exact Ent.nil | refine Ent.per (by repeat (first | with_reducible exact Sel.here | with_reducible apply Sel.there)) ?_ | refine Ent.cons (by repeat (first | with_reducible exact Sel.here | with_reducible apply Sel.there)) ?_)) (s_keep _ (next (i + 1, o2, b2, d2, w2, dn2) ⟨by dsimp only; omega, by dsimp only; omega, hq⟩ (by dsimp only; omega)))
      | false =>
        rw [if_neg (of_decide_eq_false e4)] at hq
        refine go_ ?_
        refine s_step (st_bs1 (sz := 4) (cells := itemRow w l i) rfl) ?_
        rintro _ _ ⟨a3, rfl, rfl⟩
        refine go_ ?_
        refine s_step (st_appO (a := b2) (len := o2.length) (cap := d2) (b := a3) (m := 1) (c := 1) (by repeat (first | with_reducible exact Sel.here | with_reducible apply Sel.there)) (by repeat (first | with_reducible exact SelR.here | with_reducible apply SelR.there)) (by rw [flat_one]; rfl)) ?_
        rintro _ _ ⟨a4, c4, rfl, rfl⟩
        refine s_get i (F := itemFam w l) (m := l.length) (by repeat (first | with_reducible exact Sel.here | with_reducible apply Sel.there)) hi2 ?_
        refine s_open (B := BS (.slice (w i).1 (l.getD i default).val.length (w i).2) (l.getD i default).val) (fun _ _ q => q) ?_
        refine s_isnoc (l.getD i default) (w i) (by repeat (first | with_reducible exact Sel.here | with_reducible apply Sel.there)) (by repeat (first | with_reducible exact Sel.here | with_reducible apply Sel.there)) (by repeat (first | with_reducible exact Sel.here | with_reducible apply Sel.there)) rfl ?_
        refine go_ ?_
        rw [show o2.length + 1 = (o2 ++ [l.getD i default]).length by simp]
        exact s_entF (by repeat (first | exact Ent.nil | refine Ent.per (by repeat (first | with_reducible exact Sel.here | with_reducible apply Sel.there)) ?_ | refine Ent.cons (by repeat (first | with_reducible exact Sel.here | with_reducible apply Sel.there)) ?_)) (s_keep _ (next (i + 1, o2 ++ [l.getD i default], a4, c4, wset w2 o2.length (w i), dn2) ⟨by dsimp only; omega, by simp; omega, hq⟩ (by dsimp only; omega)))
  · have e : i = l.length := by omega
    subst e
    rw [List.drop_length, iputL] at hq
    cases hd : dn with
    | true =>
      rw [hd] at hq
      have e2 : iputF l k v = o := by unfold iputF; rw [← hq]; simp
      rw [e2]
      refine go_ ?_
      exact s_ret1 (rs := [.tmp 6]) Tryz.func37 rfl (by intro j; refine RVS.tmp _ rfl ?_; exact RVS.nil) (⟨b, d, wo, rfl, rfl⟩) (by repeat (first | exact Ent.nil | refine Ent.per (by repeat (first | with_reducible exact Sel.here | with_reducible apply Sel.there)) ?_ | refine Ent.cons (by repeat (first | with_reducible exact Sel.here | with_reducible apply Sel.there)) ?_))
    | false =>
      rw [hd] at hq
      have e2 : iputF l k v = o ++ [⟨k, v⟩] := by unfold iputF; rw [← hq]; simp
      rw [e2]
      refine go_ ?_
      refine s_dup (a := BS (.slice va v.length vc) v) (by repeat (first | with_reducible exact Sel.here | with_reducible apply Sel.there)) ?_
      refine s_front (a := IRow b d wo o) (by repeat (first | with_reducible exact Sel.here | with_reducible apply Sel.there)) ?_
      refine s_drawN 2 [.q 0, .q 1, .q 3, .s 2, .s 4, .q 5, .s 6, .s 7, .q 8] ?_
      refine do_ ?_
      refine d_step rfl (st_bs0 (sz := 1) (row := byR v)) ?_
      rintro _ _ ⟨a3, rfl, rfl⟩
      refine do_ ?_
      refine d_step rfl (st_appO (a := a3) (len := 0) (cap := 0) (b := va) (m := v.length) (c := vc) (row2 := byR v) (by repeat (first | with_reducible exact Sel.here | with_reducible apply Sel.there)) (by repeat (first | with_reducible exact SelR.here | with_reducible apply SelR.there)) (by rw [flat_byR']; exact bcl_one v)) ?_
      rintro _ _ ⟨a4, c4, rfl, rfl⟩
      rw [Nat.zero_add]
      refine d_open (SO.cg (byR v) fun q hq => by unfold rcat; rw [if_neg (Nat.not_lt_zero _)]; rfl) ?_
      refine do_ ?_
      refine d_step rfl (st_bs1 (sz := 4) (cells := [.int .i64 k.obj, .int .i64 k.kind, .int .i64 k.off, .slice a4 v.length c4]) rfl) ?_
      rintro _ _ ⟨a5, rfl, rfl⟩
      refine do_ ?_
      refine d_step rfl (st_appO (a := b) (len := o.length) (cap := d) (b := a5) (m := 1) (c := 1) (by repeat (first | with_reducible exact Sel.here | with_reducible apply Sel.there)) (by repeat (first | with_reducible exact SelR.here | with_reducible apply SelR.there)) (by rw [flat_one]; rfl)) ?_
      rintro _ _ ⟨a6, c6, rfl, rfl⟩
      refine do_ ?_
      refine s_nrm ?_
      refine s_fzO (e := 5) (v := .slice a4 v.length c4) (by repeat (first | with_reducible exact Sel.here | with_reducible apply Sel.there)) ?_
      refine s_isnoc ⟨k, v⟩ (a4, c4) (by repeat (first | with_reducible exact Sel.here | with_reducible apply Sel.there)) (by repeat (first | with_reducible exact Sel.here | with_reducible apply Sel.there)) (by repeat (first | with_reducible exact Sel.here | with_reducible apply Sel.there)) rfl ?_
      refine go_ ?_
      rw [show o.length + 1 = (o ++ [(⟨k, v⟩ : Item)]).length by simp]
      exact s_ret1 (rs := [.tmp 6]) Tryz.func37 rfl (by intro j; refine RVS.tmp _ rfl ?_; exact RVS.nil) (⟨a6, c6, wset wo o.length (a4, c4), rfl, rfl⟩) (by repeat (first | exact Ent.nil | refine Ent.per (by repeat (first | with_reducible exact Sel.here | with_reducible apply Sel.there)) ?_ | refine Ent.cons (by repeat (first | with_reducible exact Sel.here | with_reducible apply Sel.there)) ?_))
end Go.Proofs.YtgbbcpfnmkeijaaGreat
