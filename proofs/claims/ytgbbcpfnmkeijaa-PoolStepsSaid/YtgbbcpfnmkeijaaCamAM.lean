/- find.Scan$1 on a leaf. -/
import Derived.Test.YtgbbcpfnmkeijaaFindAR
import Derived.Test.YtgbbcpfnmkeijaaFindAG
namespace Go.Proofs.Ytgbbcpfnmkeijaa
open Go.Cam
set_option maxRecDepth 100000
theorem getD_snoc_lt {α : Type} [Inhabited α] (l : List α) (x : α) {q : Nat} (h : q < l.length) : (l ++ [x]).getD q default = l.getD q default := by
  rw [List.getD_eq_getElem?_getD, List.getD_eq_getElem?_getD, List.getElem?_append_left h]
theorem getD_snoc_eq {α : Type} [Inhabited α] (l : List α) (x : α) : (l ++ [x]).getD l.length default = x := by
  simp [List.getD_eq_getElem?_getD]
theorem items_snoc_row (w : Nat → Option Addr × Nat) (l : List Item) (x : Item) (ux : Option Addr × Nat) (q : Nat) (hq : q < l.length + 1) : rcat l.length (itemRow w l) (fun _ => [.int .i64 x.key.obj, .int .i64 x.key.kind, .int .i64 x.key.off, .slice ux.1 x.val.length ux.2]) q = itemRow (wset w l.length ux) (l ++ [x]) q := by
  unfold rcat itemRow wset
  by_cases h : q < l.length
  · rw [if_pos h, getD_snoc_lt l x h, if_neg (by omega)]
  · have : q = l.length := by omega
    subst this
    rw [if_neg h, getD_snoc_eq, if_pos rfl]
theorem items_snoc_fam (w : Nat → Option Addr × Nat) (l : List Item) (x : Item) (ux : Option Addr × Nat) (q : Nat) (hq : q < l.length) (H M : Heap) (h : (itemFam w l q).p H M) : (itemFam (wset w l.length ux) (l ++ [x]) q).p H M := by
  unfold itemFam wset at *
  rw [getD_snoc_lt l x hq, if_neg (by omega)]; exact h
theorem items_snoc_new (w : Nat → Option Addr × Nat) (l : List Item) (x : Item) (ux : Option Addr × Nat) (H M : Heap) (h : (BS (.slice ux.1 x.val.length ux.2) x.val).p H M) : (itemFam (wset w l.length ux) (l ++ [x]) l.length).p H M := by
  unfold itemFam wset
  rw [getD_snoc_eq, if_pos rfl]; exact h
def Out.parts (r : Nat) (out : List Item) (q : Option Addr × Nat × (Nat → Option Addr × Nat)) : List HP := [Box r 22 [.slice q.1 out.length q.2.1], SO 48 4 (.slice q.1 out.length q.2.1) out.length (itemRow q.2.2 out), Fam out.length (itemFam q.2.2 out)]
abbrev OutA (r : Nat) (out : List Item) : HP := EX (fun _ : Option Addr × Nat × (Nat → Option Addr × Nat) => True) (Out.parts r out)
/-- the closure's boxes -/
structure ScB where
  w : Nat
  fr : Nat
  to : Nat
  out : Nat
  most : Nat
  below : Nat
  wk : Nat
abbrev ScB.ptrs (y : ScB) : List Value := [.pointer (some ⟨y.w, 0, none⟩), .pointer (some ⟨y.fr, 0, none⟩), .pointer (some ⟨y.to, 0, none⟩), .pointer (some ⟨y.out, 0, none⟩), .pointer (some ⟨y.most, 0, none⟩), .pointer (some ⟨y.below, 0, none⟩)]
abbrev bW (y : ScB) : HP := Box y.w 98 [.pointer (some ⟨y.wk, 0, none⟩)]
abbrev bF (y : ScB) (fr : Key) : HP := Box y.fr 27 fr.row
abbrev bT (y : ScB) (to : Key) : HP := Box y.to 27 to.row
abbrev bM (y : ScB) (most : Int) : HP := Box y.most 3 [.int .i64 most]
abbrev bB (y : ScB) : HP := Box y.below 101 [.func (.func 44) #[] #[.pointer (some ⟨y.w, 0, none⟩), .pointer (some ⟨y.fr, 0, none⟩), .pointer (some ⟨y.to, 0, none⟩), .pointer (some ⟨y.out, 0, none⟩), .pointer (some ⟨y.most, 0, none⟩), .pointer (some ⟨y.below, 0, none⟩)]]
abbrev ScanC (p : Nat) (z : PoZ) (σ : Ct) (g : Int → Option (Node × Plc)) (y : ScB) (fr to : Key) (most : Int) (h : Nat) (k lv : Int) (out : List Item) (path : List Int) : Prop :=
  Ctr Try.prog 44 [.int .i64 k, .int .i64 lv, .pointer (some ⟨y.w, 0, none⟩), .pointer (some ⟨y.fr, 0, none⟩), .pointer (some ⟨y.to, 0, none⟩), .pointer (some ⟨y.out, 0, none⟩), .pointer (some ⟨y.most, 0, none⟩), .pointer (some ⟨y.below, 0, none⟩)]
    [Wk y.wk p path, Po p z σ g, OutA y.out out, bW y, bF y fr, bT y to, bM y most, bB y]
    (fun v Bs => v = .int .i64 0 ∧ (scanN g fr to most h k out).length ≤ out.length + 13 ^ (h + 1) ∧ ∃ path', path'.length ≤ path.length + 13 ^ (h + 1) ∧ Bs = [Wk y.wk p path', Po p z σ g, OutA y.out (scanN g fr to most h k out), bW y, bF y fr, bT y to, bM y most, bB y])
set_option maxHeartbeats 8000000 in
theorem scan0_c (p : Nat) (z : PoZ) (σ : Ct) (g : Int → Option (Node × Plc)) (y : ScB) (fr to : Key) (most : Int) (k lv : Int) (out : List Item) (path : List Int) (ht : Tr σ g 0 k) (hlv : lv < 0 ∨ lv = 0) (hp : path.length < 900000) (ho : out.length < 900000) : ScanC p z σ g y fr to most 0 k lv out path := by
  obtain ⟨u0, hh⟩ := ht.held
  have hl0 := ht.lv
  obtain ⟨hi1, hi6, hk0⟩ := nodeOk_items hh.ok (by rw [hl0]; rfl)
  have hsk : seekX (nd g k) fr ≤ (nd g k).items.length := by
    have := seekN_le (fun i => ((nd g k).items.getD i default).key.lt fr) (nd g k).items.length 0
    unfold seekX; rw [if_pos (by rw [hl0]; rfl)]; omega
  refine s_enter 98 [(0, _), (1, _), (2, _), (3, _), (4, _), (5, _), (6, _), (7, _)] (fun F => [_, _, _, _, _, _, _, _, F]) Try.func44 fun F => ?_
  refine go_ ?_
  refine s_call (sp := (by repeat (first | exact Split.nil | apply Split.perx (by repeat (first | with_reducible exact Sel.here | with_reducible apply Sel.there)) (by infer_instance) | apply Split.cons (by repeat (first | with_reducible exact Sel.here | with_reducible apply Sel.there))))) (hs := wat_c y.wk p z σ g k lv (nd g k) u0 path hh (by rw [hl0]; omega) (by omega)) (h := ?_)
  rintro v Bs ⟨u, rfl, rfl⟩
  refine go_ ?_
  refine s_alloc fun r11 => ?_
  refine go_ ?_
  unfold scanN
  revert hsk hk0 hi6 hi1 hl0 hh
  generalize nd g k = L
  intro hh hl0 hi1 hi6 hk0 hsk
  refine s_call (sp := (by repeat (first | exact Split.nil | apply Split.perx (by repeat (first | with_reducible exact Sel.here | with_reducible apply Sel.there)) (by infer_instance) | apply Split.cons (by repeat (first | with_reducible exact Sel.here | with_reducible apply Sel.there))))) (hs := nseek_c L fr (a := u.a) (b := u.b) (c := u.c) (d := u.d) (w := u.w) rfl rfl hh.hs.i hh.hs.k) (h := ?_)
  rintro v Bs ⟨rfl, rfl⟩
  generalize seekX L fr = i at *
  refine go_ ?_
  refine s_look (lk_min ((i : Nat) : Int)) ?_
  refine go_ ?_
  refine s_know (a := Nd1 L u) (by repeat (first | with_reducible exact Sel.here | with_reducible apply Sel.there)) (SA.cap) fun hcap => ?_
  refine s_look (lk_slc i L.items.length (cap := u.c) hsk hcap) ?_
  refine s_part i L.items.length hsk (Nat.le_refl _) (a := u.a) (cap := u.c) (m := L.items.length) (by repeat (first | with_reducible exact Sel.here | with_reducible apply Sel.there)) ?_
  refine go_ ?_
  refine s_loop (fun q : Nat × List Item => [(2, .pointer (some ⟨y.w, 0, none⟩)), (3, .pointer (some ⟨y.fr, 0, none⟩)), (4, .pointer (some ⟨y.to, 0, none⟩)), (5, .pointer (some ⟨y.out, 0, none⟩)), (6, .pointer (some ⟨y.most, 0, none⟩)), (7, .pointer (some ⟨y.below, 0, none⟩)), (11, .pointer (some ⟨r11, 0, none⟩)), (13, .int .i64 (i : Nat)), (43, .slice (sladdr u.a 4 i u.c) (L.items.length - i) (u.c - i)), (44, .int .i64 (L.items.length - i : Nat)), (45, .int .i64 q.1)])
    (fun q => [OutA y.out q.2, SA none 4 (.slice (sladdr u.a 4 i u.c) (L.items.length - i) (u.c - i)) (L.items.length - i) (fun j => itemRow u.w L.items (i + j)), Box r11 60 [.int .i64 L.level, .slice u.a L.items.length u.c, .slice u.b L.kids.length u.d], Wk y.wk p (path ++ [k]), Po p z σ g, Nd2 L u, Nd3 L u, bW y, bF y fr, bT y to, bM y most, bB y, F])
    (fun q => q.1 ≤ L.items.length - i ∧ q.2.length ≤ out.length + q.1 ∧ scanItems to most (L.items.drop (i + q.1)) q.2 = scanItems to most (L.items.drop i) out) (fun q => L.items.length - i - q.1) (0, out) ⟨Nat.zero_le _, Nat.le_refl _, rfl⟩ (by repeat (first | exact Ent.nil | refine Ent.per (by repeat (first | with_reducible exact Sel.here | with_reducible apply Sel.there)) ?_ | refine Ent.cons (by repeat (first | with_reducible exact Sel.here | with_reducible apply Sel.there)) ?_)) ?_
  rintro ⟨j, oj⟩ ⟨hj, hlo, he⟩ next
  dsimp only at hj hlo he next ⊢
  refine go_ ?_
  refine s_if (fun h => ?_) (fun h => ?_)
  · have hj2 : i + j < L.items.length := by omega
    have hx : L.items.getD (i + j) default = L.items[i + j] := by simp [List.getD_eq_getElem?_getD, hj2]
    rw [List.drop_eq_getElem_cons hj2, ← hx, scanItems] at he
    refine go_ ?_
    refine s_alloc fun r16 => ?_
    refine s_opn (φ := fun _ : Option Addr × Nat × (Nat → Option Addr × Nat) => True) (X := Out.parts y.out oj) (by repeat (first | with_reducible exact Sel.here | with_reducible apply Sel.there)) fun q hq => ?_
    obtain ⟨a, c, w⟩ := q
    unfold Out.parts
    refine s_nrm ?_
    refine go_ ?_
    refine s_call (sp := (by repeat (first | exact Split.nil | apply Split.perx (by repeat (first | with_reducible exact Sel.here | with_reducible apply Sel.there)) (by infer_instance) | apply Split.cons (by repeat (first | with_reducible exact Sel.here | with_reducible apply Sel.there))))) (hs := less_ok to (L.items.getD (i + j) default).key) (h := ?_)
    rintro v Bs ⟨rfl, rfl⟩
    cases hlt : to.lt (L.items.getD (i + j) default).key with
    | true =>
      refine go_ ?_
      refine s_cls (φ := fun _ : Option Addr × Nat × (Nat → Option Addr × Nat) => True) (X := Out.parts y.out oj) (a, c, w) trivial (by repeat (first | exact Split.nil | apply Split.perx (by repeat (first | with_reducible exact Sel.here | with_reducible apply Sel.there)) (by infer_instance) | apply Split.cons (by repeat (first | with_reducible exact Sel.here | with_reducible apply Sel.there)))) ?_
      rw [if_pos (by unfold scanStop; rw [hlt]; rfl)] at he
      rw [← he]
      exact s_ret1 (rs := [.tmp 10]) Try.func44 rfl (by intro j; refine RVS.tmp _ rfl ?_; exact RVS.nil) (⟨rfl, by have : 13 ^ (0 + 1) = 13 := rfl; omega, path ++ [k], by have : 13 ^ (0 + 1) = 13 := rfl; simp, rfl⟩) (by repeat (first | exact Ent.nil | refine Ent.per (by repeat (first | with_reducible exact Sel.here | with_reducible apply Sel.there)) ?_ | refine Ent.cons (by repeat (first | with_reducible exact Sel.here | with_reducible apply Sel.there)) ?_))
    | false =>
      refine go_ ?_
      cases hm : decide ((oj.length : Int) ≥ most) with
      | true =>
        refine go_ ?_
        refine s_cls (φ := fun _ : Option Addr × Nat × (Nat → Option Addr × Nat) => True) (X := Out.parts y.out oj) (a, c, w) trivial (by repeat (first | exact Split.nil | apply Split.perx (by repeat (first | with_reducible exact Sel.here | with_reducible apply Sel.there)) (by infer_instance) | apply Split.cons (by repeat (first | with_reducible exact Sel.here | with_reducible apply Sel.there)))) ?_
        rw [if_pos (by unfold scanStop; rw [hlt, hm]; rfl)] at he
        rw [← he]
        exact s_ret1 (rs := [.tmp 10]) Try.func44 rfl (by intro j; refine RVS.tmp _ rfl ?_; exact RVS.nil) (⟨rfl, by have : 13 ^ (0 + 1) = 13 := rfl; omega, path ++ [k], by have : 13 ^ (0 + 1) = 13 := rfl; simp, rfl⟩) (by repeat (first | exact Ent.nil | refine Ent.per (by repeat (first | with_reducible exact Sel.here | with_reducible apply Sel.there)) ?_ | refine Ent.cons (by repeat (first | with_reducible exact Sel.here | with_reducible apply Sel.there)) ?_))
      | false =>
        rw [if_neg (by unfold scanStop; rw [hlt, hm]; decide)] at he
        refine go_ ?_
        refine s_step (st_bs1 (sz := 4) (cells := [.int .i64 (L.items.getD (i + j) default).key.obj, .int .i64 (L.items.getD (i + j) default).key.kind, .int .i64 (L.items.getD (i + j) default).key.off, .slice (u.w (i + j)).1 (L.items.getD (i + j) default).val.length (u.w (i + j)).2]) rfl) ?_
        rintro _ _ ⟨a3, rfl, rfl⟩
        refine go_ ?_
        refine s_step (st_appO (a := a) (len := oj.length) (cap := c) (b := a3) (m := 1) (c := 1) (by repeat (first | with_reducible exact Sel.here | with_reducible apply Sel.there)) (by repeat (first | with_reducible exact SelR.here | with_reducible apply SelR.there)) (by rw [flat_one]; rfl)) ?_
        rintro _ _ ⟨a4, c4, rfl, rfl⟩
        refine s_open (SO.cg (itemRow (wset w oj.length (u.w (i + j))) (oj ++ [L.items.getD (i + j) default])) fun q hq => items_snoc_row w oj (L.items.getD (i + j) default) (u.w (i + j)) q hq) ?_
        refine s_get (i + j) (F := itemFam u.w L.items) (m := L.items.length) (by repeat (first | with_reducible exact Sel.here | with_reducible apply Sel.there)) hj2 ?_
        refine s_open (B := itemFam (wset w oj.length (u.w (i + j))) (oj ++ [L.items.getD (i + j) default]) oj.length) (items_snoc_new w oj (L.items.getD (i + j) default) (u.w (i + j))) ?_
        refine s_front (a := Fam oj.length (itemFam w oj)) (by repeat (first | with_reducible exact Sel.here | with_reducible apply Sel.there)) (s_open (Fam.cg (itemFam (wset w oj.length (u.w (i + j))) (oj ++ [L.items.getD (i + j) default])) (items_snoc_fam w oj (L.items.getD (i + j) default) (u.w (i + j)))) ?_)
        refine s_famS (m := oj.length) (F := itemFam (wset w oj.length (u.w (i + j))) (oj ++ [L.items.getD (i + j) default])) (by repeat (first | with_reducible exact Sel.here | with_reducible apply Sel.there)) (by repeat (first | with_reducible exact Sel.here | with_reducible apply Sel.there)) ?_
        refine go_ ?_
        rw [show oj.length + 1 = (oj ++ [L.items.getD (i + j) default]).length by simp]
        refine s_cls (φ := fun _ : Option Addr × Nat × (Nat → Option Addr × Nat) => True) (X := Out.parts y.out (oj ++ [L.items.getD (i + j) default])) (a4, c4, wset w oj.length (u.w (i + j))) trivial (by repeat (first | exact Split.nil | apply Split.perx (by repeat (first | with_reducible exact Sel.here | with_reducible apply Sel.there)) (by infer_instance) | apply Split.cons (by repeat (first | with_reducible exact Sel.here | with_reducible apply Sel.there)))) ?_
        exact s_entF (by repeat (first | exact Ent.nil | refine Ent.per (by repeat (first | with_reducible exact Sel.here | with_reducible apply Sel.there)) ?_ | refine Ent.cons (by repeat (first | with_reducible exact Sel.here | with_reducible apply Sel.there)) ?_)) (s_keep _ (next (j + 1, oj ++ [L.items.getD (i + j) default]) ⟨by dsimp only; omega, by simp; omega, by rw [← he]; rfl⟩ (by dsimp only; omega)))
  · have hj3 : j = L.items.length - i := by omega
    rw [show L.items.drop (i + j) = [] from List.drop_eq_nil_of_le (by omega), scanItems] at he
    rw [← he]
    refine go_ ?_
    refine s_look (lk_min (0 : Int)) ?_
    refine go_ ?_
    refine s_loop (fun _ : Unit => [(72, .int .i64 (L.kids.length - 0 : Nat)), (73, .int .i64 0)])
      (fun _ => [OutA y.out oj, Wk y.wk p (path ++ [k]), Po p z σ g, bW y, bF y fr, bT y to, bM y most, bB y, F]) (fun _ => True) (fun _ => 0) () trivial (by repeat (first | exact Ent.nil | refine Ent.per (by repeat (first | with_reducible exact Sel.here | with_reducible apply Sel.there)) ?_ | refine Ent.cons (by repeat (first | with_reducible exact Sel.here | with_reducible apply Sel.there)) ?_)) ?_
    rintro _ _ _
    refine go_ ?_
    refine s_if (fun h5 => ?_) (fun h5 => ?_)
    · exact absurd h5 (by omega)
    · refine go_ ?_
      exact s_ret1 (rs := [.tmp 10]) Try.func44 rfl (by intro j; refine RVS.tmp _ rfl ?_; exact RVS.nil) (⟨rfl, by have : 13 ^ (0 + 1) = 13 := rfl; omega, path ++ [k], by have : 13 ^ (0 + 1) = 13 := rfl; simp, rfl⟩) (by repeat (first | exact Ent.nil | refine Ent.per (by repeat (first | with_reducible exact Sel.here | with_reducible apply Sel.there)) ?_ | refine Ent.cons (by repeat (first | with_reducible exact Sel.here | with_reducible apply Sel.there)) ?_))
end Go.Proofs.Ytgbbcpfnmkeijaa
/- The reference's rows: Scan. -/
namespace Go.Proofs.Ytgbbcpfnmkeijaa
open Go.Cam
set_option maxRecDepth 100000
def rscanP (fr to : Key) (k : Key) : Bool := !(k.lt fr) && !(to.lt k)
def rscanL (fr to : Key) (most : Int) : List Item → List Item → List Item
  | [], out => out
  | x :: l, out => if (out.length : Int) < most then rscanL fr to most l (if rscanP fr to x.key then out ++ [x] else out) else out
set_option maxHeartbeats 8000000 in
theorem rscan_c {A : HP} {a : Option Addr} {c : Nat} {w : Nat → Option Addr × Nat} (l : List Item) (fr to : Key) (most : Int) [Rd A 4 (.slice a l.length c) l.length (itemRow w l)] (hn : l.length < 1000000) : Ctr Try.prog 15 [.slice a l.length c, fr.v, to.v, .int .i64 most] [A, Fam l.length (itemFam w l)]
    (fun v Bs => ∃ a2 c2 w2, v = .slice a2 (rscanL fr to most l []).length c2 ∧ Bs = [A, SO 48 4 (.slice a2 (rscanL fr to most l []).length c2) (rscanL fr to most l []).length (itemRow w2 (rscanL fr to most l [])), Fam (rscanL fr to most l []).length (itemFam w2 (rscanL fr to most l []))]) := by
  refine s_enter 50 [(0, _), (1, _), (2, _), (3, _)] (fun F => [_, _, F]) Try.func15 fun F => ?_
  refine go_ ?_
  refine s_box fun r5 => ?_
  refine s_box fun r6 => ?_
  refine go_ ?_
  refine s_bs0 (sz := 4) (row := itemRow (fun _ => (none, 0)) []) (fun a0 => ?_)
  refine s_open (B := SO 48 4 (.slice a0 ([] : List Item).length 0) ([] : List Item).length (itemRow (fun _ => (none, 0)) [])) (SO.of) ?_
  refine s_fam0 (F := itemFam (fun _ => (none, 0)) []) ?_
  refine s_open (B := Fam ([] : List Item).length (itemFam (fun _ => (none, 0)) [])) (fun _ _ q => q) ?_
  refine go_ ?_
  refine s_loop (fun q : Nat × List Item × Option Addr × Nat × (Nat → Option Addr × Nat) => [(0, .slice a l.length c), (3, .int .i64 most), (5, .pointer (some ⟨r5, 0, none⟩)), (6, .pointer (some ⟨r6, 0, none⟩)), (9, .slice q.2.2.1 q.2.1.length q.2.2.2.1), (10, .int .i64 q.1)])
    (fun q => [A, Fam l.length (itemFam w l), SO 48 4 (.slice q.2.2.1 q.2.1.length q.2.2.2.1) q.2.1.length (itemRow q.2.2.2.2 q.2.1), Fam q.2.1.length (itemFam q.2.2.2.2 q.2.1), Box r5 27 fr.row, Box r6 27 to.row, F])
    (fun q => q.1 ≤ l.length ∧ q.2.1.length ≤ q.1 ∧ rscanL fr to most (l.drop q.1) q.2.1 = rscanL fr to most l []) (fun q => l.length - q.1) (0, [], a0, 0, fun _ => (none, 0)) ⟨Nat.zero_le _, Nat.le_refl _, rfl⟩ (by repeat (first | exact Ent.nil | refine Ent.per (by repeat (first | with_reducible exact Sel.here | with_reducible apply Sel.there)) ?_ | refine Ent.cons (by repeat (first | with_reducible exact Sel.here | with_reducible apply Sel.there)) ?_)) ?_
  rintro ⟨i, o, b, d, wo⟩ ⟨hi, ho, hq⟩ next
  dsimp only at hi ho hq next ⊢
  refine go_ ?_
  cases h : decide ((i : Int) < (l.length : Int)) with
  | false =>
    have h' := of_decide_eq_false h
    rw [List.drop_eq_nil_of_le (by omega), rscanL] at hq
    rw [← hq]
    refine go_ ?_
    exact s_ret1 (rs := [.tmp 8]) Try.func15 rfl (by intro j; refine RVS.tmp _ rfl ?_; exact RVS.nil) (⟨b, d, wo, rfl, rfl⟩) (by repeat (first | exact Ent.nil | refine Ent.per (by repeat (first | with_reducible exact Sel.here | with_reducible apply Sel.there)) ?_ | refine Ent.cons (by repeat (first | with_reducible exact Sel.here | with_reducible apply Sel.there)) ?_))
  | true =>
    have h' := of_decide_eq_true h
    have hi2 : i < l.length := by omega
    have hx : l.getD i default = l[i] := by simp [List.getD_eq_getElem?_getD, hi2]
    rw [List.drop_eq_getElem_cons hi2, ← hx, rscanL] at hq
    refine go_ ?_
    refine s_if (fun hm => ?_) (fun hm => ?_)
    · rw [if_pos hm] at hq
      refine go_ ?_
      refine s_drawN 0 [.q 0, .q 1, .q 2, .q 3, .q 4, .q 5, .q 6, .q 7, .q 8, .q 9, .q 10, .q 11, .q 12, .q 13, .q 14, .q 15, .q 16, .q 17] ?_
      refine do_ ?_
      refine d_look rfl (lk_ldeN (sz := 4) (fo := 0) (n := l.length) (i := i) (v := .slice a l.length c) (vs := (l.getD i default).key.row) (s := (by repeat (first | with_reducible exact SelR.here | with_reducible apply SelR.there)))) ?_
      refine do_ ?_
      refine d_call (ho := rfl) (v := .bool ((l.getD i default).key.lt fr)) (sp := (by repeat (first | exact Split.nil | apply Split.perx (by repeat (first | with_reducible exact Sel.here | with_reducible apply Sel.there)) (by infer_instance) | apply Split.cons (by repeat (first | with_reducible exact Sel.here | with_reducible apply Sel.there))))) (hs := rless_c (l.getD i default).key fr) (hq := by rintro r Bs ⟨rfl, rfl⟩; exact ⟨rfl, (by (try simp only [List.cons_append, List.nil_append]); repeat (first | exact Ent.nil | refine Ent.per (by repeat (first | with_reducible exact Sel.here | with_reducible apply Sel.there)) ?_ | refine Ent.cons (by repeat (first | with_reducible exact Sel.here | with_reducible apply Sel.there)) ?_))⟩) (h := ?_)
      refine do_ ?_
      cases e1 : (l.getD i default).key.lt fr with
      | true =>
        rw [if_neg (by unfold rscanP; rw [e1]; simp)] at hq
        refine do_ ?_
        refine go_ ?_
        exact s_entF (by repeat (first | exact Ent.nil | refine Ent.per (by repeat (first | with_reducible exact Sel.here | with_reducible apply Sel.there)) ?_ | refine Ent.cons (by repeat (first | with_reducible exact Sel.here | with_reducible apply Sel.there)) ?_)) (s_keep _ (next (i + 1, o, b, d, wo) ⟨by dsimp only; omega, by dsimp only; omega, hq⟩ (by dsimp only; omega)))
      | false =>
        refine do_ ?_
        refine d_look rfl (lk_ldeN (sz := 4) (fo := 0) (n := l.length) (i := i) (v := .slice a l.length c) (vs := (l.getD i default).key.row) (s := (by repeat (first | with_reducible exact SelR.here | with_reducible apply SelR.there)))) ?_
        refine do_ ?_
        refine d_call (ho := rfl) (v := .bool (to.lt (l.getD i default).key)) (sp := (by repeat (first | exact Split.nil | apply Split.perx (by repeat (first | with_reducible exact Sel.here | with_reducible apply Sel.there)) (by infer_instance) | apply Split.cons (by repeat (first | with_reducible exact Sel.here | with_reducible apply Sel.there))))) (hs := rless_c to (l.getD i default).key) (hq := by rintro r Bs ⟨rfl, rfl⟩; exact ⟨rfl, (by (try simp only [List.cons_append, List.nil_append]); repeat (first | exact Ent.nil | refine Ent.per (by repeat (first | with_reducible exact Sel.here | with_reducible apply Sel.there)) ?_ | refine Ent.cons (by repeat (first | with_reducible exact Sel.here | with_reducible apply Sel.there)) ?_))⟩) (h := ?_)
        refine do_ ?_
        cases e2 : to.lt (l.getD i default).key with
        | true =>
          rw [if_neg (by unfold rscanP; rw [e1, e2]; decide)] at hq
          refine do_ ?_
          refine go_ ?_
          exact s_entF (by repeat (first | exact Ent.nil | refine Ent.per (by repeat (first | with_reducible exact Sel.here | with_reducible apply Sel.there)) ?_ | refine Ent.cons (by repeat (first | with_reducible exact Sel.here | with_reducible apply Sel.there)) ?_)) (s_keep _ (next (i + 1, o, b, d, wo) ⟨by dsimp only; omega, by dsimp only; omega, hq⟩ (by dsimp only; omega)))
        | false =>
          rw [if_pos (by unfold rscanP; rw [e1, e2]; rfl)] at hq
          refine do_ ?_
          refine go_ ?_
          refine s_step (st_bs1 (sz := 4) (cells := [.int .i64 (l.getD i default).key.obj, .int .i64 (l.getD i default).key.kind, .int .i64 (l.getD i default).key.off, .slice (w i).1 (l.getD i default).val.length (w i).2]) rfl) ?_
          rintro _ _ ⟨a3, rfl, rfl⟩
          refine go_ ?_
          refine s_step (st_appO (a := b) (len := o.length) (cap := d) (b := a3) (m := 1) (c := 1) (by repeat (first | with_reducible exact Sel.here | with_reducible apply Sel.there)) (by repeat (first | with_reducible exact SelR.here | with_reducible apply SelR.there)) (by rw [flat_one]; rfl)) ?_
          rintro _ _ ⟨a4, c4, rfl, rfl⟩
          refine s_open (SO.cg (itemRow (wset wo o.length (w i)) (o ++ [l.getD i default])) fun q hq => items_snoc_row wo o (l.getD i default) (w i) q hq) ?_
          refine s_get i (F := itemFam w l) (m := l.length) (by repeat (first | with_reducible exact Sel.here | with_reducible apply Sel.there)) hi2 ?_
          refine s_open (B := itemFam (wset wo o.length (w i)) (o ++ [l.getD i default]) o.length) (items_snoc_new wo o (l.getD i default) (w i)) ?_
          refine s_front (a := Fam o.length (itemFam wo o)) (by repeat (first | with_reducible exact Sel.here | with_reducible apply Sel.there)) (s_open (Fam.cg (itemFam (wset wo o.length (w i)) (o ++ [l.getD i default])) (items_snoc_fam wo o (l.getD i default) (w i))) ?_)
          refine s_famS (m := o.length) (F := itemFam (wset wo o.length (w i)) (o ++ [l.getD i default])) (by repeat (first | with_reducible exact Sel.here | with_reducible apply Sel.there)) (by repeat (first | with_reducible exact Sel.here | with_reducible apply Sel.there)) ?_
          refine go_ ?_
          rw [show o.length + 1 = (o ++ [l.getD i default]).length by simp]
          exact s_entF (by repeat (first | exact Ent.nil | refine Ent.per (by repeat (first | with_reducible exact Sel.here | with_reducible apply Sel.there)) ?_ | refine Ent.cons (by repeat (first | with_reducible exact Sel.here | with_reducible apply Sel.there)) ?_)) (s_keep _ (next (i + 1, o ++ [l.getD i default], a4, c4, wset wo o.length (w i)) ⟨by dsimp only; omega, by simp; omega, hq⟩ (by dsimp only; omega)))
    · rw [if_neg hm] at hq
      rw [← hq]
      refine go_ ?_
      exact s_ret1 (rs := [.tmp 8]) Try.func15 rfl (by intro j; refine RVS.tmp _ rfl ?_; exact RVS.nil) (⟨b, d, wo, rfl, rfl⟩) (by repeat (first | exact Ent.nil | refine Ent.per (by repeat (first | with_reducible exact Sel.here | with_reducible apply Sel.there)) ?_ | refine Ent.cons (by repeat (first | with_reducible exact Sel.here | with_reducible apply Sel.there)) ?_))
end Go.Proofs.Ytgbbcpfnmkeijaa
/- The reference's rows: SameItems. -/
namespace Go.Proofs.Ytgbbcpfnmkeijaa
open Go.Cam
set_option maxRecDepth 100000
set_option maxHeartbeats 8000000 in
theorem rsame_c {A B : HP} {a b : Option Addr} {c d : Nat} {w u : Nat → Option Addr × Nat} (l m : List Item) [Rd A 4 (.slice a l.length c) l.length (itemRow w l)] [Rd B 4 (.slice b m.length d) m.length (itemRow u m)] (hn : l.length < 1000000) (hm : m.length < 1000000) (he : l = m) (hb : ∀ x ∈ l, Bys x.val ∧ x.val.length < 1000000) : Ctr Try.prog 14 [.slice a l.length c, .slice b m.length d] [A, Fam l.length (itemFam w l), B, Fam m.length (itemFam u m)]
    (fun v Bs => v = .bool true ∧ Bs = [A, B]) := by
  subst he
  refine s_enter 43 [(0, _), (1, _)] (fun F => [_, _, _, _, F]) Try.func14 fun F => ?_
  refine go_ ?_
  refine s_ine (fun h => ?_) (fun h => ?_)
  · exact absurd rfl h
  refine go_ ?_
  refine s_loop (fun i : Nat => [(0, .slice a l.length c), (1, .slice b l.length d), (5, .int .i64 i)]) (fun _ => [A, Fam l.length (itemFam w l), B, Fam l.length (itemFam u l), F]) (fun i => i ≤ l.length) (fun i => l.length - i) 0 (Nat.zero_le _) (by repeat (first | exact Ent.nil | refine Ent.per (by repeat (first | with_reducible exact Sel.here | with_reducible apply Sel.there)) ?_ | refine Ent.cons (by repeat (first | with_reducible exact Sel.here | with_reducible apply Sel.there)) ?_)) ?_
  rintro i hi next
  refine go_ ?_
  refine s_if (fun h => ?_) (fun h => ?_)
  · have hi2 : i < l.length := by omega
    refine go_ ?_
    refine s_get i (F := itemFam w l) (m := l.length) (by repeat (first | with_reducible exact Sel.here | with_reducible apply Sel.there)) hi2 ?_
    refine s_open (B := BS (.slice (w i).1 (l.getD i default).val.length (w i).2) (l.getD i default).val) (fun _ _ q => q) ?_
    refine s_get i (F := itemFam u l) (m := l.length) (by repeat (first | with_reducible exact Sel.here | with_reducible apply Sel.there)) hi2 ?_
    refine s_open (B := BS (.slice (u i).1 (l.getD i default).val.length (u i).2) (l.getD i default).val) (fun _ _ q => q) ?_
    refine s_drawN 0 [.q 0, .q 1, .q 2, .q 3, .q 4, .q 5, .q 6, .q 7, .q 8, .q 9, .q 10, .q 11, .q 12, .q 13, .q 14, .q 15, .q 16, .q 17, .q 18, .q 19, .q 20, .q 21, .q 22, .q 23, .q 24, .q 25] ?_
    refine do_ ?_
    refine d_look rfl (lk_ldeN (sz := 4) (fo := 0) (n := l.length) (i := i) (v := .slice a l.length c) (vs := (l.getD i default).key.row) (s := (by repeat (first | with_reducible exact SelR.here | with_reducible apply SelR.there)))) ?_
    refine do_ ?_
    refine d_look rfl (lk_ldeN (sz := 4) (fo := 0) (n := l.length) (i := i) (v := .slice b l.length d) (vs := (l.getD i default).key.row) (s := (by repeat (first | with_reducible exact SelR.here | with_reducible apply SelR.there)))) ?_
    refine do_ ?_
    refine d_look rfl lk_nes ?_
    rw [show (!decide ((l.getD i default).key = (l.getD i default).key)) = false by simp]
    refine do_ ?_
    refine d_look rfl (lk_b2s (a := (w i).1) (c := (w i).2) (m := (l.getD i default).val.length) (s := (l.getD i default).val) (by repeat (first | with_reducible exact SelR.here | with_reducible apply SelR.there)) rfl) ?_
    refine do_ ?_
    refine d_look rfl (lk_b2s (a := (u i).1) (c := (u i).2) (m := (l.getD i default).val.length) (s := (l.getD i default).val) (by repeat (first | with_reducible exact SelR.here | with_reducible apply SelR.there)) rfl) ?_
    refine do_ ?_
    rw [show (!((strB (l.getD i default).val).toList == (strB (l.getD i default).val).toList)) = false by simp]
    refine go_ ?_
    exact s_entF (by repeat (first | exact Ent.nil | refine Ent.per (by repeat (first | with_reducible exact Sel.here | with_reducible apply Sel.there)) ?_ | refine Ent.cons (by repeat (first | with_reducible exact Sel.here | with_reducible apply Sel.there)) ?_)) (s_keep _ (next (i + 1) (by omega) (by omega)))
  · refine go_ ?_
    exact s_ret1 (rs := [.tmp 4]) Try.func14 rfl (by intro j; refine RVS.tmp _ rfl ?_; exact RVS.nil) (⟨rfl, rfl⟩) (by repeat (first | exact Ent.nil | refine Ent.per (by repeat (first | with_reducible exact Sel.here | with_reducible apply Sel.there)) ?_ | refine Ent.cons (by repeat (first | with_reducible exact Sel.here | with_reducible apply Sel.there)) ?_))
end Go.Proofs.Ytgbbcpfnmkeijaa
/- The reference's rows: cut. -/
namespace Go.Proofs.Ytgbbcpfnmkeijaa
open Go.Cam
set_option maxRecDepth 100000
theorem lk_rem {P : Program} {l : List (Nat × Value)} {As : List HP} {d : Nat} {oty : TypeId} {pos : String} {af : Array Edge} {g : Option (Nat × Bool)} {t t2 : TypeId} {x y : Operand} {kd : IntKind} {p q : Int} (hq : q ≠ 0) (hx : ∀ j, ev (mk l j) x = .int kd p := by intro j; rfl) (hy : ∀ j, ev (mk l j) y = .int kd q := by intro j; rfl) :
    LookS P ⟨some d, .binOp .rem t x y t2, oty, pos, af, g⟩ l As (.int kd (p.tmod q)) := .mk fun j _ _ _ => qt_bin rfl rfl (by rw [hx j, hy j]; exact cst_rem hq)
def cutI (l : List Int) (i : Nat) : Int :=
  if l.length = 0 then 0 else if l.getD (i % l.length) 0 < 0 then -(l.getD (i % l.length) 0 + 1) else l.getD (i % l.length) 0
set_option maxHeartbeats 4000000 in
theorem cut_c {A : HP} {a : Option Addr} {c : Nat} (l : List Int) (i : Nat) [Rd A 1 (.slice a l.length c) l.length (pathR l)] (hn : l.length < 9223372036854775808) (hi : i < 1000000) (hr : ∀ q, q < l.length → -9223372036854775808 ≤ l.getD q 0 ∧ l.getD q 0 ≤ 9223372036854775807) : Ctr Try.prog 76 [.slice a l.length c, .int .i64 i] [A] (fun v Bs => v = .int .i64 (cutI l i) ∧ Bs = [A]) := by
  unfold cutI
  refine s_enter 22 [(0, _), (1, _)] (fun F => [_, F]) Try.func76 fun F => ?_
  refine go_ ?_
  refine s_ieq (fun h => ?_) (fun h => ?_)
  · rw [if_pos (by omega)]
    refine go_ ?_
    exact s_ret1 (rs := [.tmp 4]) Try.func76 rfl (by intro j; refine RVS.tmp _ rfl ?_; exact RVS.nil) (⟨rfl, rfl⟩) (by repeat (first | exact Ent.nil | refine Ent.per (by repeat (first | with_reducible exact Sel.here | with_reducible apply Sel.there)) ?_ | refine Ent.cons (by repeat (first | with_reducible exact Sel.here | with_reducible apply Sel.there)) ?_))
  · rw [if_neg (by omega)]
    have hq : i % l.length < l.length := Nat.mod_lt _ (by omega)
    have hrq := hr _ hq
    have em : (i : Int).tmod (l.length : Int) = ((i % l.length : Nat) : Int) := by rw [Int.tmod_eq_emod_of_nonneg (by omega)]; omega
    refine go_ ?_
    refine s_look (lk_rem (q := (l.length : Int)) h) ?_
    rw [em]
    refine go_ ?_
    refine s_if (fun h2 => ?_) (fun h2 => ?_)
    · rw [if_pos h2]
      refine go_ ?_
      rw [wrap_id (x := 0 - (l.getD (i % l.length) 0 + 1)) (by omega) (by omega), show 0 - (l.getD (i % l.length) 0 + 1) = -(l.getD (i % l.length) 0 + 1) by omega]
      exact s_ret1 (rs := [.tmp 4]) Try.func76 rfl (by intro j; refine RVS.tmp _ rfl ?_; exact RVS.nil) (⟨rfl, rfl⟩) (by repeat (first | exact Ent.nil | refine Ent.per (by repeat (first | with_reducible exact Sel.here | with_reducible apply Sel.there)) ?_ | refine Ent.cons (by repeat (first | with_reducible exact Sel.here | with_reducible apply Sel.there)) ?_))
    · rw [if_neg h2]
      refine go_ ?_
      exact s_ret1 (rs := [.tmp 4]) Try.func76 rfl (by intro j; refine RVS.tmp _ rfl ?_; exact RVS.nil) (⟨rfl, rfl⟩) (by repeat (first | exact Ent.nil | refine Ent.per (by repeat (first | with_reducible exact Sel.here | with_reducible apply Sel.there)) ?_ | refine Ent.cons (by repeat (first | with_reducible exact Sel.here | with_reducible apply Sel.there)) ?_))
end Go.Proofs.Ytgbbcpfnmkeijaa
/- An empty slice is written out, as a step. -/
namespace Go.Cam
section
variable {P : Program} {l : List (Nat × Value)} {As : List HP} {dd : Option Nat} {oty : TypeId} {pos : String} {af : Array Edge} {g : Option (Nat × Bool)}
theorem st_bs0 {t el sz : Nat} {row : Nat → List Value} [SC P t el] [SZ P el sz] :
    StepL P ⟨dd, .buildSlice t 0 #[], oty, pos, af, g⟩ l As (fun v Bs => ∃ a, v = .slice a 0 0 ∧ Bs = SO el sz (.slice a 0 0) 0 row :: As) := .mk fun j Fs H M s => by
  have e1 : execOp (ev (mk l j)) ⟨dd, .buildSlice t 0 #[], oty, pos, af, g⟩ = (Instr.buildSlice t 0 #[] >>= fun v => pure (Next.value v)) := by
    unfold execOp; simp
  rw [e1]
  refine hmc_of_hm (hm_bind (hm_bs0 (sz := sz) fun r hr => hm_pure ⟨_, .inl rfl, _, ⟨_, rfl, rfl⟩, ?_⟩))
  refine star_monoL (C := SO el sz _ 0 row) (fun H M h => .inl ?_) (own_new hr s)
  exact ⟨fun i hi => by omega, by simp [flat], .inr ⟨r, 0, 0, #[], rfl, by simp [flat], by simp, Nat.le_refl _, h, by simp [flat]⟩, _, _, rfl⟩
/-- a text that is written out, as bytes: its row is marked -/
theorem st_cvb {t e : TypeId} {b m c : Nat} {x : Operand} {cs : Array Value} {ty : TypeId} {As' : List HP} [sc : SC P t e] [u8 : U8T P e] (u : Upd (.own b (.cells cs ty (0, 0))) (.own b (.cells cs ty (cs.size, cs.size + 1))) As As')
    (hx : ∀ j, ev (mk l j) x = .slice (some ⟨b, 0, none⟩) m c := by intro j; rfl) :
    StepL P ⟨dd, .convert t t x, oty, pos, af, g⟩ l As (fun v Bs => v = .slice (some ⟨b, 0, none⟩) m c ∧ Bs = As') := .mk fun j Fs H M q => by
  obtain ⟨Cs, s1, s2⟩ := (u.app Fs).sels
  obtain ⟨hb, hq⟩ := own_write (o' := .cells cs ty (cs.size, cs.size + 1)) (s1.sat q)
  refine hmc_of_hm ?_
  show hm P (convert t t (ev (mk l j) x) >>= fun v => pure (Next.value v)) H M _
  rw [hx j]
  refine hm_bind (fun w0 w hh => ?_)
  have h1 := hh.m b _ hb
  have hsh : w.shape? b = some (ty, cs.size) := by unfold World.shape?; rw [h1]
  refine ⟨.slice (some ⟨b, 0, none⟩) m c, w.freeze ⟨b, cs.size, none⟩ 1, H, upd M b (.cells cs ty (cs.size, cs.size + 1)), ?_, ?_, hm_pure ⟨_, .inl rfl, _, ⟨rfl, rfl⟩, s2.back hq⟩⟩
  · simp [convert, cst_run _ sc.h w, cst_run _ u8.h w, markStringish, hsh]
  · have := hh.modify hb (fun o => match o with | .cells c elem (lo, hi) => .cells c elem (if lo == hi then (cs.size, cs.size + 1) else (min lo cs.size, max hi (cs.size + 1))) | o => o)
    exact this
end
end Go.Cam
