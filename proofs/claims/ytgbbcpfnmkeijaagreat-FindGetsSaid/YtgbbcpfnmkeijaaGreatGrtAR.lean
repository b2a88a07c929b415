/- The reference's nodes: Keys, Least. -/
import Derived.Test.YtgbbcpfnmkeijaaGreatGrtAG
import Derived.Test.YtgbbcpfnmkeijaaGreatGrtAM
namespace Go.Proofs.YtgbbcpfnmkeijaaGreat
open Go.Cam
set_option maxRecDepth 100000
def nkeys (x : Node) : List Key := x.items.map Item.key ++ x.kids.map Kid.key
abbrev keyR (l : List Key) (i : Nat) : List Value := (l.getD i default).row
theorem nkeys_len (x : Node) : (nkeys x).length = x.items.length + x.kids.length := by simp [nkeys]
theorem nkeys_i (x : Node) {i : Nat} (h : i < x.items.length) : (nkeys x).getD i default = (x.items.getD i default).key := by
  unfold nkeys
  rw [List.getD_eq_getElem?_getD, List.getD_eq_getElem?_getD, List.getElem?_append_left (by simpa using h)]; simp [h]
theorem nkeys_k (x : Node) {i : Nat} (h : i < x.kids.length) : (nkeys x).getD (x.items.length + i) default = (x.kids.getD i default).key := by
  unfold nkeys
  rw [List.getD_eq_getElem?_getD, List.getD_eq_getElem?_getD, List.getElem?_append_right (by simp)]; simp [h]
theorem keyR_snoc (l : List Key) (m : Nat) (r : List Value) (h : r = keyR l m) (q : Nat) (hq : q < m + 1) : rcat m (keyR l) (fun _ => r) q = keyR l q := by
  unfold rcat
  by_cases h2 : q < m
  · rw [if_pos h2]
  · rw [if_neg h2, h, show q = m by omega]
set_option maxHeartbeats 4000000 in
theorem rkeys_c (x : Node) (u : Plc) (hx : x.small) : Ctr Tryz.prog 77 [ndV x u] [Nd1 x u, Nd3 x u] (fun v Bs => ∃ a c, v = .slice a (nkeys x).length c ∧ Bs = [SO 49 3 (.slice a (nkeys x).length c) (nkeys x).length (keyR (nkeys x))]) := by
  have h1 := hx.i
  have h2 := hx.k
  refine s_enter 40 [(0, _)] (fun F => [_, _, F]) Tryz.func77 fun F => ?_
  refine go_ ?_
  refine s_box fun r1 => ?_
  refine go_ ?_
  refine s_bs0 (sz := 3) (row := keyR (nkeys x)) (fun a0 => ?_)
  refine s_open (SO.of) ?_
  refine go_ ?_
  refine s_loop (fun q : Nat × Option Addr × Nat => [(1, .pointer (some ⟨r1, 0, none⟩)), (3, .slice q.2.1 q.1 q.2.2), (4, .int .i64 q.1)])
    (fun q => [SO 49 3 (.slice q.2.1 q.1 q.2.2) q.1 (keyR (nkeys x)), Box r1 88 [.int .i64 x.level, .slice u.a x.items.length u.c, .slice u.b x.kids.length u.d], Nd1 x u, Nd3 x u, F]) (fun q => q.1 ≤ x.items.length) (fun q => x.items.length - q.1) (0, a0, 0) (Nat.zero_le _) (by repeat (first | exact Ent.nil | refine Ent.per (by repeat (first | with_reducible exact Sel.here | with_reducible apply Sel.there)) ?_ | refine Ent.cons (by repeat (first | with_reducible exact Sel.here | with_reducible apply Sel.there)) ?_)) ?_
  rintro ⟨i, a, c⟩ hi next
  dsimp only at hi next ⊢
  refine go_ ?_
  refine s_if (fun h => ?_) (fun h => ?_)
  · have hi2 : i < x.items.length := by omega
    refine go_ ?_
    refine s_look (lk_ldeN (sz := 4) (fo := 0) (n := x.items.length) (i := i) (v := .slice u.a x.items.length u.c) (vs := (x.items.getD i default).key.row) (s := (by repeat (first | with_reducible exact SelR.here | with_reducible apply SelR.there)))) ?_
    refine go_ ?_
    refine s_step (st_bs1 (sz := 3) (cells := (x.items.getD i default).key.row) rfl) ?_
    rintro _ _ ⟨a3, rfl, rfl⟩
    refine go_ ?_
    refine s_step (st_appO (a := a) (len := i) (cap := c) (b := a3) (m := 1) (c := 1) (by repeat (first | with_reducible exact Sel.here | with_reducible apply Sel.there)) (by repeat (first | with_reducible exact SelR.here | with_reducible apply SelR.there)) (by rw [flat_one]; rfl)) ?_
    rintro _ _ ⟨a4, c4, rfl, rfl⟩
    refine s_open (SO.cg (keyR (nkeys x)) (keyR_snoc (nkeys x) (i) _ (by unfold keyR; rw [nkeys_i x hi2]))) ?_
    refine go_ ?_
    exact s_entF (by repeat (first | exact Ent.nil | refine Ent.per (by repeat (first | with_reducible exact Sel.here | with_reducible apply Sel.there)) ?_ | refine Ent.cons (by repeat (first | with_reducible exact Sel.here | with_reducible apply Sel.there)) ?_)) (s_keep _ (next (i + 1, a4, c4) (by dsimp only; omega) (by dsimp only; omega)))
  · have : i = x.items.length := by omega
    subst this
    refine go_ ?_
    refine s_front (a := SO 49 3 (.slice a x.items.length c) x.items.length (keyR (nkeys x))) (by repeat (first | with_reducible exact Sel.here | with_reducible apply Sel.there)) (s_open (B := SO 49 3 (.slice a (x.items.length + 0) c) (x.items.length + 0) (keyR (nkeys x))) (fun _ _ q => q) ?_)
    refine s_loop (fun q : Nat × Option Addr × Nat => [(1, .pointer (some ⟨r1, 0, none⟩)), (3, .slice q.2.1 (x.items.length + q.1) q.2.2), (5, .int .i64 q.1)])
      (fun q => [SO 49 3 (.slice q.2.1 (x.items.length + q.1) q.2.2) (x.items.length + q.1) (keyR (nkeys x)), Box r1 88 [.int .i64 x.level, .slice u.a x.items.length u.c, .slice u.b x.kids.length u.d], Nd3 x u, F]) (fun q => q.1 ≤ x.kids.length) (fun q => x.kids.length - q.1) (0, a, c) (Nat.zero_le _) (by repeat (first | exact Ent.nil | refine Ent.per (by repeat (first | with_reducible exact Sel.here | with_reducible apply Sel.there)) ?_ | refine Ent.cons (by repeat (first | with_reducible exact Sel.here | with_reducible apply Sel.there)) ?_)) ?_
    rintro ⟨i, a, c⟩ hi next
    dsimp only at hi next ⊢
    refine go_ ?_
    refine s_if (fun h => ?_) (fun h => ?_)
    · have hi2 : i < x.kids.length := by omega
      refine go_ ?_
      refine s_look (lk_ldeN (sz := 4) (fo := 0) (n := x.kids.length) (i := i) (v := .slice u.b x.kids.length u.d) (vs := (x.kids.getD i default).key.row) (s := (by repeat (first | with_reducible exact SelR.here | with_reducible apply SelR.there)))) ?_
      refine go_ ?_
      refine s_step (st_bs1 (sz := 3) (cells := (x.kids.getD i default).key.row) rfl) ?_
      rintro _ _ ⟨a3, rfl, rfl⟩
      refine go_ ?_
      refine s_step (st_appO (a := a) (len := x.items.length + i) (cap := c) (b := a3) (m := 1) (c := 1) (by repeat (first | with_reducible exact Sel.here | with_reducible apply Sel.there)) (by repeat (first | with_reducible exact SelR.here | with_reducible apply SelR.there)) (by rw [flat_one]; rfl)) ?_
      rintro _ _ ⟨a4, c4, rfl, rfl⟩
      refine s_open (SO.cg (keyR (nkeys x)) (keyR_snoc (nkeys x) (x.items.length + i) _ (by unfold keyR; rw [nkeys_k x hi2]))) ?_
      refine go_ ?_
      rw [show x.items.length + i + 1 = x.items.length + (i + 1) from rfl]
      exact s_entF (by repeat (first | exact Ent.nil | refine Ent.per (by repeat (first | with_reducible exact Sel.here | with_reducible apply Sel.there)) ?_ | refine Ent.cons (by repeat (first | with_reducible exact Sel.here | with_reducible apply Sel.there)) ?_)) (s_keep _ (next (i + 1, a4, c4) (by dsimp only; omega) (by dsimp only; omega)))
    · have : i = x.kids.length := by omega
      subst this
      rw [← nkeys_len]
      refine go_ ?_
      exact s_ret1 (rs := [.tmp 2]) Tryz.func77 rfl (by intro j; refine RVS.tmp _ rfl ?_; exact RVS.nil) (⟨a, c, rfl, rfl⟩) (by repeat (first | exact Ent.nil | refine Ent.per (by repeat (first | with_reducible exact Sel.here | with_reducible apply Sel.there)) ?_ | refine Ent.cons (by repeat (first | with_reducible exact Sel.here | with_reducible apply Sel.there)) ?_))
theorem rleast_c (x : Node) (u : Plc) (hx : x.small) (hn : 0 < (nkeys x).length) : Ctr Tryz.prog 39 [ndV x u] [Nd1 x u, Nd3 x u] (fun v Bs => v = ((nkeys x).getD 0 default).v ∧ Bs = []) := by
  have h1 := hx.i
  have h2 := hx.k
  have hl := nkeys_len x
  refine s_enter 13 [(0, _)] (fun F => [_, _, F]) Tryz.func39 fun F => ?_
  refine go_ ?_
  refine s_box fun r1 => ?_
  refine s_alloc fun r2 => ?_
  refine go_ ?_
  refine s_call (sp := (by repeat (first | exact Split.nil | apply Split.perx (by repeat (first | with_reducible exact Sel.here | with_reducible apply Sel.there)) (by infer_instance) | apply Split.cons (by repeat (first | with_reducible exact Sel.here | with_reducible apply Sel.there))))) (hs := rkeys_c x u hx) (h := ?_)
  rintro v Bs ⟨a, c, rfl, rfl⟩
  refine go_ ?_
  refine s_ieq (fun h => ?_) (fun h => ?_)
  · exact absurd h (by omega)
  refine go_ ?_
  exact s_ret1 (rs := [.cell 2 49]) Tryz.func39 rfl (by intro j; refine RVS.cell _ _ rfl (by repeat (first | with_reducible exact Sel.here | with_reducible apply Sel.there)) (by rfl) ?_; exact RVS.nil) (⟨rfl, rfl⟩) (by repeat (first | exact Ent.nil | refine Ent.per (by repeat (first | with_reducible exact Sel.here | with_reducible apply Sel.there)) ?_ | refine Ent.cons (by repeat (first | with_reducible exact Sel.here | with_reducible apply Sel.there)) ?_))
end Go.Proofs.YtgbbcpfnmkeijaaGreat
/- The reference's rows: Get. -/
namespace Go.Proofs.YtgbbcpfnmkeijaaGreat
open Go.Cam
set_option maxRecDepth 100000
def rgetI (l : List Item) (k : Key) : Nat := seekN (fun i => !decide ((l.getD i default).key = k)) l.length 0
set_option maxHeartbeats 4000000 in
theorem rget_c {A : HP} {a : Option Addr} {c : Nat} {w : Nat → Option Addr × Nat} (l : List Item) (k : Key) [Rd A 4 (.slice a l.length c) l.length (itemRow w l)] (hn : l.length < 1000000) : Ctr Tryz.prog 18 [.slice a l.length c, k.v] [A, Fam l.length (itemFam w l)]
    (fun v Bs => (l.length ≤ rgetI l k ∧ v = .tuple #[.slice none 0 0, .int .i64 10] ∧ Bs = [A]) ∨
      (rgetI l k < l.length ∧ ∃ a2 c2, v = .tuple #[.slice a2 (l.getD (rgetI l k) default).val.length c2, .int .i64 0] ∧ Bs = [A, BS (.slice a2 (l.getD (rgetI l k) default).val.length c2) (l.getD (rgetI l k) default).val])) := by
  refine s_enter 25 [(0, _), (1, _)] (fun F => [_, _, F]) Tryz.func18 fun F => ?_
  refine go_ ?_
  refine s_box fun r3 => ?_
  refine go_ ?_
  refine s_loop (fun i : Nat => [(0, .slice a l.length c), (3, .pointer (some ⟨r3, 0, none⟩)), (4, .slice none 0 0), (5, .int .i64 0), (6, .int .i64 i)]) (fun _ => [A, Fam l.length (itemFam w l), Box r3 49 k.row, F]) (fun i => i ≤ l.length ∧ rgetI l k = seekN (fun i => !decide ((l.getD i default).key = k)) (l.length - i) i) (fun i => l.length - i) 0 ⟨Nat.zero_le _, rfl⟩ (by repeat (first | exact Ent.nil | refine Ent.per (by repeat (first | with_reducible exact Sel.here | with_reducible apply Sel.there)) ?_ | refine Ent.cons (by repeat (first | with_reducible exact Sel.here | with_reducible apply Sel.there)) ?_)) ?_
  rintro i ⟨hi, hq⟩ next
  refine go_ ?_
  refine s_if (fun h => ?_) (fun h => ?_)
  · have hi2 : i < l.length := by omega
    obtain ⟨m, hm⟩ : ∃ m, l.length - i = m + 1 := ⟨l.length - i - 1, by omega⟩
    rw [hm, seekN] at hq
    refine go_ ?_
    refine s_drawN 0 [.q 0, .q 1, .q 2, .q 3, .q 4, .q 5, .q 6] ?_
    refine do_ ?_
    refine d_look rfl (lk_ldeN (sz := 4) (fo := 0) (n := l.length) (i := i) (v := .slice a l.length c) (vs := (l.getD i default).key.row) (s := (by repeat (first | with_reducible exact SelR.here | with_reducible apply SelR.there)))) ?_
    refine do_ ?_
    refine d_look rfl lk_eqs ?_
    refine do_ ?_
    cases he : decide ((l.getD i default).key = k) with
    | true =>
      rw [he] at hq
      have e0 : rgetI l k = i := hq
      rw [e0]
      refine go_ ?_
      refine s_get i (F := itemFam w l) (m := l.length) (by repeat (first | with_reducible exact Sel.here | with_reducible apply Sel.there)) hi2 ?_
      exact s_rett (rs := [.tmp 4, .tmp 5]) (vs := [_, _]) Tryz.func18 rfl (by intro j; refine RVS.tmp _ rfl ?_; refine RVS.tmp _ rfl ?_; exact RVS.nil) rfl (.inr ⟨hi2, (w i).1, (w i).2, rfl, rfl⟩) (by repeat (first | exact Ent.nil | refine Ent.per (by repeat (first | with_reducible exact Sel.here | with_reducible apply Sel.there)) ?_ | refine Ent.cons (by repeat (first | with_reducible exact Sel.here | with_reducible apply Sel.there)) ?_))
    | false =>
      rw [he] at hq
      refine go_ ?_
      exact s_entF (by repeat (first | exact Ent.nil | refine Ent.per (by repeat (first | with_reducible exact Sel.here | with_reducible apply Sel.there)) ?_ | refine Ent.cons (by repeat (first | with_reducible exact Sel.here | with_reducible apply Sel.there)) ?_)) (s_keep _ (next (i + 1) ⟨by omega, by rw [show l.length - (i + 1) = m by omega]; exact hq⟩ (by omega)))
  · have e : i = l.length := by omega
    rw [show l.length - i = 0 by omega] at hq
    have e0 : rgetI l k = l.length := by rw [hq, ← e]; rfl
    refine go_ ?_
    exact s_rett (rs := [.tmp 4, .tmp 5]) (vs := [_, _]) Tryz.func18 rfl (by intro j; refine RVS.tmp _ rfl ?_; refine RVS.tmp _ rfl ?_; exact RVS.nil) rfl (.inl ⟨by omega, rfl, rfl⟩) (by repeat (first | exact Ent.nil | refine Ent.per (by repeat (first | with_reducible exact Sel.here | with_reducible apply Sel.there)) ?_ | refine Ent.cons (by repeat (first | with_reducible exact Sel.here | with_reducible apply Sel.there)) ?_))
end Go.Proofs.YtgbbcpfnmkeijaaGreat
/- find.walk.at. -/
namespace Go.Proofs.YtgbbcpfnmkeijaaGreat
open Go.Cam
set_option maxRecDepth 100000
structure PoZ where
  b : Nat
  gen : Nat
  n : Nat
  bc : Nat
  m : Nat
def Po.parts (p : Nat) (z : PoZ) (σ : Ct) (g : Int → Option (Node × Plc)) (_ : Unit) : List HP := [PoB p z.b z.gen z.n z.bc z.m, CtA z.bc σ, MG z.m (gmap g), Nds g]
abbrev Po (p : Nat) (z : PoZ) (σ : Ct) (g : Int → Option (Node × Plc)) : HP := EX (fun _ : Unit => True) (Po.parts p z σ g)
abbrev pathR (l : List Int) (i : Nat) : List Value := [.int .i64 (l.getD i 0)]
def Wk.parts (r p : Nat) (l : List Int) (q : Option Addr × Nat) : List HP := [Box r 114 [.pointer (some ⟨p, 0, none⟩), .slice q.1 l.length q.2], SO 3 1 (.slice q.1 l.length q.2) l.length (pathR l)]
abbrev Wk (r p : Nat) (l : List Int) : HP := EX (fun _ : Option Addr × Nat => True) (Wk.parts r p l)
structure Held (σ : Ct) (g : Int → Option (Node × Plc)) (k : Int) (x : Node) (u : Plc) : Prop where
  hs : x.small
  ok : nodeOk x = true
  hk : 0 ≤ k ∧ k < σ.n
  hc : σ.now k.toNat ≠ 0
  hg : g k = some (x, u)
set_option maxHeartbeats 4000000 in
theorem wat_c (r p : Nat) (z : PoZ) (σ : Ct) (g : Int → Option (Node × Plc)) (k lv : Int) (x : Node) (u : Plc) (path : List Int) (hh : Held σ g k x u) (hlv : lv < 0 ∨ x.level = lv) (hp : path.length < 1000000) : Ctr Tryz.prog 52 [.pointer (some ⟨r, 0, none⟩), .int .i64 k, .int .i64 lv] [Wk r p path, Po p z σ g]
    (fun v Bs => ∃ u', v = .tuple #[ndV x u', .int .i64 0] ∧ Bs = [Wk r p (path ++ [k]), Po p z σ g, Nd1 x u', Nd2 x u', Nd3 x u']) := by
  refine s_enter 45 [(0, _), (1, _), (2, _)] (fun F => [_, _, F]) Tryz.func52 fun F => ?_
  refine go_ ?_
  refine s_alloc fun r6 => ?_
  refine s_opn (φ := fun _ : Option Addr × Nat => True) (X := Wk.parts r p path) (by repeat (first | with_reducible exact Sel.here | with_reducible apply Sel.there)) fun q hq => ?_
  obtain ⟨a, c⟩ := q
  unfold Wk.parts
  refine s_nrm ?_
  refine s_opn (φ := fun _ : Unit => True) (X := Po.parts p z σ g) (by repeat (first | with_reducible exact Sel.here | with_reducible apply Sel.there)) fun _ _ => ?_
  unfold Po.parts
  refine s_nrm ?_
  refine go_ ?_
  refine s_call (sp := (by repeat (first | exact Split.nil | apply Split.perx (by repeat (first | with_reducible exact Sel.here | with_reducible apply Sel.there)) (by infer_instance) | apply Split.cons (by repeat (first | with_reducible exact Sel.here | with_reducible apply Sel.there))))) (hs := pnode_c p z.b z.gen z.n z.bc z.m σ g k x u hh.hs hh.hk hh.hc hh.hg) (h := ?_)
  rintro v Bs ⟨u', rfl, rfl⟩
  refine go_ ?_
  refine s_alloc fun r8 => ?_
  refine s_fzO (e := 51) (v := .slice u'.a x.items.length u'.c) (by repeat (first | with_reducible exact Sel.here | with_reducible apply Sel.there)) ?_
  refine s_fzO (e := 99) (v := .slice u'.b x.kids.length u'.d) (by repeat (first | with_reducible exact Sel.here | with_reducible apply Sel.there)) ?_
  refine s_cls (φ := fun _ : Unit => True) (X := Po.parts p z σ g) () trivial (by repeat (first | exact Split.nil | apply Split.perx (by repeat (first | with_reducible exact Sel.here | with_reducible apply Sel.there)) (by infer_instance) | apply Split.cons (by repeat (first | with_reducible exact Sel.here | with_reducible apply Sel.there)))) ?_
  refine go_ ?_
  cases hl0 : decide (lv ≥ 0) with
  | false =>
    refine go_ ?_
    refine s_step (st_bs1 (sz := 1) (cells := [.int .i64 k]) rfl) ?_
    rintro _ _ ⟨a3, rfl, rfl⟩
    refine go_ ?_
    refine s_step (st_appO (a := a) (len := path.length) (cap := c) (b := a3) (m := 1) (c := 1) (by repeat (first | with_reducible exact Sel.here | with_reducible apply Sel.there)) (by repeat (first | with_reducible exact SelR.here | with_reducible apply SelR.there)) (by rw [flat_one]; rfl)) ?_
    rintro _ _ ⟨a4, c4, rfl, rfl⟩
    refine s_open (SO.cg (pathR (path ++ [k])) fun q hq => ?_) ?_
    · unfold rcat pathR
      by_cases hq2 : q < path.length
      · rw [if_pos hq2, List.getD_eq_getElem?_getD, List.getD_eq_getElem?_getD, List.getElem?_append_left hq2]
      · have : q = path.length := by omega
        subst this
        rw [if_neg hq2]; simp [List.getD_eq_getElem?_getD]
    refine go_ ?_
    refine s_front (a := SO 3 1 (.slice a4 (path.length + 1) c4) (path.length + 1) (pathR (path ++ [k]))) (by repeat (first | with_reducible exact Sel.here | with_reducible apply Sel.there)) ?_
    rw [show path.length + 1 = (path ++ [k]).length by simp]
    refine s_cls (φ := fun _ : Option Addr × Nat => True) (X := Wk.parts r p (path ++ [k])) (a4, c4) trivial (by repeat (first | exact Split.nil | apply Split.perx (by repeat (first | with_reducible exact Sel.here | with_reducible apply Sel.there)) (by infer_instance) | apply Split.cons (by repeat (first | with_reducible exact Sel.here | with_reducible apply Sel.there)))) ?_
    exact s_rett (rs := [.cell 6 88, .tmp 7]) (vs := [_, _]) Tryz.func52 rfl (by intro j; refine RVS.cell _ _ rfl (by repeat (first | with_reducible exact Sel.here | with_reducible apply Sel.there)) (by rfl) ?_; refine RVS.tmp _ rfl ?_; exact RVS.nil) rfl (⟨u', rfl, rfl⟩) (by repeat (first | exact Ent.nil | refine Ent.per (by repeat (first | with_reducible exact Sel.here | with_reducible apply Sel.there)) ?_ | refine Ent.cons (by repeat (first | with_reducible exact Sel.here | with_reducible apply Sel.there)) ?_))
  | true =>
    have hl1 := of_decide_eq_true hl0
    have hl2 : x.level = lv := hlv.resolve_left (by omega)
    refine go_ ?_
    rw [show (x.level != lv) = false by rw [hl2]; simp]
    refine go_ ?_
    refine s_step (st_bs1 (sz := 1) (cells := [.int .i64 k]) rfl) ?_
    rintro _ _ ⟨a3, rfl, rfl⟩
    refine go_ ?_
    refine s_step (st_appO (a := a) (len := path.length) (cap := c) (b := a3) (m := 1) (c := 1) (by repeat (first | with_reducible exact Sel.here | with_reducible apply Sel.there)) (by repeat (first | with_reducible exact SelR.here | with_reducible apply SelR.there)) (by rw [flat_one]; rfl)) ?_
    rintro _ _ ⟨a4, c4, rfl, rfl⟩
    refine s_open (SO.cg (pathR (path ++ [k])) fun q hq => ?_) ?_
    · unfold rcat pathR
      by_cases hq2 : q < path.length
      · rw [if_pos hq2, List.getD_eq_getElem?_getD, List.getD_eq_getElem?_getD, List.getElem?_append_left hq2]
      · have : q = path.length := by omega
        subst this
        rw [if_neg hq2]; simp [List.getD_eq_getElem?_getD]
    refine go_ ?_
    refine s_front (a := SO 3 1 (.slice a4 (path.length + 1) c4) (path.length + 1) (pathR (path ++ [k]))) (by repeat (first | with_reducible exact Sel.here | with_reducible apply Sel.there)) ?_
    rw [show path.length + 1 = (path ++ [k]).length by simp]
    refine s_cls (φ := fun _ : Option Addr × Nat => True) (X := Wk.parts r p (path ++ [k])) (a4, c4) trivial (by repeat (first | exact Split.nil | apply Split.perx (by repeat (first | with_reducible exact Sel.here | with_reducible apply Sel.there)) (by infer_instance) | apply Split.cons (by repeat (first | with_reducible exact Sel.here | with_reducible apply Sel.there)))) ?_
    exact s_rett (rs := [.cell 6 88, .tmp 7]) (vs := [_, _]) Tryz.func52 rfl (by intro j; refine RVS.cell _ _ rfl (by repeat (first | with_reducible exact Sel.here | with_reducible apply Sel.there)) (by rfl) ?_; refine RVS.tmp _ rfl ?_; exact RVS.nil) rfl (⟨u', rfl, rfl⟩) (by repeat (first | exact Ent.nil | refine Ent.per (by repeat (first | with_reducible exact Sel.here | with_reducible apply Sel.there)) ?_ | refine Ent.cons (by repeat (first | with_reducible exact Sel.here | with_reducible apply Sel.there)) ?_))
end Go.Proofs.YtgbbcpfnmkeijaaGreat
/- Trees that are laid down; find.walk.leaf. -/
namespace Go.Proofs.YtgbbcpfnmkeijaaGreat
open Go.Cam
set_option maxRecDepth 100000
def nd (g : Int → Option (Node × Plc)) (k : Int) : Node := match g k with | some q => q.1 | none => ⟨0, [], []⟩
def kidN (g : Int → Option (Node × Plc)) (key : Key) (k : Int) : Int := ((nd g k).kids.getD (seekX (nd g k) key) default).addr
def wayN (g : Int → Option (Node × Plc)) (key : Key) : Nat → Int → List Int
  | 0, k => [k]
  | h + 1, k => k :: wayN g key h (kidN g key k)
def leafN (g : Int → Option (Node × Plc)) (key : Key) : Nat → Int → Int
  | 0, k => k
  | h + 1, k => leafN g key h (kidN g key k)
/-- a tree of a height, laid down -/
def Tr (σ : Ct) (g : Int → Option (Node × Plc)) : Nat → Int → Prop
  | 0, k => (∃ u, Held σ g k (nd g k) u) ∧ (nd g k).level = 0
  | h + 1, k => (∃ u, Held σ g k (nd g k) u) ∧ (nd g k).level = (h + 1 : Nat) ∧ 0 < (nd g k).kids.length ∧ ∀ i, i < (nd g k).kids.length → Tr σ g h ((nd g k).kids.getD i default).addr
theorem Tr.held {σ : Ct} {g : Int → Option (Node × Plc)} : ∀ {h : Nat} {k : Int}, Tr σ g h k → ∃ u, Held σ g k (nd g k) u
  | 0, _, t => t.1
  | _ + 1, _, t => t.1
theorem Tr.lv {σ : Ct} {g : Int → Option (Node × Plc)} : ∀ {h : Nat} {k : Int}, Tr σ g h k → (nd g k).level = (h : Nat)
  | 0, _, t => t.2
  | _ + 1, _, t => t.2.1
theorem Tr.seek {σ : Ct} {g : Int → Option (Node × Plc)} {h : Nat} {k : Int} (t : Tr σ g (h + 1) k) (key : Key) : seekX (nd g k) key < (nd g k).kids.length := by
  have := seekN_le (fun i => !(key.lt ((nd g k).kids.getD i default).key)) (nd g k).kids.length 0
  have h2 := t.2.2.1
  have h3 := t.2.1
  unfold seekX; rw [if_neg (by omega)]; omega
theorem wayN_head (g : Int → Option (Node × Plc)) (key : Key) : ∀ h k, wayN g key h k = k :: (wayN g key h k).tail
  | 0, _ => rfl
  | _ + 1, _ => rfl
theorem wayN_len (g : Int → Option (Node × Plc)) (key : Key) : ∀ h k, (wayN g key h k).length = h + 1
  | 0, _ => rfl
  | h + 1, k => by rw [wayN, List.length_cons, wayN_len g key h]
set_option maxHeartbeats 8000000 in
theorem leaf_c (r p : Nat) (z : PoZ) (σ : Ct) (g : Int → Option (Node × Plc)) (k : Int) (key : Key) (h : Nat) (path : List Int) (ht : Tr σ g h k) (hp : path.length + h < 100000) : Ctr Tryz.prog 48 [.pointer (some ⟨r, 0, none⟩), .int .i64 k, key.v] [Wk r p path, Po p z σ g]
    (fun v Bs => ∃ u, v = .tuple #[ndV (nd g (leafN g key h k)) u, .int .i64 0] ∧ Bs = [Wk r p (path ++ wayN g key h k), Po p z σ g, Nd1 (nd g (leafN g key h k)) u, Nd2 (nd g (leafN g key h k)) u, Nd3 (nd g (leafN g key h k)) u]) := by
  obtain ⟨u0, hh0⟩ := ht.held
  refine s_enter 47 [(0, _), (1, _), (2, _)] (fun F => [_, _, F]) Tryz.func48 fun F => ?_
  refine go_ ?_
  refine s_box fun r5 => ?_
  refine s_alloc fun r6 => ?_
  refine go_ ?_
  refine s_call (sp := (by repeat (first | exact Split.nil | apply Split.perx (by repeat (first | with_reducible exact Sel.here | with_reducible apply Sel.there)) (by infer_instance) | apply Split.cons (by repeat (first | with_reducible exact Sel.here | with_reducible apply Sel.there))))) (hs := wat_c r p z σ g k (-1) (nd g k) u0 path hh0 (.inl (by decide)) (by omega)) (h := ?_)
  rintro v Bs ⟨u1, rfl, rfl⟩
  refine go_ ?_
  refine s_alloc fun r8 => ?_
  refine go_ ?_
  refine s_loop (fun q : Nat × Int × List Int × Plc => [(0, .pointer (some ⟨r, 0, none⟩)), (5, .pointer (some ⟨r5, 0, none⟩)), (6, .pointer (some ⟨r6, 0, none⟩)), (8, .pointer (some ⟨r8, 0, none⟩)), (9, .int .i64 0)])
    (fun q => [Box r8 88 [.int .i64 (nd g q.2.1).level, .slice q.2.2.2.a (nd g q.2.1).items.length q.2.2.2.c, .slice q.2.2.2.b (nd g q.2.1).kids.length q.2.2.2.d], Wk r p q.2.2.1, Po p z σ g, Nd1 (nd g q.2.1) q.2.2.2, Nd2 (nd g q.2.1) q.2.2.2, Nd3 (nd g q.2.1) q.2.2.2, Box r6 88 [.int .i64 0, .slice none 0 0, .slice none 0 0], Box r5 49 key.row, F])
    (fun q => Tr σ g q.1 q.2.1 ∧ q.2.2.1.length + q.1 < 100001 ∧ q.2.2.1 ++ (wayN g key q.1 q.2.1).tail = path ++ wayN g key h k ∧ leafN g key q.1 q.2.1 = leafN g key h k) (fun q => q.1) (h, k, path ++ [k], u1) ⟨ht, by simp; omega, by dsimp only; rw [List.append_assoc]; congr 1; exact (wayN_head g key h k).symm, rfl⟩ (by repeat (first | exact Ent.nil | refine Ent.per (by repeat (first | with_reducible exact Sel.here | with_reducible apply Sel.there)) ?_ | refine Ent.cons (by repeat (first | with_reducible exact Sel.here | with_reducible apply Sel.there)) ?_)) ?_
  rintro ⟨h', k', path', u'⟩ ⟨ht', hp', hw', hl'⟩ next
  dsimp only at ht' hp' hw' hl' next ⊢
  have hlv := ht'.lv
  refine go_ ?_
  refine s_if (fun h0 => ?_) (fun h0 => ?_)
  · cases h' with
    | zero => exact absurd h0 (by omega)
    | succ h1 =>
      obtain ⟨ux, hhx⟩ := ht'.held
      have hsk := ht'.seek key
      refine go_ ?_
      refine s_call (sp := (by repeat (first | exact Split.nil | apply Split.perx (by repeat (first | with_reducible exact Sel.here | with_reducible apply Sel.there)) (by infer_instance) | apply Split.cons (by repeat (first | with_reducible exact Sel.here | with_reducible apply Sel.there))))) (hs := nseek_c (nd g k') key (a := u'.a) (b := u'.b) (c := u'.c) (d := u'.d) (w := u'.w) rfl rfl hhx.hs.i hhx.hs.k) (h := ?_)
      rintro v Bs ⟨rfl, rfl⟩
      refine go_ ?_
      refine s_front (a := Box r8 88 [.int .i64 (nd g k').level, .slice u'.a (nd g k').items.length u'.c, .slice u'.b (nd g k').kids.length u'.d]) (by repeat (first | with_reducible exact Sel.here | with_reducible apply Sel.there)) ?_
      refine s_front (a := Po p z σ g) (by repeat (first | with_reducible exact Sel.here | with_reducible apply Sel.there)) ?_
      refine s_front (a := Wk r p path') (by repeat (first | with_reducible exact Sel.here | with_reducible apply Sel.there)) ?_
      refine s_drawN 2 [.q 0, .q 1, .q 2, .q 3, .q 4, .q 5, .q 6, .q 7, .q 8, .q 9, .r, .s 10, .q 11, .q 12, .q 13, .s 14, .q 15] ?_
      refine do_ ?_
      refine d_rel 1 ?_
      refine d_nrm ?_
      have ht2 := ht'.2.2.2 _ hsk
      obtain ⟨u2, hh2⟩ := ht2.held
      refine d_step rfl (st_call (sp := (by repeat (first | exact Split.nil | apply Split.perx (by repeat (first | with_reducible exact Sel.here | with_reducible apply Sel.there)) (by infer_instance) | apply Split.cons (by repeat (first | with_reducible exact Sel.here | with_reducible apply Sel.there))))) (hs := wat_c r p z σ g (kidN g key k') ((nd g k').level - 1) (nd g (kidN g key k')) u2 path' hh2 (.inr (by rw [show kidN g key k' = ((nd g k').kids.getD (seekX (nd g k') key) default).addr from rfl, ht2.lv, hlv]; omega)) (by omega))) ?_
      rintro v Bs ⟨Cs, ⟨u3, rfl, rfl⟩, rfl⟩
      refine do_ ?_
      refine d_stepU rfl (st_st (v := ndV (nd g (kidN g key k')) u3)) ?_
      rintro v Bs ⟨rfl, rfl⟩
      refine do_ ?_
      refine go_ ?_
      exact s_entF (by repeat (first | exact Ent.nil | refine Ent.per (by repeat (first | with_reducible exact Sel.here | with_reducible apply Sel.there)) ?_ | refine Ent.cons (by repeat (first | with_reducible exact Sel.here | with_reducible apply Sel.there)) ?_)) (s_keep _ (next (h1, kidN g key k', path' ++ [kidN g key k'], u3) ⟨ht2, by simp; omega, by dsimp only; rw [← hw', wayN, List.tail_cons, List.append_assoc]; congr 1; exact (wayN_head g key h1 (kidN g key k')).symm, hl'⟩ (by dsimp only; omega)))
  · cases h' with
    | succ h1 => exact absurd h0 (by omega)
    | zero =>
      rw [show leafN g key h k = k' from hl'.symm, ← hw', show (wayN g key 0 k').tail = [] from rfl, List.append_nil]
      refine go_ ?_
      exact s_rett (rs := [.cell 6 88, .tmp 7]) (vs := [_, _]) Tryz.func48 rfl (by intro j; refine RVS.cell _ _ rfl (by repeat (first | with_reducible exact Sel.here | with_reducible apply Sel.there)) (by rfl) ?_; refine RVS.tmp _ rfl ?_; exact RVS.nil) rfl (⟨u', rfl, rfl⟩) (by repeat (first | exact Ent.nil | refine Ent.per (by repeat (first | with_reducible exact Sel.here | with_reducible apply Sel.there)) ?_ | refine Ent.cons (by repeat (first | with_reducible exact Sel.here | with_reducible apply Sel.there)) ?_))
end Go.Proofs.YtgbbcpfnmkeijaaGreat
/- find.Get, Height, Path. -/
namespace Go.Proofs.YtgbbcpfnmkeijaaGreat
open Go.Cam
set_option maxRecDepth 100000
theorem s_wk0 {P : Program} {f : FuncId} {n : Nat} {R : Value → HP} {k : List It} {l : List (Nat × Value)} {As Bs : List HP} {r p : Nat} (u : Sel (Box r 114 [.pointer (some ⟨p, 0, none⟩), .slice none 0 0]) As Bs) (h : RunS P f n R k l (Wk r p [] :: Bs)) : RunS P f n R k l As :=
  s_front u (s_newO (e := 3) (sz := 1) (row := pathR []) (s_cls (φ := fun _ : Option Addr × Nat => True) (X := Wk.parts r p []) (none, 0) trivial (Split.cons (Sel.there Sel.here) (Split.cons Sel.here Split.nil)) h))
theorem Tr.leaf {σ : Ct} {g : Int → Option (Node × Plc)} (key : Key) : ∀ {h : Nat} {k : Int}, Tr σ g h k → Tr σ g 0 (leafN g key h k)
  | 0, _, t => t
  | h + 1, k, t => Tr.leaf key (h := h) (k := kidN g key k) (t.2.2.2 _ (t.seek key))
theorem seekHit_lt {x : Node} {k : Key} (h0 : x.level = 0) (h : seekHit x k = true) : seekX x k < x.items.length := by
  unfold seekHit at h; rw [if_pos h0] at h
  exact of_decide_eq_true (Bool.and_eq_true_iff.1 h).1
theorem get0_c (p : Nat) (k : Int) (key : Key) (hk : k = 0) : Ctr Tryz.prog 17 [.pointer (some ⟨p, 0, none⟩), .int .i64 k, key.v] [] (fun v Bs => v = .tuple #[.slice none 0 0, .int .i64 10] ∧ Bs = []) := by
  subst hk
  refine s_enter 39 [(0, _), (1, _), (2, _)] (fun F => [F]) Tryz.func17 fun F => ?_
  refine go_ ?_
  refine s_box fun r5 => ?_
  refine go_ ?_
  exact s_rett (rs := [.tmp 6, .tmp 7]) (vs := [_, _]) Tryz.func17 rfl (by intro j; refine RVS.tmp _ rfl ?_; refine RVS.tmp _ rfl ?_; exact RVS.nil) rfl (⟨rfl, rfl⟩) (by repeat (first | exact Ent.nil | refine Ent.per (by repeat (first | with_reducible exact Sel.here | with_reducible apply Sel.there)) ?_ | refine Ent.cons (by repeat (first | with_reducible exact Sel.here | with_reducible apply Sel.there)) ?_))
set_option maxHeartbeats 4000000 in
theorem get_c (p : Nat) (z : PoZ) (σ : Ct) (g : Int → Option (Node × Plc)) (k : Int) (key : Key) (h : Nat) (ht : Tr σ g h k) (hk : k ≠ 0) (hh : h < 1000) : Ctr Tryz.prog 17 [.pointer (some ⟨p, 0, none⟩), .int .i64 k, key.v] [Po p z σ g]
    (fun v Bs => (seekHit (nd g (leafN g key h k)) key = false ∧ v = .tuple #[.slice none 0 0, .int .i64 10] ∧ Bs = [Po p z σ g]) ∨
      (seekHit (nd g (leafN g key h k)) key = true ∧ ∃ a c, v = .tuple #[.slice a ((nd g (leafN g key h k)).items.getD (seekX (nd g (leafN g key h k)) key) default).val.length c, .int .i64 0] ∧ Bs = [Po p z σ g, BS (.slice a ((nd g (leafN g key h k)).items.getD (seekX (nd g (leafN g key h k)) key) default).val.length c) ((nd g (leafN g key h k)).items.getD (seekX (nd g (leafN g key h k)) key) default).val])) := by
  refine s_enter 39 [(0, _), (1, _), (2, _)] (fun F => [_, F]) Tryz.func17 fun F => ?_
  refine go_ ?_
  refine s_box fun r5 => ?_
  refine go_ ?_
  refine s_ieq (fun h0 => absurd h0 hk) (fun h0 => ?_)
  refine go_ ?_
  refine s_box fun r1 => ?_
  refine s_wk0 (by repeat (first | with_reducible exact Sel.here | with_reducible apply Sel.there)) ?_
  refine go_ ?_
  refine s_call (sp := (by repeat (first | exact Split.nil | apply Split.perx (by repeat (first | with_reducible exact Sel.here | with_reducible apply Sel.there)) (by infer_instance) | apply Split.cons (by repeat (first | with_reducible exact Sel.here | with_reducible apply Sel.there))))) (hs := leaf_c r1 p z σ g k key h [] ht (by simp; omega)) (h := ?_)
  rintro v Bs ⟨u, rfl, rfl⟩
  refine go_ ?_
  refine s_alloc fun r8 => ?_
  refine go_ ?_
  have htl := ht.leaf key
  obtain ⟨ul, hhl⟩ := htl.held
  have hl0 := htl.lv
  revert hhl hl0
  generalize nd g (leafN g key h k) = L
  intro hhl hl0
  refine s_call (sp := (by repeat (first | exact Split.nil | apply Split.perx (by repeat (first | with_reducible exact Sel.here | with_reducible apply Sel.there)) (by infer_instance) | apply Split.cons (by repeat (first | with_reducible exact Sel.here | with_reducible apply Sel.there))))) (hs := nseek_c L key (a := u.a) (b := u.b) (c := u.c) (d := u.d) (w := u.w) rfl rfl hhl.hs.i hhl.hs.k) (h := ?_)
  rintro v Bs ⟨rfl, rfl⟩
  cases hit : seekHit L key with
  | false =>
    refine go_ ?_
    exact s_rett (rs := [.tmp 6, .tmp 7]) (vs := [_, _]) Tryz.func17 rfl (by intro j; refine RVS.tmp _ rfl ?_; refine RVS.tmp _ rfl ?_; exact RVS.nil) rfl (.inl ⟨rfl, rfl, rfl⟩) (by repeat (first | exact Ent.nil | refine Ent.per (by repeat (first | with_reducible exact Sel.here | with_reducible apply Sel.there)) ?_ | refine Ent.cons (by repeat (first | with_reducible exact Sel.here | with_reducible apply Sel.there)) ?_))
  | true =>
    have hlt := seekHit_lt (by rw [hl0]; rfl) hit
    refine go_ ?_
    refine s_get (seekX L key) (F := itemFam u.w L.items) (m := L.items.length) (by repeat (first | with_reducible exact Sel.here | with_reducible apply Sel.there)) hlt ?_
    exact s_rett (rs := [.tmp 6, .tmp 7]) (vs := [_, _]) Tryz.func17 rfl (by intro j; refine RVS.tmp _ rfl ?_; refine RVS.tmp _ rfl ?_; exact RVS.nil) rfl (.inr ⟨rfl, (u.w (seekX L key)).1, (u.w (seekX L key)).2, rfl, rfl⟩) (by repeat (first | exact Ent.nil | refine Ent.per (by repeat (first | with_reducible exact Sel.here | with_reducible apply Sel.there)) ?_ | refine Ent.cons (by repeat (first | with_reducible exact Sel.here | with_reducible apply Sel.there)) ?_))
end Go.Proofs.YtgbbcpfnmkeijaaGreat
/- find.Height, Path. -/
namespace Go.Proofs.YtgbbcpfnmkeijaaGreat
open Go.Cam
set_option maxRecDepth 100000
theorem height0_c (p : Nat) (k : Int) (hk : k = 0) : Ctr Tryz.prog 34 [.pointer (some ⟨p, 0, none⟩), .int .i64 k] [] (fun v Bs => v = .tuple #[.int .i64 0, .int .i64 0] ∧ Bs = []) := by
  subst hk
  refine s_enter 22 [(0, _), (1, _)] (fun F => [F]) Tryz.func34 fun F => ?_
  refine go_ ?_
  exact s_rett (rs := [.tmp 4, .tmp 5]) (vs := [_, _]) Tryz.func34 rfl (by intro j; refine RVS.tmp _ rfl ?_; refine RVS.tmp _ rfl ?_; exact RVS.nil) rfl (⟨rfl, rfl⟩) (by repeat (first | exact Ent.nil | refine Ent.per (by repeat (first | with_reducible exact Sel.here | with_reducible apply Sel.there)) ?_ | refine Ent.cons (by repeat (first | with_reducible exact Sel.here | with_reducible apply Sel.there)) ?_))
set_option maxHeartbeats 4000000 in
theorem height_c (p : Nat) (z : PoZ) (σ : Ct) (g : Int → Option (Node × Plc)) (k : Int) (h : Nat) (ht : Tr σ g h k) (hk : k ≠ 0) (hh : h < 1000) : Ctr Tryz.prog 34 [.pointer (some ⟨p, 0, none⟩), .int .i64 k] [Po p z σ g] (fun v Bs => v = .tuple #[.int .i64 (h + 1 : Nat), .int .i64 0] ∧ Bs = [Po p z σ g]) := by
  obtain ⟨u, hu⟩ := ht.held
  have hlv := ht.lv
  refine s_enter 22 [(0, _), (1, _)] (fun F => [_, F]) Tryz.func34 fun F => ?_
  refine go_ ?_
  refine s_ieq (fun h0 => absurd h0 hk) (fun h0 => ?_)
  refine s_opn (φ := fun _ : Unit => True) (X := Po.parts p z σ g) (by repeat (first | with_reducible exact Sel.here | with_reducible apply Sel.there)) fun _ _ => ?_
  unfold Po.parts
  refine s_nrm ?_
  refine go_ ?_
  refine s_call (sp := (by repeat (first | exact Split.nil | apply Split.perx (by repeat (first | with_reducible exact Sel.here | with_reducible apply Sel.there)) (by infer_instance) | apply Split.cons (by repeat (first | with_reducible exact Sel.here | with_reducible apply Sel.there))))) (hs := pnode_c p z.b z.gen z.n z.bc z.m σ g k (nd g k) u hu.hs hu.hk hu.hc hu.hg) (h := ?_)
  rintro v Bs ⟨u', rfl, rfl⟩
  refine go_ ?_
  refine s_alloc fun r6 => ?_
  refine s_cls (φ := fun _ : Unit => True) (X := Po.parts p z σ g) () trivial (by repeat (first | exact Split.nil | apply Split.perx (by repeat (first | with_reducible exact Sel.here | with_reducible apply Sel.there)) (by infer_instance) | apply Split.cons (by repeat (first | with_reducible exact Sel.here | with_reducible apply Sel.there)))) ?_
  refine go_ ?_
  rw [hlv, show ((h : Nat) : Int) + 1 = ((h + 1 : Nat) : Int) by omega]
  exact s_rett (rs := [.tmp 4, .tmp 5]) (vs := [_, _]) Tryz.func34 rfl (by intro j; refine RVS.tmp _ rfl ?_; refine RVS.tmp _ rfl ?_; exact RVS.nil) rfl (⟨rfl, rfl⟩) (by repeat (first | exact Ent.nil | refine Ent.per (by repeat (first | with_reducible exact Sel.here | with_reducible apply Sel.there)) ?_ | refine Ent.cons (by repeat (first | with_reducible exact Sel.here | with_reducible apply Sel.there)) ?_))
end Go.Proofs.YtgbbcpfnmkeijaaGreat
/- What a scan tells, of a tree that is laid down. -/
namespace Go.Proofs.YtgbbcpfnmkeijaaGreat
open Go.Cam
set_option maxRecDepth 100000
def scanStop (to : Key) (most : Int) (k : Key) (out : List Item) : Bool := to.lt k || decide ((out.length : Int) ≥ most)
def scanItems (to : Key) (most : Int) : List Item → List Item → List Item
  | [], out => out
  | x :: l, out => if scanStop to most x.key out then out else scanItems to most l (out ++ [x])
def scanKids (to : Key) (most : Int) (rec : Int → List Item → List Item) : List Kid → List Item → List Item
  | [], out => out
  | y :: l, out => if scanStop to most y.key out then out else scanKids to most rec l (rec y.addr out)
def scanN (g : Int → Option (Node × Plc)) (fr to : Key) (most : Int) : Nat → Int → List Item → List Item
  | 0, k, out => scanItems to most ((nd g k).items.drop (seekX (nd g k) fr)) out
  | h + 1, k, out => scanKids to most (scanN g fr to most h) ((nd g k).kids.drop (seekX (nd g k) fr)) out
theorem scanItems_len (to : Key) (most : Int) : ∀ l out, (scanItems to most l out).length ≤ out.length + l.length
  | [], out => Nat.le_refl _
  | x :: l, out => by
    rw [scanItems]; split
    · omega
    · have := scanItems_len to most l (out ++ [x]); simp at this ⊢; omega
theorem scanKids_len (to : Key) (most : Int) (rec : Int → List Item → List Item) (N : Nat) (hr : ∀ k out, (rec k out).length ≤ out.length + N) : ∀ l out, (scanKids to most rec l out).length ≤ out.length + l.length * N
  | [], out => by simp [scanKids]
  | y :: l, out => by
    rw [scanKids]; split
    · omega
    · have := scanKids_len to most rec N hr l (rec y.addr out)
      have := hr y.addr out
      rw [List.length_cons, Nat.add_mul]; omega
theorem nodeOk_items {x : Node} (h : nodeOk x = true) (h0 : x.level = 0) : 1 ≤ x.items.length ∧ x.items.length ≤ 6 ∧ x.kids.length = 0 := by
  unfold nodeOk at h; rw [if_pos h0] at h
  simp only [Bool.and_eq_true, decide_eq_true_eq] at h; omega
theorem nodeOk_kids {x : Node} (h : nodeOk x = true) (h0 : x.level ≠ 0) : 2 ≤ x.kids.length ∧ x.kids.length ≤ 12 ∧ x.items.length = 0 := by
  unfold nodeOk at h; rw [if_neg h0] at h
  simp only [Bool.and_eq_true, decide_eq_true_eq] at h; omega
end Go.Proofs.YtgbbcpfnmkeijaaGreat
