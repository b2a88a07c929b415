/- The plain law of grown trees: nodes that are laid down over nodes make a tree of the row. -/
import Derived.Test.YtgbbcpfnmkeijaaGreatGrtBF
import Derived.Test.YtgbbcpfnmkeijaaGreatGrtBB
namespace Go.Proofs.YtgbbcpfnmkeijaaGreat
open Go.Cam
set_option maxRecDepth 100000
def itemsX (g : Int → Option (Node × Plc)) : Nat → Node → List Item
  | 0, x => x.items
  | h + 1, x => catK (itemsT g h) x.kids
theorem itemsT_X (g : Int → Option (Node × Plc)) (h : Nat) (k : Int) : itemsT g h k = itemsX g h (nd g k) := by cases h <;> rfl
structure KidOk (σ : Ct) (g : Int → Option (Node × Plc)) (h : Nat) (y : Kid) : Prop where
  tr : Tr σ g h y.addr
  wf : WF g h y.addr
  fst : ∃ x r, itemsT g h y.addr = x :: r ∧ y.key = x.key
  ad : 1 ≤ y.addr ∧ y.addr ≤ 2047
structure Good (σ : Ct) (g : Int → Option (Node × Plc)) (h : Nat) (x : Node) : Prop where
  hs : x.small
  ok : nodeOk x = true
  lv : x.level = (h : Nat)
  leaf : h = 0 → x.items ≠ []
  kids : ∀ h', h = h' + 1 → x.kids ≠ [] ∧ ∀ y ∈ x.kids, KidOk σ g h' y
structure Ext (σ : Ct) (g : Int → Option (Node × Plc)) (σ' : Ct) (g' : Int → Option (Node × Plc)) : Prop where
  n : σ'.n = σ.n
  h : ∀ k x u, Held σ g k x u → Held σ' g' k x u
theorem nd_of {g : Int → Option (Node × Plc)} {k : Int} {x : Node} {u : Plc} (h : g k = some (x, u)) : nd g k = x := by unfold nd; rw [h]
theorem flatMap_cg {α β : Type} {f f' : α → List β} : ∀ {l : List α}, (∀ x ∈ l, f x = f' x) → l.flatMap f = l.flatMap f'
  | [], _ => rfl
  | x :: l, h => by rw [List.flatMap_cons, List.flatMap_cons, h x (List.mem_cons_self ..), flatMap_cg fun y hy => h y (List.mem_cons_of_mem _ hy)]
theorem Ext.tr {σ σ' : Ct} {g g' : Int → Option (Node × Plc)} (e : Ext σ g σ' g') : ∀ h k, Tr σ g h k → Tr σ' g' h k ∧ itemsT g' h k = itemsT g h k ∧ (WF g h k → WF g' h k)
  | 0, k, t => by
    obtain ⟨⟨u, hu⟩, t2⟩ := t
    have h2 := e.h _ _ _ hu
    have hn := nd_of h2.hg
    refine ⟨⟨⟨u, by rw [hn]; exact h2⟩, by rw [hn]; exact t2⟩, by rw [itemsT, itemsT, hn], fun w => by rw [WF, hn]; exact w⟩
  | h + 1, k, t => by
    obtain ⟨⟨u, hu⟩, t2, t3, t4⟩ := t
    have h2 := e.h _ _ _ hu
    have hn := nd_of h2.hg
    have hy : ∀ y ∈ (nd g k).kids, Tr σ g h y.addr := fun y hy => by
      obtain ⟨i, hi, e⟩ := List.mem_iff_getElem.1 hy
      have := t4 i hi; rwa [getD_get hi, e] at this
    refine ⟨⟨⟨u, by rw [hn]; exact h2⟩, by rw [hn]; exact t2, by rw [hn]; exact t3, fun i hi => ?_⟩, ?_, fun w => ?_⟩
    · rw [hn] at hi ⊢; exact (e.tr h _ (t4 i hi)).1
    · rw [itemsT, itemsT, hn]; exact flatMap_cg fun y hy' => (e.tr h _ (hy y hy')).2.1
    · obtain ⟨w1, w2, w3⟩ := w
      rw [WF, hn]
      refine ⟨w1, w2, fun y hy' => ⟨(e.tr h _ (hy y hy')).2.2 (w3 y hy').1, ?_⟩⟩
      rw [(e.tr h _ (hy y hy')).2.1]; exact (w3 y hy').2
theorem KidOk.ext {σ σ' : Ct} {g g' : Int → Option (Node × Plc)} (e : Ext σ g σ' g') {h : Nat} {y : Kid} (k : KidOk σ g h y) : KidOk σ' g' h y ∧ itemsT g' h y.addr = itemsT g h y.addr := by
  obtain ⟨h1, h2, h3⟩ := e.tr h _ k.tr
  exact ⟨⟨h1, h3 k.wf, by rw [h2]; exact k.fst, k.ad⟩, h2⟩
theorem Good.ext {σ σ' : Ct} {g g' : Int → Option (Node × Plc)} (e : Ext σ g σ' g') {h : Nat} {x : Node} (k : Good σ g h x) : Good σ' g' h x ∧ itemsX g' h x = itemsX g h x := by
  refine ⟨⟨k.hs, k.ok, k.lv, k.leaf, fun h' hh => ⟨(k.kids h' hh).1, fun y hy => (((k.kids h' hh).2 y hy).ext e).1⟩⟩, ?_⟩
  cases h with
  | zero => rfl
  | succ h => exact flatMap_cg fun y hy => (((k.kids h rfl).2 y hy).ext e).2
theorem ext_lay {σ : Ct} {g : Int → Option (Node × Plc)} {i : Nat} (v : Node × Plc) (h : σ.now i = 0) : Ext σ g { σ with now := nset σ.now i 1 } (gset g i v) := by
  refine ⟨rfl, fun k x u hh => ?_⟩
  have hne : k.toNat ≠ i := fun e => hh.hc (by rw [e]; exact h)
  have h0 := hh.hk.1
  refine ⟨hh.hs, hh.ok, hh.hk, ?_, ?_⟩
  · show nset σ.now i 1 k.toNat ≠ 0
    unfold nset; rw [if_neg hne]; exact hh.hc
  · unfold gset; rw [if_neg (by omega)]; exact hh.hg
theorem Good.fst {σ : Ct} {g : Int → Option (Node × Plc)} {h : Nat} {x : Node} (k : Good σ g h x) : ∃ z r, itemsX g h x = z :: r ∧ (nkeys x).getD 0 default = z.key := by
  cases h with
  | zero =>
    have := k.leaf rfl
    cases hx : x.items with
    | nil => exact absurd hx this
    | cons z r => exact ⟨z, r, hx, by simp [nkeys, hx, List.getD_eq_getElem?_getD]⟩
  | succ h =>
    obtain ⟨h1, h2⟩ := k.kids h rfl
    have h3 := (nodeOk_kids k.ok (by rw [k.lv]; omega)).2.2
    have h4 : x.items = [] := List.eq_nil_of_length_eq_zero h3
    cases hx : x.kids with
    | nil => exact absurd hx h1
    | cons y ys =>
      obtain ⟨z, r, h5, h6⟩ := (h2 y (by rw [hx]; exact List.mem_cons_self ..)).fst
      refine ⟨z, r ++ catK (itemsT g h) ys, ?_, ?_⟩
      · show catK (itemsT g h) x.kids = _
        rw [hx]; show itemsT g h y.addr ++ _ = _; rw [h5]; rfl
      · rw [← h6]; simp [nkeys, h4, hx, List.getD_eq_getElem?_getD]
theorem Good.nkeys_pos {σ : Ct} {g : Int → Option (Node × Plc)} {h : Nat} {x : Node} (k : Good σ g h x) : 0 < (nkeys x).length := by
  rw [nkeys_len]
  cases h with
  | zero => have := List.length_pos_iff.2 (k.leaf rfl); omega
  | succ h => have := List.length_pos_iff.2 (k.kids h rfl).1; omega
/-- a node that is laid down -/
theorem Good.lay {σ : Ct} {g : Int → Option (Node × Plc)} {h : Nat} {x : Node} (k : Good σ g h x) (i : Nat) (u : Plc) (h0 : σ.now i = 0) (hi : i < σ.n) (hi1 : 1 ≤ i ∧ i ≤ 2047) :
    KidOk { σ with now := nset σ.now i 1 } (gset g i (x, u)) h ⟨(nkeys x).getD 0 default, (i : Int)⟩ ∧ itemsT (gset g i (x, u)) h (i : Int) = itemsX g h x := by
  have e := ext_lay (g := g) (x, u) h0
  have hgs : gset g i (x, u) (i : Int) = some (x, u) := by unfold gset; rw [if_pos rfl]
  have hn : nd (gset g i (x, u)) (i : Int) = x := nd_of hgs
  have hH : Held { σ with now := nset σ.now i 1 } (gset g i (x, u)) (i : Int) x u := ⟨k.hs, k.ok, ⟨by omega, by show (i : Int) < (σ.n : Int); omega⟩, by show nset σ.now i 1 (i : Int).toNat ≠ 0; unfold nset; rw [if_pos (by omega)]; omega, hgs⟩
  obtain ⟨k2, hX⟩ := k.ext e
  have hT : itemsT (gset g i (x, u)) h (i : Int) = itemsX g h x := by rw [itemsT_X, hn, hX]
  refine ⟨⟨?_, ?_, ?_, by dsimp only; omega⟩, hT⟩
  · cases h with
    | zero => exact ⟨⟨u, by rw [hn]; exact hH⟩, by rw [hn]; exact k.lv⟩
    | succ h =>
      obtain ⟨c1, c2⟩ := k2.kids h rfl
      refine ⟨⟨u, by rw [hn]; exact hH⟩, by rw [hn]; exact k.lv, by rw [hn]; exact List.length_pos_iff.2 c1, fun j hj => ?_⟩
      rw [hn] at hj ⊢; exact (c2 _ (getD_mem hj)).tr
  · cases h with
    | zero => rw [WF, hn]; exact ⟨k.lv, k.leaf rfl⟩
    | succ h =>
      obtain ⟨c1, c2⟩ := k2.kids h rfl
      rw [WF, hn]
      exact ⟨k.lv, c1, fun y hy => ⟨(c2 y hy).wf, (c2 y hy).fst⟩⟩
  · obtain ⟨z, r, h1, h2⟩ := k.fst
    exact ⟨z, r, by rw [hT, h1], h2⟩
theorem firstFree_some {σ : Ct} : ∀ m i j, i ≤ j → j < i + m → σ.now j = 0 ∧ σ.done j = 0 → ∃ k, σ.firstFree m i = some k ∧ i ≤ k ∧ k ≤ j ∧ σ.now k = 0
  | 0, i, j, h1, h2, _ => by omega
  | m + 1, i, j, h1, h2, h3 => by
    rw [Ct.firstFree]
    by_cases h : σ.now i = 0 ∧ σ.done i = 0
    · exact ⟨i, by rw [if_pos h], Nat.le_refl _, h1, h.1⟩
    · rw [if_neg h]
      have hne : i ≠ j := fun e => by subst e; exact h h3
      obtain ⟨k, a1, a2, a3, a4⟩ := firstFree_some m (i + 1) j (by omega) (by omega) h3
      exact ⟨k, a1, by omega, a3, a4⟩
structure Fre (σ : Ct) (u : Nat) : Prop where
  n : σ.n = 256
  h : ∀ i, 8 + u ≤ i → i < 256 → σ.now i = 0 ∧ σ.done i = 0
theorem Fre.some {σ : Ct} {u : Nat} (h : Fre σ u) (hu : u < 248) : ∃ i, σ.free? = some i ∧ 8 ≤ i ∧ i ≤ 8 + u ∧ σ.now i = 0 := by
  have e : firstN σ.n = 8 := by rw [h.n]; rfl
  unfold Ct.free?
  rw [e, h.n]
  exact firstFree_some (256 - 8) 8 (8 + u) (by omega) (by omega) (h.h _ (Nat.le_refl _) (by omega))
theorem Fre.next {σ : Ct} {u i : Nat} (h : Fre σ u) (hi : i ≤ 8 + u) : Fre { σ with now := nset σ.now i 1 } (u + 1) := by
  refine ⟨h.n, fun j h1 h2 => ?_⟩
  show nset σ.now i 1 j = 0 ∧ _
  unfold nset; rw [if_neg (by omega)]; exact h.h j (by omega) h2
theorem Fre.new : Fre (Ct.new 256) 0 := ⟨rfl, fun _ _ _ => ⟨rfl, rfl⟩⟩
theorem keysRise_of {l : List Key} (h : l.Pairwise fun a b => a.lt b = true) (ho : ∀ k ∈ l, k.ok = true) : KeysRise l := fun i hi => by
  refine ⟨ho _ (getD_mem hi), fun h0 => ?_⟩
  rw [getD_get hi, getD_get (show i - 1 < l.length by omega)]
  exact List.pairwise_iff_getElem.1 h _ _ _ _ (by omega)
theorem Ris.keys {l : List Item} (h : Ris l) : (l.map Item.key).Pairwise fun a b => a.lt b = true := List.pairwise_map.2 h
theorem kids_keys {T : Int → List Item} : ∀ {ks : List Kid}, Ris (catK T ks) → (∀ y ∈ ks, ∃ x r, T y.addr = x :: r ∧ y.key = x.key) → (ks.map Kid.key).Pairwise fun a b => a.lt b = true
  | [], _, _ => List.Pairwise.nil
  | y :: ks, hr, hk => by
    have hr : Ris (T y.addr ++ catK T ks) := hr
    obtain ⟨a1, a2, a3⟩ := hr.app
    refine List.pairwise_cons.2 ⟨fun k hk' => ?_, kids_keys a2 fun z hz => hk z (List.mem_cons_of_mem _ hz)⟩
    obtain ⟨z, hz, rfl⟩ := List.mem_map.1 hk'
    obtain ⟨x, r, h1, h2⟩ := hk y (List.mem_cons_self ..)
    obtain ⟨x', r', h3, h4⟩ := hk z (List.mem_cons_of_mem _ hz)
    rw [h2, h4]
    exact a3 x (by rw [h1]; simp) x' (catK_mem hz (by rw [h3]; simp))
theorem partOf_sub {α : Type} (l : List α) (q : Nat × Nat) : (partOf l q).Sublist l := (List.take_sublist _ _).trans (List.drop_sublist _ _)
structure Lvl (σ : Ct) (g : Int → Option (Node × Plc)) (h : Nat) (xs : List Node) (L : List Item) : Prop where
  good : ∀ x ∈ xs, Good σ g h x
  cat : xs.flatMap (itemsX g h) = L
theorem leaf_lvl (σ : Ct) (g : Int → Option (Node × Plc)) {l : List Item} {ps : List (Nat × Nat)} (hl : RowOk l) (hp : PFin 3 6 l ps) : Lvl σ g 0 (leafNodes l ps) l := by
  refine ⟨fun x hx => ?_, ?_⟩
  · obtain ⟨q, hq, rfl⟩ := List.mem_map.1 hx
    obtain ⟨p1, p2, p3, _⟩ := hp.each q hq
    have hlen : (partOf l q).length = q.2 := partOf_len (p := q.1) (n := q.2) p3
    have hsub := partOf_sub l q
    have hv : ∀ i, i < (partOf l q).length → ((partOf l q).getD i default).val.length ≤ 28 := fun i hi => (hl.ok _ (hsub.subset (getD_mem hi))).2.1
    refine ⟨⟨by show (partOf l q).length < _; omega, by show (0 : Nat) < _; omega, fun i hi => by have := hv i hi; dsimp only; omega⟩, ?_, rfl, fun _ e => ?_, fun h' hh => by omega⟩
    · unfold nodeOk
      rw [if_pos rfl]
      dsimp only
      rw [decide_eq_true hv, decide_eq_true (p := ([] : List Kid).length = 0) rfl, decide_eq_true (p := 1 ≤ (partOf l q).length ∧ (partOf l q).length ≤ 6) (by omega), decide_eq_true (p := KeysRise _)]
      · rfl
      · exact keysRise_of (Ris.keys (hl.ris.sublist hsub)) fun k hk => by
          obtain ⟨z, hz, rfl⟩ := List.mem_map.1 hk
          exact (hl.ok _ (hsub.subset hz)).1
    · have e : partOf l q = [] := e
      rw [e] at hlen; simp at hlen; omega
  · show (ps.map _).flatMap _ = _
    rw [List.flatMap_map]; exact hp.cat
theorem flatMap_flatMap' {α β γ : Type} (f : α → List β) (k : β → List γ) : ∀ l : List α, l.flatMap (fun x => (f x).flatMap k) = (l.flatMap f).flatMap k
  | [] => rfl
  | x :: l => by rw [List.flatMap_cons, List.flatMap_cons, List.flatMap_append, flatMap_flatMap' f k l]
theorem inn_lvl {σ : Ct} {g : Int → Option (Node × Plc)} {h : Nat} {L : List Item} {ks : List Kid} {ps : List (Nat × Nat)} (hL : RowOk L) (hk : ∀ y ∈ ks, KidOk σ g h y) (hc : catK (itemsT g h) ks = L) (hp : PFin 6 12 ks ps) (h2 : 2 ≤ ks.length) (hh : h < 7) :
    Lvl σ g (h + 1) (innNodes (h + 1 : Nat) ks ps) L := by
  have hr : Ris (catK (itemsT g h) ks) := by rw [hc]; exact hL.ris
  refine ⟨fun x hx => ?_, ?_⟩
  · obtain ⟨q, hq, rfl⟩ := List.mem_map.1 hx
    obtain ⟨p1, p2, p3, p4, p5⟩ := hp.each q hq
    have hlen : (partOf ks q).length = q.2 := partOf_len (p := q.1) (n := q.2) p3
    have hsub := partOf_sub ks q
    have hq2 : 2 ≤ q.2 := by
      rcases Nat.lt_or_ge 12 ks.length with e | e
      · have := p5 e; omega
      · have := p4 e; omega
    have hm : ∀ y ∈ partOf ks q, KidOk σ g h y := fun y hy => hk y (hsub.subset hy)
    refine ⟨⟨by show (0 : Nat) < _; omega, by show (partOf ks q).length < _; omega, fun i hi => absurd hi (Nat.not_lt_zero _)⟩, ?_, rfl, fun e => by omega, fun h' e => ?_⟩
    · unfold nodeOk
      rw [if_neg (by dsimp only; omega)]
      dsimp only
      rw [decide_eq_true (p := ∀ i, i < (partOf ks q).length → 1 ≤ ((partOf ks q).getD i default).addr ∧ ((partOf ks q).getD i default).addr ≤ 2047) fun i hi => (hm _ (getD_mem hi)).ad,
        decide_eq_true (p := (1 : Int) ≤ ((h + 1 : Nat) : Int) ∧ ((h + 1 : Nat) : Int) ≤ 7) (by omega), decide_eq_true (p := ([] : List Item).length = 0) rfl, decide_eq_true (p := 2 ≤ (partOf ks q).length ∧ (partOf ks q).length ≤ 12) (by omega), decide_eq_true (p := KeysRise _)]
      · rfl
      · have h3 := kids_keys hr fun y hy => (hk y hy).fst
        refine keysRise_of (h3.sublist (hsub.map _)) fun k hk' => ?_
        obtain ⟨z, hz, rfl⟩ := List.mem_map.1 hk'
        obtain ⟨x, r, h4, h5⟩ := (hm z hz).fst
        rw [h5]
        exact (hL.ok x (by rw [← hc]; exact catK_mem (hsub.subset hz) (by rw [h4]; simp))).1
    · have e : h' = h := by omega
      subst e
      refine ⟨fun e => ?_, hm⟩
      have e : partOf ks q = [] := e
      rw [e] at hlen; simp at hlen; omega
  · show (ps.map _).flatMap _ = _
    rw [List.flatMap_map]
    show ps.flatMap (fun q => (partOf ks q).flatMap fun y => itemsT g h y.addr) = L
    rw [flatMap_flatMap', hp.cat]; exact hc
end Go.Proofs.YtgbbcpfnmkeijaaGreat
/- find.Scan$1 on an inner node. -/
namespace Go.Proofs.YtgbbcpfnmkeijaaGreat
open Go.Cam
set_option maxRecDepth 100000
instance : SZ Tryz.prog 121 1 := ⟨by kernel_rfl⟩
instance : AG Tryz.prog 121 false := ⟨by kernel_rfl⟩
end Go.Proofs.YtgbbcpfnmkeijaaGreat
/- find.Scan. -/
namespace Go.Proofs.YtgbbcpfnmkeijaaGreat
open Go.Cam
set_option maxRecDepth 100000
theorem s_out0 {P : Program} {f : FuncId} {n : Nat} {R : Value → HP} {k : List It} {l : List (Nat × Value)} {As Bs : List HP} {r : Nat} (u : Sel (Box r 37 [.slice none 0 0]) As Bs) (h : RunS P f n R k l (OutA r [] :: Bs)) : RunS P f n R k l As :=
  s_front u (s_newO (e := 51) (sz := 4) (row := itemRow (fun _ => (none, 0)) []) (s_fam0 (F := itemFam (fun _ => (none, 0)) []) (s_cls (φ := fun _ : Option Addr × Nat × (Nat → Option Addr × Nat) => True) (X := Out.parts r []) (none, 0, fun _ => (none, 0)) trivial (Split.cons (Sel.there (Sel.there Sel.here)) (Split.cons (Sel.there Sel.here) (Split.cons Sel.here Split.nil))) h)))
instance : ZV Tryz.prog 121 .nilFunc := ⟨by kernel_rfl⟩
theorem scanNone_c (p : Nat) (k : Int) (fr to : Key) (most : Int) (hk : k = 0 ∨ most < 1) : Ctr Tryz.prog 20 [.pointer (some ⟨p, 0, none⟩), .int .i64 k, fr.v, to.v, .int .i64 most] [] (fun v Bs => v = .tuple #[.slice none 0 0, .int .i64 0] ∧ Bs = []) := by
  refine s_enter 33 [(0, _), (1, _), (2, _), (3, _), (4, _)] (fun F => [F]) Tryz.func20 fun F => ?_
  refine go_ ?_
  refine s_box fun r7 => ?_
  refine s_box fun r8 => ?_
  refine s_box fun r9 => ?_
  refine go_ ?_
  refine s_alloc fun r12 => ?_
  refine go_ ?_
  refine s_box fun r1 => ?_
  refine s_alloc fun r13 => ?_
  refine go_ ?_
  refine s_alloc fun r14 => ?_
  refine go_ ?_
  refine s_look lk_mkf6 ?_
  refine go_ ?_
  cases h0 : k == 0 with
  | true =>
    refine go_ ?_
    exact s_rett (rs := [.tmp 10, .tmp 11]) (vs := [_, _]) Tryz.func20 rfl (by intro j; refine RVS.tmp _ rfl ?_; refine RVS.tmp _ rfl ?_; exact RVS.nil) rfl (⟨rfl, rfl⟩) (by repeat (first | exact Ent.nil | refine Ent.per (by repeat (first | with_reducible exact Sel.here | with_reducible apply Sel.there)) ?_ | refine Ent.cons (by repeat (first | with_reducible exact Sel.here | with_reducible apply Sel.there)) ?_))
  | false =>
    have h1 := ne_of_beq_false h0
    refine go_ ?_
    rw [show decide (most < 1) = true from decide_eq_true (hk.resolve_left h1)]
    refine go_ ?_
    exact s_rett (rs := [.tmp 10, .tmp 11]) (vs := [_, _]) Tryz.func20 rfl (by intro j; refine RVS.tmp _ rfl ?_; refine RVS.tmp _ rfl ?_; exact RVS.nil) rfl (⟨rfl, rfl⟩) (by repeat (first | exact Ent.nil | refine Ent.per (by repeat (first | with_reducible exact Sel.here | with_reducible apply Sel.there)) ?_ | refine Ent.cons (by repeat (first | with_reducible exact Sel.here | with_reducible apply Sel.there)) ?_))
end Go.Proofs.YtgbbcpfnmkeijaaGreat
/- The law's examples: shown. -/
namespace Go.Proofs.YtgbbcpfnmkeijaaGreat
open Go.Cam
set_option maxRecDepth 100000
def exNode : Node := ⟨0, [⟨⟨1, 0, 0⟩, [97, 98]⟩], []⟩
theorem s_po {P : Program} {f : FuncId} {n : Nat} {R : Value → HP} {K : List It} {s : List (Nat × Value)} {As Bs Rs Ss : List HP} {p b gen n' bc m : Nat} {σ : Ct} (e1 : Sel (PoB p b gen n' bc m) As Bs) (e2 : Sel (CtA bc σ) Bs Rs) (e3 : Sel (MG m (fun _ => none)) Rs Ss)
    (h : RunS P f n R K s (Po p ⟨b, gen, n', bc, m⟩ σ (fun _ => none) :: Ss)) : RunS P f n R K s As :=
  s_front e1 (s_nds0 (s_cls (φ := fun _ : Unit => True) (X := Po.parts p ⟨b, gen, n', bc, m⟩ σ (fun _ => none)) () trivial (Split.cons (.there .here) (Split.cons (.there e2) (Split.cons (.there e3) (Split.cons .here .nil)))) h))
theorem pputG_c (p : Nat) (z : PoZ) {σ : Ct} {g : Int → Option (Node × Plc)} {h i : Nat} {x : Node} (u : Plc) (k : Good σ g h x) (hf : σ.free? = some i) : Ctr Tryz.prog 35 [.pointer (some ⟨p, 0, none⟩), ndV x u] [Po p z σ g, Nd1 x u, Nd2 x u, Nd3 x u]
    (fun v Bs => ∃ u', v = .tuple #[.int .i64 (i : Nat), .int .i64 0] ∧ Bs = [Po p z { σ with now := nset σ.now i 1 } (gset g i (x, u'))]) := by
  refine Ctr.post (Ctr.pre (pput_c p z.b z.gen z.n z.bc z.m σ g x u k.hs) fun H M q => ?_) fun v Bs q => ?_
  · have h1 : (Sat (Po.parts p z σ g () ++ [Nd1 x u, Nd2 x u, Nd3 x u])).p H M := Sat.pushL (star_monoL (A := Po p z σ g) (C := Sat (Po.parts p z σ g ())) (fun _ _ h => by obtain ⟨_, _, h⟩ := h; exact h) q)
    exact (show Ent (Po.parts p z σ g () ++ [Nd1 x u, Nd2 x u, Nd3 x u]) _ by unfold Po.parts; exact (by (try simp only [List.cons_append, List.nil_append]); repeat (first | exact Ent.nil | refine Ent.per (by repeat (first | with_reducible exact Sel.here | with_reducible apply Sel.there)) ?_ | refine Ent.cons (by repeat (first | with_reducible exact Sel.here | with_reducible apply Sel.there)) ?_))).sat h1
  · rcases q with ⟨h1, _⟩ | ⟨_, i2, u', h1, rfl, rfl⟩ | ⟨_, h1, _⟩
    · rw [k.ok] at h1; cases h1
    · rw [hf] at h1; cases h1
      exact ⟨_, ⟨u', rfl, rfl⟩, fun H M q => sat1 ⟨(), trivial, q⟩⟩
    · rw [hf] at h1; cases h1
set_option maxHeartbeats 8000000 in
theorem shown_c : Ctr Tryz.prog 13 [] [] (fun v Bs => v = .bool true ∧ Bs = []) := by
  refine s_enter 98 [] (fun F => [F]) Tryz.func13 fun F => ?_
  refine go_ ?_
  refine s_call (sp := (by repeat (first | exact Split.nil | apply Split.perx (by repeat (first | with_reducible exact Sel.here | with_reducible apply Sel.there)) (by infer_instance) | apply Split.cons (by repeat (first | with_reducible exact Sel.here | with_reducible apply Sel.there))))) (hs := dnew_c 32 (by decide) (by decide)) (h := ?_)
  rintro v Bs ⟨b, rfl, rfl⟩
  refine go_ ?_
  refine s_call (sp := (by repeat (first | exact Split.nil | apply Split.perx (by repeat (first | with_reducible exact Sel.here | with_reducible apply Sel.there)) (by infer_instance) | apply Split.cons (by repeat (first | with_reducible exact Sel.here | with_reducible apply Sel.there))))) (hs := pformat_c b (Dr.new 32) ⟨rfl, by show (-1 : Int) < 0; decide⟩ (by decide) (by decide) (by decide)) (h := ?_)
  rintro v Bs ⟨p, bc, m, rfl, rfl⟩
  refine go_ ?_
  refine s_po (by repeat (first | with_reducible exact Sel.here | with_reducible apply Sel.there)) (by repeat (first | with_reducible exact Sel.here | with_reducible apply Sel.there)) (by repeat (first | with_reducible exact Sel.here | with_reducible apply Sel.there)) ?_
  refine s_alloc fun r5 => ?_
  refine go_ ?_
  refine s_call (sp := (by repeat (first | exact Split.nil | apply Split.perx (by repeat (first | with_reducible exact Sel.here | with_reducible apply Sel.there)) (by infer_instance) | apply Split.cons (by repeat (first | with_reducible exact Sel.here | with_reducible apply Sel.there))))) (hs := get0_c p 0 ⟨0, 0, 0⟩ rfl) (h := ?_)
  rintro v Bs ⟨rfl, rfl⟩
  refine go_ ?_
  refine s_call (sp := (by repeat (first | exact Split.nil | apply Split.perx (by repeat (first | with_reducible exact Sel.here | with_reducible apply Sel.there)) (by infer_instance) | apply Split.cons (by repeat (first | with_reducible exact Sel.here | with_reducible apply Sel.there))))) (hs := scanNone_c p 0 ⟨0, 0, 0⟩ ⟨2147483647, 0, 0⟩ 9 (.inl rfl)) (h := ?_)
  rintro v Bs ⟨rfl, rfl⟩
  refine go_ ?_
  refine s_call (sp := (by repeat (first | exact Split.nil | apply Split.perx (by repeat (first | with_reducible exact Sel.here | with_reducible apply Sel.there)) (by infer_instance) | apply Split.cons (by repeat (first | with_reducible exact Sel.here | with_reducible apply Sel.there))))) (hs := height0_c p 0 rfl) (h := ?_)
  rintro v Bs ⟨rfl, rfl⟩
  refine go_ ?_
  refine s_bs (cells := [.int .u8 97, .int .u8 98]) (fun a1 => ?_) (fun j => rfl)
  refine s_full (a := a1) (m := 2) (by repeat (first | with_reducible exact Sel.here | with_reducible apply Sel.there)) (by decide) fun r6 hr6 => ?_
  subst hr6
  refine s_step (st_cvb (b := r6) (cs := (flat 2 (rowsOf 1 [.int .u8 97, .int .u8 98])).toArray) (by repeat (first | with_reducible exact Upd.here | with_reducible apply Upd.there))) ?_
  rintro _ _ ⟨rfl, rfl⟩
  refine s_fzo (b := r6) (off := 0) (m := 2) (c := 2) (sz := 1) (row := byR [97, 98]) (by repeat (first | with_reducible exact Sel.here | with_reducible apply Sel.there)) (fun _ _ => rfl) (by decide) (by decide) (by rfl) ?_
  refine s_open (B := BS (.slice (some ⟨r6, 0, none⟩) ([97, 98] : List Nat).length 2) [97, 98]) (fun _ _ q => q) ?_
  refine go_ ?_
  refine s_step (st_bs1 (sz := 4) (cells := [.int .i64 1, .int .i64 0, .int .i64 0, .slice (some ⟨r6, 0, none⟩) 2 2]) rfl) ?_
  rintro _ _ ⟨a2, rfl, rfl⟩
  refine go_ ?_
  refine s_fz (e := 51) (v := .slice a2 1 1) (by repeat (first | with_reducible exact Sel.here | with_reducible apply Sel.there)) ?_
  refine s_open (B := Nd1 exNode ⟨a2, 1, none, 0, fun _ => (some ⟨r6, 0, none⟩, 2)⟩) (SA.cg _ fun q hq => by
    obtain rfl : q = 0 := by omega
    rfl) ?_
  refine s_dup (a := BS (.slice (some ⟨r6, 0, none⟩) ([97, 98] : List Nat).length 2) [97, 98]) (by repeat (first | with_reducible exact Sel.here | with_reducible apply Sel.there)) ?_
  refine s_open (B := Nd2 exNode ⟨a2, 1, none, 0, fun _ => (some ⟨r6, 0, none⟩, 2)⟩) (fun H M h i hi => by
    obtain rfl : i = 0 := by have : i < 1 := hi; omega
    exact h) ?_
  refine s_nilN (sz := 4) (m := 0) (row := kidRow []) rfl ?_
  refine s_open (B := Nd3 exNode ⟨a2, 1, none, 0, fun _ => (some ⟨r6, 0, none⟩, 2)⟩) (fun _ _ h => h) ?_
  have hG : Good (Ct.new 32) (fun _ => none) 0 exNode := ⟨⟨by decide, by decide, fun i hi => by
    obtain rfl : i = 0 := by have : i < 1 := hi; omega
    decide⟩, by decide, rfl, fun _ h => (nomatch h), fun h' e => by omega⟩
  refine s_call (sp := (by repeat (first | exact Split.nil | apply Split.perx (by repeat (first | with_reducible exact Sel.here | with_reducible apply Sel.there)) (by infer_instance) | apply Split.cons (by repeat (first | with_reducible exact Sel.here | with_reducible apply Sel.there))))) (hs := pputG_c p ⟨b, 1, (Dr.new 32).n, bc, m⟩ ⟨a2, 1, none, 0, fun _ => (some ⟨r6, 0, none⟩, 2)⟩ hG (i := 4) rfl) (h := ?_)
  rintro v Bs ⟨u', rfl, rfl⟩
  have hK := (hG.lay 4 u' rfl (by decide) (by decide)).1
  generalize hg' : gset (fun _ => none) ((4 : Nat) : Int) (exNode, u') = g' at *
  have hn : nd g' ((4 : Nat) : Int) = exNode := nd_of (u := u') (by rw [← hg']; rfl)
  refine go_ ?_
  refine s_call (sp := (by repeat (first | exact Split.nil | apply Split.perx (by repeat (first | with_reducible exact Sel.here | with_reducible apply Sel.there)) (by infer_instance) | apply Split.cons (by repeat (first | with_reducible exact Sel.here | with_reducible apply Sel.there))))) (hs := get_c p ⟨b, 1, (Dr.new 32).n, bc, m⟩ _ g' ((4 : Nat) : Int) ⟨1, 0, 0⟩ 0 hK.tr (by decide) (by decide)) (h := ?_)
  have hit : seekHit (nd g' (leafN g' ⟨1, 0, 0⟩ 0 ((4 : Nat) : Int))) ⟨1, 0, 0⟩ = true := by show seekHit (nd g' ((4 : Nat) : Int)) _ = true; rw [hn]; rfl
  have hx : (nd g' (leafN g' ⟨1, 0, 0⟩ 0 ((4 : Nat) : Int))).items.getD (seekX (nd g' (leafN g' ⟨1, 0, 0⟩ 0 ((4 : Nat) : Int))) ⟨1, 0, 0⟩) default = ⟨⟨1, 0, 0⟩, [97, 98]⟩ := by show (nd g' ((4 : Nat) : Int)).items.getD (seekX (nd g' ((4 : Nat) : Int)) _) default = _; rw [hn]; rfl
  rw [hx]
  rintro v Bs (⟨h1, _⟩ | ⟨_, a3, c3, rfl, rfl⟩)
  · rw [hit] at h1; cases h1
  refine go_ ?_
  refine s_look (lk_b2s (a := a3) (c := c3) (m := 2) (s := [97, 98]) (by repeat (first | with_reducible exact SelR.here | with_reducible apply SelR.there)) rfl) ?_
  refine s_look (lk_p (v := .bool ((strB [97, 98]).toList == (ByteArray.mk #[97, 98]).toList)) ?_) ?_
  · intro j; rfl
  rw [show strB [97, 98] = ByteArray.mk #[97, 98] from rfl, beq_self_eq_true]
  refine go_ ?_
  exact s_ret1 (rs := [.tmp 0]) Tryz.func13 rfl (by intro j; refine RVS.tmp _ rfl ?_; exact RVS.nil) (⟨rfl, rfl⟩) (by repeat (first | exact Ent.nil | refine Ent.per (by repeat (first | with_reducible exact Sel.here | with_reducible apply Sel.there)) ?_ | refine Ent.cons (by repeat (first | with_reducible exact Sel.here | with_reducible apply Sel.there)) ?_))
end Go.Proofs.YtgbbcpfnmkeijaaGreat
/- The law's trees: grown. -/
namespace Go.Proofs.YtgbbcpfnmkeijaaGreat
open Go.Cam
set_option maxRecDepth 100000
/-- a tree that has just a row's items -/
def TreeOf (σ : Ct) (g : Int → Option (Node × Plc)) (root : Int) (l : List Item) : Prop :=
  (l = [] ∧ root = 0) ∨ (l ≠ [] ∧ root ≠ 0 ∧ ∃ h, h ≤ 2 ∧ Tr σ g h root ∧ WF g h root ∧ itemsT g h root = l)
structure GrS where
  h : Nat
  xs : List Node
  a : Option Addr
  c : Nat
  us : Nat → Plc
  σ : Ct
  g : Int → Option (Node × Plc)
  u : Nat
structure GrOk (l : List Item) (s : GrS) : Prop where
  lvl : Lvl s.σ s.g s.h s.xs l
  fre : Fre s.σ s.u
  pos : 0 < s.xs.length
  cnt : (s.h = 0 ∧ s.xs.length ≤ 50 ∧ s.u ≤ 0) ∨ (s.h = 1 ∧ s.xs.length ≤ 8 ∧ s.u ≤ 50) ∨ (s.h = 2 ∧ s.xs.length ≤ 1 ∧ s.u ≤ 58)
structure GiS where
  i : Nat
  ks : List Kid
  a : Option Addr
  c : Nat
  σ : Ct
  g : Int → Option (Node × Plc)
structure GiOk (l : List Item) (s : GrS) (q : GiS) : Prop where
  len : q.ks.length = q.i
  le : q.i ≤ s.xs.length
  kids : ∀ y ∈ q.ks, KidOk q.σ q.g s.h y
  cat : catK (itemsT q.g s.h) q.ks ++ (s.xs.drop q.i).flatMap (itemsX q.g s.h) = l
  good : ∀ x ∈ s.xs.drop q.i, Good q.σ q.g s.h x
  fre : Fre q.σ (s.u + q.i)
theorem GiOk.next {l : List Item} {s : GrS} {q : GiS} (h : GiOk l s q) (hi : q.i < s.xs.length) (i : Nat) (u : Plc) (a : Option Addr) (c : Nat) (hi1 : 8 ≤ i) (hi2 : i ≤ 8 + (s.u + q.i)) (hi3 : q.σ.now i = 0) (hu : s.u + q.i < 248) :
    GiOk l s ⟨q.i + 1, q.ks ++ [⟨(nkeys (s.xs.getD q.i default)).getD 0 default, (i : Int)⟩], a, c, { q.σ with now := nset q.σ.now i 1 }, gset q.g i (s.xs.getD q.i default, u)⟩ := by
  have hd : s.xs.drop q.i = s.xs.getD q.i default :: s.xs.drop (q.i + 1) := by rw [List.drop_eq_getElem_cons hi, getD_get hi]
  have hgood := h.good (s.xs.getD q.i default) (by rw [hd]; exact List.mem_cons_self ..)
  have hn := h.fre.n
  obtain ⟨l1, l2⟩ := hgood.lay i u hi3 (by omega) (by omega)
  have e := ext_lay (g := q.g) (s.xs.getD q.i default, u) hi3
  refine ⟨by simp [h.len], by dsimp only; omega, fun y hy => ?_, ?_, fun x hx => ?_, ?_⟩
  · rcases List.mem_append.1 hy with hy | hy
    · exact ((h.kids y hy).ext e).1
    · rw [List.mem_singleton] at hy; subst hy; exact l1
  · dsimp only
    have h1 := h.cat
    rw [hd, List.flatMap_cons] at h1
    rw [← h1]
    show List.flatMap _ (q.ks ++ [_]) ++ _ = _
    rw [List.flatMap_append, List.append_assoc]
    congr 1
    · exact flatMap_cg fun y hy => ((h.kids y hy).ext e).2
    · rw [List.flatMap_cons, List.flatMap_nil, List.append_nil, l2]
      congr 1
      exact flatMap_cg fun x hx => ((h.good x (by rw [hd]; exact List.mem_cons_of_mem _ hx)).ext e).2
  · exact ((h.good x (by rw [hd]; exact List.mem_cons_of_mem _ hx)).ext e).1
  · have := h.fre.next hi2
    rwa [Nat.add_assoc] at this
theorem kid_snoc (ks : List Kid) (y : Kid) (r : List Value) (hr : r = [.int .i64 y.key.obj, .int .i64 y.key.kind, .int .i64 y.key.off, .int .i64 y.addr]) (q : Nat) (hq : q < ks.length + 1) : rcat ks.length (kidRow ks) (fun _ => r) q = kidRow (ks ++ [y]) q := by
  unfold rcat kidRow
  by_cases h : q < ks.length
  · rw [if_pos h, getD_snoc_lt ks y h]
  · have : q = ks.length := by omega
    subst this
    rw [if_neg h, getD_snoc_eq, hr]
theorem GiOk.item {l : List Item} {s : GrS} {q : GiS} {x : Node} {r : List Node} (h : GiOk l s q) (hd : s.xs.drop q.i = x :: r) (k : Good q.σ q.g s.h x) : ∀ y ∈ x.items, y ∈ l := fun y hy => by
  have h1 := h.cat
  rw [← h1, hd, List.flatMap_cons]
  refine List.mem_append.2 (.inr (List.mem_append.2 (.inl ?_)))
  cases hh : s.h with
  | zero => exact hy
  | succ n =>
    have := (nodeOk_kids k.ok (by rw [k.lv, hh]; omega)).2.2
    rw [List.eq_nil_of_length_eq_zero this] at hy; cases hy
set_option maxHeartbeats 16000000 in
theorem grown_I (I : Ct → (Int → Option (Node × Plc)) → Prop) (hI0 : I (Ct.new (Dr.new 256).n) (fun _ => none)) {C : HP} [Per C] {la b : Option Addr} {lc d : Nat} {w : Nat → Option Addr × Nat} (l : List Item) (cs : List Int) [Rd C 1 (.slice b cs.length d) cs.length (pathR cs)] (hl : RowOk l) (hn : l.length ≤ 150) (hcn : cs.length < 9223372036854775808) (hr : ∀ q, q < cs.length → -9223372036854775808 ≤ cs.getD q 0 ∧ cs.getD q 0 ≤ 9223372036854775807)
    (hIs : ∀ σ g i x u h, I σ g → Good σ g h x → (∀ y ∈ x.items, y ∈ l) → 8 ≤ i → i < 256 → σ.n = 256 → σ.now i = 0 → I { σ with now := nset σ.now i 1 } (gset g i (x, u))) :
    Ctr Tryz.prog 15 [.slice la l.length lc, .slice b cs.length d] [SA none 4 (.slice la l.length lc) l.length (itemRow w l), IFam w l, C]
    (fun v Bs => ∃ p z σ g root, v = .tuple #[.pointer (some ⟨p, 0, none⟩), .pointer (some ⟨z.b, 0, none⟩), .int .i64 root] ∧ TreeOf σ g root l ∧ z.gen = 1 ∧ z.n = 256 ∧ σ.n = 256 ∧ I σ g ∧ Bs = [Po p z σ g, DrA z.b (Dr.new 256).fmt]) := by
  refine s_enter 83 [(0, _), (1, _)] (fun F => [_, _, _, F]) Tryz.func15 fun F => ?_
  refine go_ ?_
  refine s_call (sp := (by repeat (first | exact Split.nil | apply Split.perx (by repeat (first | with_reducible exact Sel.here | with_reducible apply Sel.there)) (by infer_instance) | apply Split.cons (by repeat (first | with_reducible exact Sel.here | with_reducible apply Sel.there))))) (hs := dnew_c 256 (by decide) (by decide)) (h := ?_)
  rintro v Bs ⟨rb, rfl, rfl⟩
  refine go_ ?_
  refine s_call (sp := (by repeat (first | exact Split.nil | apply Split.perx (by repeat (first | with_reducible exact Sel.here | with_reducible apply Sel.there)) (by infer_instance) | apply Split.cons (by repeat (first | with_reducible exact Sel.here | with_reducible apply Sel.there))))) (hs := pformat_c rb (Dr.new 256) ⟨rfl, by show (-1 : Int) < 0; decide⟩ (by decide) (by decide) (by decide)) (h := ?_)
  rintro v Bs ⟨p, bc, m, rfl, rfl⟩
  refine go_ ?_
  refine s_po (by repeat (first | with_reducible exact Sel.here | with_reducible apply Sel.there)) (by repeat (first | with_reducible exact Sel.here | with_reducible apply Sel.there)) (by repeat (first | with_reducible exact Sel.here | with_reducible apply Sel.there)) ?_
  refine go_ ?_
  refine s_call (sp := (by repeat (first | exact Split.nil | apply Split.perx (by repeat (first | with_reducible exact Sel.here | with_reducible apply Sel.there)) (by infer_instance) | apply Split.cons (by repeat (first | with_reducible exact Sel.here | with_reducible apply Sel.there))))) (hs := leaves_c (C := C) (a := la) (c := lc) (w := w) (b := b) (d := d) l cs (by omega) hcn hr) (h := ?_)
  rintro v Bs ⟨a2, c2, us, ps, hps, rfl, rfl⟩
  have hcnt : ps.length ≤ 50 := by
    rcases Nat.lt_or_ge 6 l.length with e | e
    · have := hps.cnt e; omega
    · have := hps.one e; omega
  have hnl := leafNodes_len l ps
  refine go_ ?_
  refine s_ieq (fun h0 => ?_) (fun h0 => ?_)
  · have e0 : l = [] := by
      rcases Nat.eq_zero_or_pos l.length with e | e
      · exact List.eq_nil_of_length_eq_zero e
      · have := hps.pos e; omega
    refine go_ ?_
    exact s_rett (rs := [.tmp 4, .tmp 5, .tmp 6]) (vs := [_, _, _]) Tryz.func15 rfl (by intro j; refine RVS.tmp _ rfl ?_; refine RVS.tmp _ rfl ?_; refine RVS.tmp _ rfl ?_; exact RVS.nil) rfl (⟨p, ⟨rb, 1, (Dr.new 256).n, bc, m⟩, _, _, 0, rfl, .inl ⟨e0, rfl⟩, rfl, rfl, rfl, hI0, rfl⟩) (by repeat (first | exact Ent.nil | refine Ent.per (by repeat (first | with_reducible exact Sel.here | with_reducible apply Sel.there)) ?_ | refine Ent.cons (by repeat (first | with_reducible exact Sel.here | with_reducible apply Sel.there)) ?_))
  have hl0 : l ≠ [] := fun e => by
    subst e
    have h1 := hps.cat
    cases hp : ps with
    | nil => rw [hp] at h0; exact h0 rfl
    | cons q r =>
      have := (hps.each q (by rw [hp]; exact List.mem_cons_self ..))
      have h2 : ([] : List Item).length = 0 := rfl
      omega
  refine go_ ?_
  refine s_loop (fun q : GrS => [(1, .slice b cs.length d), (7, .pointer (some ⟨rb, 0, none⟩)), (9, .pointer (some ⟨p, 0, none⟩)), (11, .slice q.a q.xs.length q.c), (12, .int .i64 (q.h + 1 : Nat))])
    (fun q => [Po p ⟨rb, 1, (Dr.new 256).n, bc, m⟩ q.σ q.g, DrA rb (Dr.new 256).fmt, C, NRow q.a q.c q.us q.xs, NFam q.us q.xs, F]) (fun s => GrOk l s ∧ I s.σ s.g) (fun q => 6 - q.h) ⟨0, leafNodes l ps, a2, c2, us, Ct.new (Dr.new 256).n, fun _ => none, 0⟩
    ⟨⟨leaf_lvl _ _ hl hps, Fre.new, by dsimp only; omega, .inl ⟨rfl, by dsimp only; omega, Nat.le_refl _⟩⟩, hI0⟩ (by repeat (first | exact Ent.nil | refine Ent.per (by repeat (first | with_reducible exact Sel.here | with_reducible apply Sel.there)) ?_ | refine Ent.cons (by repeat (first | with_reducible exact Sel.here | with_reducible apply Sel.there)) ?_)) ?_
  rintro s ⟨hs, hsI⟩ next
  have hh2 : s.h ≤ 2 := by rcases hs.cnt with h | h | h <;> omega
  have hx50 : s.xs.length ≤ 50 := by rcases hs.cnt with h | h | h <;> omega
  have hu58 : s.u + s.xs.length ≤ 60 := by rcases hs.cnt with h | h | h <;> omega
  refine go_ ?_
  refine s_if (p := ((s.h + 1 : Nat) : Int) < 6) (fun h1 => ?_) (fun h1 => (h1 (by omega)).elim)
  refine go_ ?_
  refine s_bs0 (sz := 4) (row := kidRow []) (fun a3 => ?_)
  refine s_open (B := SO 99 4 (.slice a3 ([] : List Kid).length 0) ([] : List Kid).length (kidRow [])) (SO.of) ?_
  refine go_ ?_
  refine s_loop (fun q : GiS => [(1, .slice b cs.length d), (7, .pointer (some ⟨rb, 0, none⟩)), (9, .pointer (some ⟨p, 0, none⟩)), (11, .slice s.a s.xs.length s.c), (12, .int .i64 (s.h + 1 : Nat)), (13, .slice q.a q.ks.length q.c), (14, .int .i64 q.i)])
    (fun q => [Po p ⟨rb, 1, (Dr.new 256).n, bc, m⟩ q.σ q.g, DrA rb (Dr.new 256).fmt, C, NRow s.a s.c s.us s.xs, NFam s.us s.xs, SO 99 4 (.slice q.a q.ks.length q.c) q.ks.length (kidRow q.ks), F]) (fun q => GiOk l s q ∧ I q.σ q.g) (fun q => s.xs.length - q.i) ⟨0, [], a3, 0, s.σ, s.g⟩
    ⟨⟨rfl, Nat.zero_le _, fun y hy => (nomatch hy), hs.lvl.cat, fun x hx => hs.lvl.good x hx, hs.fre⟩, hsI⟩ (by repeat (first | exact Ent.nil | refine Ent.per (by repeat (first | with_reducible exact Sel.here | with_reducible apply Sel.there)) ?_ | refine Ent.cons (by repeat (first | with_reducible exact Sel.here | with_reducible apply Sel.there)) ?_)) ?_
  rintro q ⟨hq, hqI⟩ next2
  have hql := hq.len
  have hqle := hq.le
  refine go_ ?_
  refine s_if (fun h2 => ?_) (fun h2 => ?_)
  · have hi : q.i < s.xs.length := by omega
    have hd : s.xs.drop q.i = s.xs.getD q.i default :: s.xs.drop (q.i + 1) := by rw [List.drop_eq_getElem_cons hi, getD_get hi]
    have hgood := hq.good (s.xs.getD q.i default) (by rw [hd]; exact List.mem_cons_self ..)
    obtain ⟨i, hf, i1, i2, i3⟩ := hq.fre.some (by omega)
    refine go_ ?_
    refine s_nget q.i (us := s.us) (xs := s.xs) (by repeat (first | with_reducible exact Sel.here | with_reducible apply Sel.there)) hi ?_
    refine s_call (sp := (by repeat (first | exact Split.nil | apply Split.perx (by repeat (first | with_reducible exact Sel.here | with_reducible apply Sel.there)) (by infer_instance) | apply Split.cons (by repeat (first | with_reducible exact Sel.here | with_reducible apply Sel.there))))) (hs := pputG_c p ⟨rb, 1, (Dr.new 256).n, bc, m⟩ (s.us q.i) hgood hf) (h := ?_)
    rintro v Bs ⟨u', rfl, rfl⟩
    refine go_ ?_
    refine s_call (sp := (by repeat (first | exact Split.nil | apply Split.perx (by repeat (first | with_reducible exact Sel.here | with_reducible apply Sel.there)) (by infer_instance) | apply Split.cons (by repeat (first | with_reducible exact Sel.here | with_reducible apply Sel.there))))) (hs := rleast_c (s.xs.getD q.i default) (s.us q.i) hgood.hs hgood.nkeys_pos) (h := ?_)
    rintro v Bs ⟨rfl, rfl⟩
    refine go_ ?_
    refine s_step (st_bs1 (sz := 4) (cells := [.int .i64 ((nkeys (s.xs.getD q.i default)).getD 0 default).obj, .int .i64 ((nkeys (s.xs.getD q.i default)).getD 0 default).kind, .int .i64 ((nkeys (s.xs.getD q.i default)).getD 0 default).off, .int .i64 (i : Nat)]) rfl) ?_
    rintro _ _ ⟨a4, rfl, rfl⟩
    refine go_ ?_
    refine s_step (st_appO (a := q.a) (len := q.ks.length) (cap := q.c) (b := a4) (m := 1) (c := 1) (by repeat (first | with_reducible exact Sel.here | with_reducible apply Sel.there)) (by repeat (first | with_reducible exact SelR.here | with_reducible apply SelR.there)) (by rw [flat_one]; rfl)) ?_
    rintro _ _ ⟨a5, c5, rfl, rfl⟩
    refine s_open (SO.cg (kidRow (q.ks ++ [⟨(nkeys (s.xs.getD q.i default)).getD 0 default, (i : Int)⟩])) (kid_snoc q.ks ⟨(nkeys (s.xs.getD q.i default)).getD 0 default, (i : Int)⟩ _ rfl)) ?_
    refine go_ ?_
    rw [show q.ks.length + 1 = (q.ks ++ [(⟨(nkeys (s.xs.getD q.i default)).getD 0 default, (i : Int)⟩ : Kid)]).length by simp]
    exact s_entF (by repeat (first | exact Ent.nil | refine Ent.per (by repeat (first | with_reducible exact Sel.here | with_reducible apply Sel.there)) ?_ | refine Ent.cons (by repeat (first | with_reducible exact Sel.here | with_reducible apply Sel.there)) ?_)) (s_keep _ (next2 ⟨q.i + 1, q.ks ++ [⟨(nkeys (s.xs.getD q.i default)).getD 0 default, (i : Int)⟩], a5, c5, _, gset q.g i (s.xs.getD q.i default, u')⟩ ⟨hq.next hi i u' a5 c5 i1 i2 i3 (by omega), hIs q.σ q.g i _ u' s.h hqI hgood (hq.item hd hgood) i1 (by omega) hq.fre.n i3⟩ (by dsimp only; omega)))
  · have e : q.i = s.xs.length := by omega
    have hcat := hq.cat
    rw [e, List.drop_length, List.flatMap_nil, List.append_nil] at hcat
    refine go_ ?_
    refine s_ieq (fun h3 => ?_) (fun h3 => ?_)
    · have h4 : q.ks.length = 1 := by omega
      have hK := hq.kids (q.ks.getD 0 default) (getD_mem (by omega))
      have hT : itemsT q.g s.h (q.ks.getD 0 default).addr = l := by
        rw [← hcat]
        cases hk : q.ks with
        | nil => rw [hk] at h4; cases h4
        | cons y r => cases r with
          | nil => simp [catK, List.getD_eq_getElem?_getD]
          | cons z r => rw [hk] at h4; simp at h4
      refine go_ ?_
      refine s_drawN 0 [.q 0, .q 1, .q 2, .q 3, .q 4, .q 5, .q 6, .q 7, .q 8] ?_
      refine do_ ?_
      refine d_look rfl (lk_ixz 0 (m := q.ks.length) (v := .slice q.a q.ks.length q.c) (z := 0) (by repeat (first | with_reducible exact SelR.here | with_reducible apply SelR.there))) ?_
      refine do_ ?_
      refine go_ ?_
      exact s_rett (rs := [.tmp 4, .tmp 5, .tmp 6]) (vs := [_, _, _]) Tryz.func15 rfl (by intro j; refine RVS.tmp _ rfl ?_; refine RVS.tmp _ rfl ?_; refine RVS.tmp _ rfl ?_; exact RVS.nil) rfl (⟨p, ⟨rb, 1, (Dr.new 256).n, bc, m⟩, q.σ, q.g, (q.ks.getD 0 default).addr, rfl, .inr ⟨hl0, by have := hK.ad; omega, s.h, hh2, hK.tr, hK.wf, hT⟩, rfl, rfl, hq.fre.n, hqI, rfl⟩) (by repeat (first | exact Ent.nil | refine Ent.per (by repeat (first | with_reducible exact Sel.here | with_reducible apply Sel.there)) ?_ | refine Ent.cons (by repeat (first | with_reducible exact Sel.here | with_reducible apply Sel.there)) ?_))
    · have h5 : 2 ≤ q.ks.length := by have := hs.pos; omega
      refine go_ ?_
      refine s_fzO (e := 99) (v := .slice q.a q.ks.length q.c) (by repeat (first | with_reducible exact Sel.here | with_reducible apply Sel.there)) ?_
      refine s_call (sp := (by repeat (first | exact Split.nil | apply Split.perx (by repeat (first | with_reducible exact Sel.here | with_reducible apply Sel.there)) (by infer_instance) | apply Split.cons (by repeat (first | with_reducible exact Sel.here | with_reducible apply Sel.there))))) (hs := inner_c (C := C) (a := q.a) (c := q.c) (b := b) (d := d) q.ks ((s.h + 1 : Nat) : Int) cs (by omega) (by omega) hcn hr) (h := ?_)
      rintro v Bs ⟨a6, c6, us6, ps6, hp6, rfl, rfl⟩
      have hL := inn_lvl hl hq.kids hcat hp6 h5 (by omega)
      have hpl : 0 < ps6.length := hp6.pos (by omega)
      have hil := innNodes_len ((s.h + 1 : Nat) : Int) q.ks ps6
      refine go_ ?_
      have hcnt2 : (s.h + 1 = 0 ∧ (innNodes ((s.h + 1 : Nat) : Int) q.ks ps6).length ≤ 50 ∧ s.u + q.i ≤ 0) ∨ (s.h + 1 = 1 ∧ (innNodes ((s.h + 1 : Nat) : Int) q.ks ps6).length ≤ 8 ∧ s.u + q.i ≤ 50) ∨ (s.h + 1 = 2 ∧ (innNodes ((s.h + 1 : Nat) : Int) q.ks ps6).length ≤ 1 ∧ s.u + q.i ≤ 58) := by
        rcases Nat.lt_or_ge 12 q.ks.length with e1 | e1
        · have := hp6.cnt e1
          rcases hs.cnt with h | h | h
          · exact .inr (.inl ⟨by omega, by omega, by omega⟩)
          · exact .inr (.inr ⟨by omega, by omega, by omega⟩)
          · omega
        · have := hp6.one e1
          rcases hs.cnt with h | h | h
          · exact .inr (.inl ⟨by omega, by omega, by omega⟩)
          · exact .inr (.inr ⟨by omega, by omega, by omega⟩)
          · omega
      exact s_entF (by repeat (first | exact Ent.nil | refine Ent.per (by repeat (first | with_reducible exact Sel.here | with_reducible apply Sel.there)) ?_ | refine Ent.cons (by repeat (first | with_reducible exact Sel.here | with_reducible apply Sel.there)) ?_)) (s_keep _ (next ⟨s.h + 1, innNodes ((s.h + 1 : Nat) : Int) q.ks ps6, a6, c6, us6, q.σ, q.g, s.u + q.i⟩ ⟨⟨hL, hq.fre, by dsimp only; omega, hcnt2⟩, hqI⟩ (by dsimp only; omega)))
end Go.Proofs.YtgbbcpfnmkeijaaGreat
/- find's Get, Scan, Height, Path of a tree that has just a row's items. -/
namespace Go.Proofs.YtgbbcpfnmkeijaaGreat
open Go.Cam
set_option maxRecDepth 100000
theorem pick_empty {fr to : Key} {most : Int} {l : List Item} (h : l = [] ∨ most < 1) : pick fr to most l [] = [] := by
  rcases h with rfl | h
  · exact pick_nil fr to most []
  · exact pick_full (by simp; omega)
theorem Key.ok_iff (k : Key) : k.ok = true ↔ 0 ≤ k.obj ∧ 0 ≤ k.kind ∧ 0 ≤ k.off ∧ k.obj ≤ 2147483647 ∧ k.kind ≤ 255 ∧ k.off ≤ 2147483647 := by simp [Key.ok]
theorem P_all {k : Key} (h : k.ok = true) : rscanP ⟨0, 0, 0⟩ ⟨2147483647, 255, 2147483647⟩ k = true := by
  rw [Key.ok_iff] at h
  refine P_of ?_ ?_
  · cases e : k.lt ⟨0, 0, 0⟩ with
    | false => rfl
    | true => rw [Key.lt_iff] at e; dsimp only at e; omega
  · cases e : Key.lt ⟨2147483647, 255, 2147483647⟩ k with
    | false => rfl
    | true => rw [Key.lt_iff] at e; dsimp only at e; omega
theorem pick_all {l : List Item} (h : RowOk l) (most : Int) (hm : (l.length : Int) ≤ most) : pick ⟨0, 0, 0⟩ ⟨2147483647, 255, 2147483647⟩ most l [] = l := by
  unfold pick
  rw [List.filter_eq_self.2 fun x hx => P_all (h.ok x hx).1, List.nil_append]
  exact List.take_of_length_le (by simp; omega)
theorem RowOk.bys {l : List Item} (h : RowOk l) : ∀ x ∈ l, Bys x.val ∧ x.val.length < 1000000 := fun x hx => ⟨(h.ok x hx).2.2, by have := (h.ok x hx).2.1; omega⟩
theorem RowOk.sub {l m : List Item} (h : RowOk l) (hs : m.Sublist l) : RowOk m := ⟨h.ris.sublist hs, fun x hx => h.ok x (hs.subset hx)⟩
end Go.Proofs.YtgbbcpfnmkeijaaGreat
