/- pool: the nodes laid down; lay, PutNode, Count. -/
import Derived.Test.YtgbbcpfnmkeijaaGreatGrtAJ
import Derived.Test.YtgbbcpfnmkeijaaGreatGrtAV
namespace Go.Proofs.YtgbbcpfnmkeijaaGreat
open Go.Cam
set_option maxRecDepth 100000
/-- where a node lies -/
structure Plc where
  a : Option Addr
  c : Nat
  b : Option Addr
  d : Nat
  w : Nat → Option Addr × Nat
abbrev blkV (x : Node) (u : Plc) : Value := .agg #[.int .i64 0, .int .i64 x.level, .slice u.a x.items.length u.c, .slice u.b x.kids.length u.d, .slice none 0 0]
abbrev Nd1 (x : Node) (u : Plc) : HP := SA none 4 (.slice u.a x.items.length u.c) x.items.length (itemRow u.w x.items)
abbrev Nd2 (x : Node) (u : Plc) : HP := Fam x.items.length (itemFam u.w x.items)
abbrev Nd3 (x : Node) (u : Plc) : HP := SA none 4 (.slice u.b x.kids.length u.d) x.kids.length (kidRow x.kids)
def Nds (g : Int → Option (Node × Plc)) : HP := ⟨fun H M => ∀ k x u, g k = some (x, u) → (Nd1 x u).p H M ∧ (Nd2 x u).p H M ∧ (Nd3 x u).p H M, fun h1 h2 h k x u e => ⟨(Nd1 x u).mono h1 h2 (h k x u e).1, (Nd2 x u).mono h1 h2 (h k x u e).2.1, (Nd3 x u).mono h1 h2 (h k x u e).2.2⟩⟩
instance perNd1 (x : Node) (u : Plc) : Per (Nd1 x u) := inferInstance
instance perNd2 (x : Node) (u : Plc) : Per (Nd2 x u) := inferInstance
instance perNd3 (x : Node) (u : Plc) : Per (Nd3 x u) := inferInstance
instance {g : Int → Option (Node × Plc)} : Per (Nds g) := ⟨fun h k x u e => ⟨(perNd1 x u).h (h k x u e).1, (perNd2 x u).h (h k x u e).2.1, (perNd3 x u).h (h k x u e).2.2⟩⟩
def gset (g : Int → Option (Node × Plc)) (k : Int) (v : Node × Plc) : Int → Option (Node × Plc) := fun q => if q = k then some v else g q
abbrev gmap (g : Int → Option (Node × Plc)) : Int → Option Value := fun k => (g k).map fun q => blkV q.1 q.2
theorem gmap_set (g : Int → Option (Node × Plc)) (k : Int) (x : Node) (u : Plc) : mset (gmap g) k (some (blkV x u)) = gmap (gset g k (x, u)) := by
  funext q; unfold mset gmap gset; by_cases e : q = k
  · rw [if_pos e, if_pos e]; rfl
  · rw [if_neg e, if_neg e]
section
variable {P : Program} {f : FuncId} {n : Nat} {R : Value → HP} {k : List It} {l : List (Nat × Value)} {As Bs Rs Ss Zs : List HP}
theorem s_nds0 (h : RunS P f n R k l (Nds (fun _ => none) :: As)) : RunS P f n R k l As := .mk fun H M s => h H M (per_add (M0 := M) (fun _ _ _ e => nomatch e) s)
theorem s_ndsP {g : Int → Option (Node × Plc)} (kk : Int) (x : Node) (u : Plc) (s0 : Sel (Nds g) As Bs) (s1 : Sel (Nd1 x u) Bs Rs) (s2 : Sel (Nd2 x u) Rs Ss) (s3 : Sel (Nd3 x u) Ss Zs) (h : RunS P f n R k l (Nds (gset g kk (x, u)) :: Zs)) : RunS P f n R k l As := .mk fun H M s => by
  have a0 := s0.hold s
  have t0 := star_snd (s0.sat s)
  have a1 := s1.hold t0
  have t1 := star_snd (s1.sat t0)
  have a2 := s2.hold t1
  have t2 := star_snd (s2.sat t1)
  have a3 := s3.hold t2
  refine h H M (per_add (M0 := M) (fun q y v e => ?_) (star_snd (s3.sat t2)))
  unfold gset at e
  by_cases hq : q = kk
  · rw [if_pos hq] at e; cases e; exact ⟨a1, a2, a3⟩
  · rw [if_neg hq] at e; exact a0 q y v e
theorem s_ndsG {g : Int → Option (Node × Plc)} (kk : Int) (x : Node) (u : Plc) (s0 : Sel (Nds g) As Bs) (e : g kk = some (x, u)) (h : RunS P f n R k l (Nd1 x u :: Nd2 x u :: Nd3 x u :: As)) : RunS P f n R k l As := .mk fun H M s => by
  obtain ⟨a1, a2, a3⟩ := s0.hold s kk x u e
  exact h H M (per_add (M0 := M) a1 (per_add (M0 := M) a2 (per_add (M0 := M) a3 s)))
end
abbrev PoB (p b gen n bc m : Nat) : HP := Box p 83 (poolL b gen n bc m)
set_option maxHeartbeats 4000000 in
theorem lay_c (p b gen n bc m : Nat) (σ : Ct) (gm : Int → Option Value) (x : Node) (u : Plc) : Ctr Tryz.prog 55 [.pointer (some ⟨p, 0, none⟩), blkV x u] [PoB p b gen n bc m, CtA bc σ, MG m gm]
    (fun v Bs => (∃ i, σ.free? = some i ∧ v = .tuple #[.int .i64 (i : Nat), .int .i64 0] ∧ Bs = [PoB p b gen n bc m, CtA bc { σ with now := nset σ.now i 1 }, MG m (mset gm i (some (blkV x u)))]) ∨
      (σ.free? = none ∧ v = .tuple #[.int .i64 0, .int .i64 6] ∧ Bs = [PoB p b gen n bc m, CtA bc σ, MG m gm])) := by
  refine s_enter 26 [(0, _), (1, _)] (fun F => [_, _, _, F]) Tryz.func55 fun F => ?_
  refine go_ ?_
  refine s_box fun r3 => ?_
  refine go_ ?_
  refine s_call (sp := (by repeat (first | exact Split.nil | apply Split.perx (by repeat (first | with_reducible exact Sel.here | with_reducible apply Sel.there)) (by infer_instance) | apply Split.cons (by repeat (first | with_reducible exact Sel.here | with_reducible apply Sel.there))))) (hs := calloc_c bc σ) (h := ?_)
  rintro v Bs (⟨i, hf, rfl, rfl⟩ | ⟨hf, rfl, rfl⟩)
  · refine go_ ?_
    refine s_front (a := MG m gm) (by repeat (first | with_reducible exact Sel.here | with_reducible apply Sel.there)) ?_
    refine s_drawN 1 [.q 0, .q 1, .q 2, .q 3, .q 4, .q 5, .s 6] ?_
    refine do_ ?_
    refine d_stepU rfl (st_mu (by repeat (first | with_reducible exact Sel.here | with_reducible apply Sel.there))) ?_
    rintro v Bs rfl
    refine do_ ?_
    refine go_ ?_
    exact s_rett (rs := [.tmp 4, .tmp 5]) (vs := [_, _]) Tryz.func55 rfl (by intro j; refine RVS.tmp _ rfl ?_; refine RVS.tmp _ rfl ?_; exact RVS.nil) rfl (.inl ⟨i, hf, rfl, rfl⟩) (by repeat (first | exact Ent.nil | refine Ent.per (by repeat (first | with_reducible exact Sel.here | with_reducible apply Sel.there)) ?_ | refine Ent.cons (by repeat (first | with_reducible exact Sel.here | with_reducible apply Sel.there)) ?_))
  · refine go_ ?_
    exact s_rett (rs := [.tmp 4, .tmp 5]) (vs := [_, _]) Tryz.func55 rfl (by intro j; refine RVS.tmp _ rfl ?_; refine RVS.tmp _ rfl ?_; exact RVS.nil) rfl (.inr ⟨hf, rfl, rfl⟩) (by repeat (first | exact Ent.nil | refine Ent.per (by repeat (first | with_reducible exact Sel.here | with_reducible apply Sel.there)) ?_ | refine Ent.cons (by repeat (first | with_reducible exact Sel.here | with_reducible apply Sel.there)) ?_))
theorem pcount_c (p b gen n bc m : Nat) (σ : Ct) (k : Int) : Ctr Tryz.prog 43 [.pointer (some ⟨p, 0, none⟩), .int .i64 k] [PoB p b gen n bc m, CtA bc σ] (fun v Bs => v = .int .i64 (if 0 ≤ k ∧ k < σ.n then σ.now k.toNat else 0 : Nat) ∧ Bs = [PoB p b gen n bc m, CtA bc σ]) := by
  refine s_enter 11 [(0, _), (1, _)] (fun F => [_, _, F]) Tryz.func43 fun F => ?_
  refine go_ ?_
  refine s_call (sp := (by repeat (first | exact Split.nil | apply Split.perx (by repeat (first | with_reducible exact Sel.here | with_reducible apply Sel.there)) (by infer_instance) | apply Split.cons (by repeat (first | with_reducible exact Sel.here | with_reducible apply Sel.there))))) (hs := cget_c bc σ k) (h := ?_)
  rintro v Bs ⟨rfl, rfl⟩
  refine go_ ?_
  exact s_ret1 (rs := [.tmp 4]) Tryz.func43 rfl (by intro j; refine RVS.tmp _ rfl ?_; exact RVS.nil) (⟨rfl, rfl⟩) (by repeat (first | exact Ent.nil | refine Ent.per (by repeat (first | with_reducible exact Sel.here | with_reducible apply Sel.there)) ?_ | refine Ent.cons (by repeat (first | with_reducible exact Sel.here | with_reducible apply Sel.there)) ?_))
end Go.Proofs.YtgbbcpfnmkeijaaGreat
/- pool.PutNode, Node. -/
namespace Go.Proofs.YtgbbcpfnmkeijaaGreat
open Go.Cam
set_option maxRecDepth 100000
abbrev ndV (x : Node) (u : Plc) : Value := nodeV x.level u.a x.items.length u.c u.b x.kids.length u.d
structure Node.small (x : Node) : Prop where
  i : x.items.length < 1000000
  k : x.kids.length < 1000000
  v : ∀ i, i < x.items.length → (x.items.getD i default).val.length < 1000000
set_option maxHeartbeats 4000000 in
theorem pput_c (p b gen n bc m : Nat) (σ : Ct) (g : Int → Option (Node × Plc)) (x : Node) (u : Plc) (hx : x.small) : Ctr Tryz.prog 35 [.pointer (some ⟨p, 0, none⟩), ndV x u] [PoB p b gen n bc m, CtA bc σ, MG m (gmap g), Nds g, Nd1 x u, Nd3 x u, Nd2 x u]
    (fun v Bs => (nodeOk x = false ∧ v = .tuple #[.int .i64 0, .int .i64 1] ∧ Bs = [PoB p b gen n bc m, CtA bc σ, MG m (gmap g), Nds g]) ∨
      (nodeOk x = true ∧ ∃ i u', σ.free? = some i ∧ v = .tuple #[.int .i64 (i : Nat), .int .i64 0] ∧ Bs = [PoB p b gen n bc m, CtA bc { σ with now := nset σ.now i 1 }, MG m (gmap (gset g i (x, u'))), Nds (gset g i (x, u'))]) ∨
      (nodeOk x = true ∧ σ.free? = none ∧ v = .tuple #[.int .i64 0, .int .i64 6] ∧ Bs = [PoB p b gen n bc m, CtA bc σ, MG m (gmap g), Nds g])) := by
  refine s_enter 16 [(0, _), (1, _)] (fun F => [_, _, _, _, _, _, _, F]) Tryz.func35 fun F => ?_
  refine go_ ?_
  refine s_box fun r3 => ?_
  refine go_ ?_
  refine s_call (sp := (by repeat (first | exact Split.nil | apply Split.perx (by repeat (first | with_reducible exact Sel.here | with_reducible apply Sel.there)) (by infer_instance) | apply Split.cons (by repeat (first | with_reducible exact Sel.here | with_reducible apply Sel.there))))) (hs := nmay_c x rfl rfl hx.i hx.k hx.v) (h := ?_)
  rintro v Bs ⟨rfl, rfl⟩
  cases hok : nodeOk x with
  | false =>
    refine go_ ?_
    exact s_rett (rs := [.tmp 4, .tmp 5]) (vs := [_, _]) Tryz.func35 rfl (by intro j; refine RVS.tmp _ rfl ?_; refine RVS.tmp _ rfl ?_; exact RVS.nil) rfl (.inl ⟨rfl, rfl, rfl⟩) (by repeat (first | exact Ent.nil | refine Ent.per (by repeat (first | with_reducible exact Sel.here | with_reducible apply Sel.there)) ?_ | refine Ent.cons (by repeat (first | with_reducible exact Sel.here | with_reducible apply Sel.there)) ?_))
  | true =>
    refine go_ ?_
    refine s_call (sp := (by repeat (first | exact Split.nil | apply Split.perx (by repeat (first | with_reducible exact Sel.here | with_reducible apply Sel.there)) (by infer_instance) | apply Split.cons (by repeat (first | with_reducible exact Sel.here | with_reducible apply Sel.there))))) (hs := pown_c x (A1 := Nd1 x u) (A2 := Nd3 x u) (a := u.a) (b := u.b) (c := u.c) (d := u.d) (w := u.w) rfl rfl hx.i hx.k hx.v) (h := ?_)
    rintro v Bs ⟨a2, c2, b2, d2, w2, rfl, rfl⟩
    refine go_ ?_
    refine s_fzO (e := 51) (v := .slice a2 x.items.length c2) (by repeat (first | with_reducible exact Sel.here | with_reducible apply Sel.there)) ?_
    refine s_fzO (e := 99) (v := .slice b2 x.kids.length d2) (by repeat (first | with_reducible exact Sel.here | with_reducible apply Sel.there)) ?_
    refine s_open (B := Nd3 x ⟨a2, c2, b2, d2, w2⟩) (fun _ _ q => q) ?_
    refine s_front (a := SA none 4 (.slice a2 x.items.length c2) x.items.length (itemRow w2 x.items)) (by repeat (first | with_reducible exact Sel.here | with_reducible apply Sel.there)) (s_open (B := Nd1 x ⟨a2, c2, b2, d2, w2⟩) (fun _ _ q => q) ?_)
    refine s_front (a := Fam x.items.length (itemFam w2 x.items)) (by repeat (first | with_reducible exact Sel.here | with_reducible apply Sel.there)) (s_open (B := Nd2 x ⟨a2, c2, b2, d2, w2⟩) (fun _ _ q => q) ?_)
    refine s_call (sp := (by repeat (first | exact Split.nil | apply Split.perx (by repeat (first | with_reducible exact Sel.here | with_reducible apply Sel.there)) (by infer_instance) | apply Split.cons (by repeat (first | with_reducible exact Sel.here | with_reducible apply Sel.there))))) (hs := lay_c p b gen n bc m σ (gmap g) x ⟨a2, c2, b2, d2, w2⟩) (h := ?_)
    rintro v Bs (⟨i, hf, rfl, rfl⟩ | ⟨hf, rfl, rfl⟩)
    · refine go_ ?_
      rw [gmap_set]
      refine s_ndsP (g := g) (i : Int) x ⟨a2, c2, b2, d2, w2⟩ (by repeat (first | with_reducible exact Sel.here | with_reducible apply Sel.there)) (by repeat (first | with_reducible exact Sel.here | with_reducible apply Sel.there)) (by repeat (first | with_reducible exact Sel.here | with_reducible apply Sel.there)) (by repeat (first | with_reducible exact Sel.here | with_reducible apply Sel.there)) ?_
      exact s_rett (rs := [.tmp 4, .tmp 5]) (vs := [_, _]) Tryz.func35 rfl (by intro j; refine RVS.tmp _ rfl ?_; refine RVS.tmp _ rfl ?_; exact RVS.nil) rfl (.inr (.inl ⟨rfl, i, ⟨a2, c2, b2, d2, w2⟩, hf, rfl, rfl⟩)) (by repeat (first | exact Ent.nil | refine Ent.per (by repeat (first | with_reducible exact Sel.here | with_reducible apply Sel.there)) ?_ | refine Ent.cons (by repeat (first | with_reducible exact Sel.here | with_reducible apply Sel.there)) ?_))
    · refine go_ ?_
      exact s_rett (rs := [.tmp 4, .tmp 5]) (vs := [_, _]) Tryz.func35 rfl (by intro j; refine RVS.tmp _ rfl ?_; refine RVS.tmp _ rfl ?_; exact RVS.nil) rfl (.inr (.inr ⟨rfl, hf, rfl, rfl⟩)) (by repeat (first | exact Ent.nil | refine Ent.per (by repeat (first | with_reducible exact Sel.here | with_reducible apply Sel.there)) ?_ | refine Ent.cons (by repeat (first | with_reducible exact Sel.here | with_reducible apply Sel.there)) ?_))
end Go.Proofs.YtgbbcpfnmkeijaaGreat
/- pool.Node of a node that is laid down. -/
namespace Go.Proofs.YtgbbcpfnmkeijaaGreat
open Go.Cam
set_option maxRecDepth 100000
set_option maxHeartbeats 4000000 in
theorem pnode_c (p b gen n bc m : Nat) (σ : Ct) (g : Int → Option (Node × Plc)) (k : Int) (x : Node) (u : Plc) (hx : x.small) (hk : 0 ≤ k ∧ k < σ.n) (hc : σ.now k.toNat ≠ 0) (hg : g k = some (x, u)) : Ctr Tryz.prog 72 [.pointer (some ⟨p, 0, none⟩), .int .i64 k] [PoB p b gen n bc m, CtA bc σ, MG m (gmap g), Nds g]
    (fun v Bs => ∃ u', v = .tuple #[ndV x u', .int .i64 0] ∧ Bs = [PoB p b gen n bc m, CtA bc σ, MG m (gmap g), Nds g, SO 51 4 (.slice u'.a x.items.length u'.c) x.items.length (itemRow u'.w x.items), Nd2 x u', SO 99 4 (.slice u'.b x.kids.length u'.d) x.kids.length (kidRow x.kids)]) := by
  have hgm : gmap g k = some (blkV x u) := by show (g k).map _ = _; rw [hg]; rfl
  refine s_enter 56 [(0, _), (1, _)] (fun F => [_, _, _, _, F]) Tryz.func72 fun F => ?_
  refine go_ ?_
  refine s_alloc fun r4 => ?_
  refine go_ ?_
  refine s_call (sp := (by repeat (first | exact Split.nil | apply Split.perx (by repeat (first | with_reducible exact Sel.here | with_reducible apply Sel.there)) (by infer_instance) | apply Split.cons (by repeat (first | with_reducible exact Sel.here | with_reducible apply Sel.there))))) (hs := pcount_c p b gen n bc m σ k) (h := ?_)
  rintro v Bs ⟨rfl, rfl⟩
  rw [if_pos hk]
  refine go_ ?_
  refine s_ieq (fun h0 => ?_) (fun h0 => ?_)
  · exact absurd h0 (by omega)
  refine go_ ?_
  refine s_look (lk_lks2 hgm) ?_
  refine go_ ?_
  refine s_alloc fun r6 => ?_
  refine go_ ?_
  refine s_ndsG k x u (by repeat (first | with_reducible exact Sel.here | with_reducible apply Sel.there)) hg ?_
  refine s_call (sp := (by repeat (first | exact Split.nil | apply Split.perx (by repeat (first | with_reducible exact Sel.here | with_reducible apply Sel.there)) (by infer_instance) | apply Split.cons (by repeat (first | with_reducible exact Sel.here | with_reducible apply Sel.there))))) (hs := pown_c x (A1 := Nd1 x u) (A2 := Nd3 x u) (a := u.a) (b := u.b) (c := u.c) (d := u.d) (w := u.w) rfl rfl hx.i hx.k hx.v) (h := ?_)
  rintro v Bs ⟨a2, c2, b2, d2, w2, rfl, rfl⟩
  refine go_ ?_
  exact s_rett (rs := [.cell 4 88, .tmp 5]) (vs := [_, _]) Tryz.func72 rfl (by intro j; refine RVS.cell _ _ rfl (by repeat (first | with_reducible exact Sel.here | with_reducible apply Sel.there)) (by rfl) ?_; refine RVS.tmp _ rfl ?_; exact RVS.nil) rfl (⟨⟨a2, c2, b2, d2, w2⟩, rfl, rfl⟩) (by repeat (first | exact Ent.nil | refine Ent.per (by repeat (first | with_reducible exact Sel.here | with_reducible apply Sel.there)) ?_ | refine Ent.cons (by repeat (first | with_reducible exact Sel.here | with_reducible apply Sel.there)) ?_))
end Go.Proofs.YtgbbcpfnmkeijaaGreat
/- The reference's nodes: Keys, Least. -/
namespace Go.Proofs.YtgbbcpfnmkeijaaGreat
open Go.Cam
set_option maxRecDepth 100000
def nkeys (x : Node) : List Key := x.items.map Item.key ++ x.kids.map Kid.key
abbrev keyR (l : List Key) (i : Nat) : List Value := (l.getD i default).row
theorem nkeys_len (x : Node) : (nkeys x).length = x.items.length + x.kids.length := by simp [nkeys]
theorem nkeys_i (x : Node) {i : Nat} (h : i < x.items.length) : (nkeys x).getD i default = (x.items.getD i default).key := by
  unfold nkeys
  rw [List.getD_eq_getElem?_getD, List.getD_eq_getElem?_getD, List.getElem?_append_left (by simpa using h)]; simp [h]
theorem nkeys_k (x : Node) {i : Nat} (h : i < x.kids.length) : (nkeys x).getD (x.items.length + i) default = (x.kids.getD i default).key := by
  unfold nkeys
  rw [List.getD_eq_getElem?_getD, List.getD_eq_getElem?_getD, List.getElem?_append_right (by simp)]; simp [h]
theorem keyR_snoc (l : List Key) (m : Nat) (r : List Value) (h : r = keyR l m) (q : Nat) (hq : q < m + 1) : rcat m (keyR l) (fun _ => r) q = keyR l q := by
  unfold rcat
  by_cases h2 : q < m
  · rw [if_pos h2]
  · rw [if_neg h2, h, show q = m by omega]
set_option maxHeartbeats 4000000 in
theorem rkeys_c (x : Node) (u : Plc) (hx : x.small) : Ctr Tryz.prog 77 [ndV x u] [Nd1 x u, Nd3 x u] (fun v Bs => ∃ a c, v = .slice a (nkeys x).length c ∧ Bs = [SO 49 3 (.slice a (nkeys x).length c) (nkeys x).length (keyR (nkeys x))]) := by
  have h1 := hx.i
  have h2 := hx.k
  refine s_enter 40 [(0, _)] (fun F => [_, _, F]) Tryz.func77 fun F => ?_
  refine go_ ?_
  refine s_box fun r1 => ?_
  refine go_ ?_
  refine s_bs0 (sz := 3) (row := keyR (nkeys x)) (fun a0 => ?_)
  refine s_open (SO.of) ?_
  refine go_ ?_
  refine s_loop (fun q : Nat × Option Addr × Nat => [(1, .pointer (some ⟨r1, 0, none⟩)), (3, .slice q.2.1 q.1 q.2.2), (4, .int .i64 q.1)])
    (fun q => [SO 49 3 (.slice q.2.1 q.1 q.2.2) q.1 (keyR (nkeys x)), Box r1 88 [.int .i64 x.level, .slice u.a x.items.length u.c, .slice u.b x.kids.length u.d], Nd1 x u, Nd3 x u, F]) (fun q => q.1 ≤ x.items.length) (fun q => x.items.length - q.1) (0, a0, 0) (Nat.zero_le _) (by repeat (first | exact Ent.nil | refine Ent.per (by repeat (first | with_reducible exact Sel.here | with_reducible apply Sel.there)) ?_ | refine Ent.cons (by repeat (first | with_reducible exact Sel.here | with_reducible apply Sel.there)) ?_)) ?_
  rintro ⟨i, a, c⟩ hi next
  dsimp only at hi next ⊢
  refine go_ ?_
  refine s_if (fun h => ?_) (fun h => ?_)
  · have hi2 : i < x.items.length := by omega
    refine go_ ?_
    refine s_look (lk_ldeN (sz := 4) (fo := 0) (n := x.items.length) (i := i) (v := .slice u.a x.items.length u.c) (vs := (x.items.getD i default).key.row) (s := (by repeat (first | with_reducible exact SelR.here | with_reducible apply SelR.there)))) ?_
    refine go_ ?_
    refine s_step (st_bs1 (sz := 3) (cells := (x.items.getD i default).key.row) rfl) ?_
    rintro _ _ ⟨a3, rfl, rfl⟩
    refine go_ ?_
    refine s_step (st_appO (a := a) (len := i) (cap := c) (b := a3) (m := 1) (c := 1) (by repeat (first | with_reducible exact Sel.here | with_reducible apply Sel.there)) (by repeat (first | with_reducible exact SelR.here | with_reducible apply SelR.there)) (by rw [flat_one]; rfl)) ?_
    rintro _ _ ⟨a4, c4, rfl, rfl⟩
    refine s_open (SO.cg (keyR (nkeys x)) (keyR_snoc (nkeys x) (i) _ (by unfold keyR; rw [nkeys_i x hi2]))) ?_
    refine go_ ?_
    exact s_entF (by repeat (first | exact Ent.nil | refine Ent.per (by repeat (first | with_reducible exact Sel.here | with_reducible apply Sel.there)) ?_ | refine Ent.cons (by repeat (first | with_reducible exact Sel.here | with_reducible apply Sel.there)) ?_)) (s_keep _ (next (i + 1, a4, c4) (by dsimp only; omega) (by dsimp only; omega)))
  · have : i = x.items.length := by omega
    subst this
    refine go_ ?_
    refine s_front (a := SO 49 3 (.slice a x.items.length c) x.items.length (keyR (nkeys x))) (by repeat (first | with_reducible exact Sel.here | with_reducible apply Sel.there)) (s_open (B := SO 49 3 (.slice a (x.items.length + 0) c) (x.items.length + 0) (keyR (nkeys x))) (fun _ _ q => q) ?_)
    refine s_loop (fun q : Nat × Option Addr × Nat => [(1, .pointer (some ⟨r1, 0, none⟩)), (3, .slice q.2.1 (x.items.length + q.1) q.2.2), (5, .int .i64 q.1)])
      (fun q => [SO 49 3 (.slice q.2.1 (x.items.length + q.1) q.2.2) (x.items.length + q.1) (keyR (nkeys x)), Box r1 88 [.int .i64 x.level, .slice u.a x.items.length u.c, .slice u.b x.kids.length u.d], Nd3 x u, F]) (fun q => q.1 ≤ x.kids.length) (fun q => x.kids.length - q.1) (0, a, c) (Nat.zero_le _) (by repeat (first | exact Ent.nil | refine Ent.per (by repeat (first | with_reducible exact Sel.here | with_reducible apply Sel.there)) ?_ | refine Ent.cons (by repeat (first | with_reducible exact Sel.here | with_reducible apply Sel.there)) ?_)) ?_
    rintro ⟨i, a, c⟩ hi next
    dsimp only at hi next ⊢
    refine go_ ?_
    refine s_if (fun h => ?_) (fun h => ?_)
    · have hi2 : i < x.kids.length := by omega
      refine go_ ?_
      refine s_look (lk_ldeN (sz := 4) (fo := 0) (n := x.kids.length) (i := i) (v := .slice u.b x.kids.length u.d) (vs := (x.kids.getD i default).key.row) (s := (by repeat (first | with_reducible exact SelR.here | with_reducible apply SelR.there)))) ?_
      refine go_ ?_
      refine s_step (st_bs1 (sz := 3) (cells := (x.kids.getD i default).key.row) rfl) ?_
      rintro _ _ ⟨a3, rfl, rfl⟩
      refine go_ ?_
      refine s_step (st_appO (a := a) (len := x.items.length + i) (cap := c) (b := a3) (m := 1) (c := 1) (by repeat (first | with_reducible exact Sel.here | with_reducible apply Sel.there)) (by repeat (first | with_reducible exact SelR.here | with_reducible apply SelR.there)) (by rw [flat_one]; rfl)) ?_
      rintro _ _ ⟨a4, c4, rfl, rfl⟩
      refine s_open (SO.cg (keyR (nkeys x)) (keyR_snoc (nkeys x) (x.items.length + i) _ (by unfold keyR; rw [nkeys_k x hi2]))) ?_
      refine go_ ?_
      rw [show x.items.length + i + 1 = x.items.length + (i + 1) from rfl]
      exact s_entF (by repeat (first | exact Ent.nil | refine Ent.per (by repeat (first | with_reducible exact Sel.here | with_reducible apply Sel.there)) ?_ | refine Ent.cons (by repeat (first | with_reducible exact Sel.here | with_reducible apply Sel.there)) ?_)) (s_keep _ (next (i + 1, a4, c4) (by dsimp only; omega) (by dsimp only; omega)))
    · have : i = x.kids.length := by omega
      subst this
      rw [← nkeys_len]
      refine go_ ?_
      exact s_ret1 (rs := [.tmp 2]) Tryz.func77 rfl (by intro j; refine RVS.tmp _ rfl ?_; exact RVS.nil) (⟨a, c, rfl, rfl⟩) (by repeat (first | exact Ent.nil | refine Ent.per (by repeat (first | with_reducible exact Sel.here | with_reducible apply Sel.there)) ?_ | refine Ent.cons (by repeat (first | with_reducible exact Sel.here | with_reducible apply Sel.there)) ?_))
theorem rleast_c (x : Node) (u : Plc) (hx : x.small) (hn : 0 < (nkeys x).length) : Ctr Tryz.prog 39 [ndV x u] [Nd1 x u, Nd3 x u] (fun v Bs => v = ((nkeys x).getD 0 default).v ∧ Bs = []) := by
  have h1 := hx.i
  have h2 := hx.k
  have hl := nkeys_len x
  refine s_enter 13 [(0, _)] (fun F => [_, _, F]) Tryz.func39 fun F => ?_
  refine go_ ?_
  refine s_box fun r1 => ?_
  refine s_alloc fun r2 => ?_
  refine go_ ?_
  refine s_call (sp := (by repeat (first | exact Split.nil | apply Split.perx (by repeat (first | with_reducible exact Sel.here | with_reducible apply Sel.there)) (by infer_instance) | apply Split.cons (by repeat (first | with_reducible exact Sel.here | with_reducible apply Sel.there))))) (hs := rkeys_c x u hx) (h := ?_)
  rintro v Bs ⟨a, c, rfl, rfl⟩
  refine go_ ?_
  refine s_ieq (fun h => ?_) (fun h => ?_)
  · exact absurd h (by omega)
  refine go_ ?_
  exact s_ret1 (rs := [.cell 2 49]) Tryz.func39 rfl (by intro j; refine RVS.cell _ _ rfl (by repeat (first | with_reducible exact Sel.here | with_reducible apply Sel.there)) (by rfl) ?_; exact RVS.nil) (⟨rfl, rfl⟩) (by repeat (first | exact Ent.nil | refine Ent.per (by repeat (first | with_reducible exact Sel.here | with_reducible apply Sel.there)) ?_ | refine Ent.cons (by repeat (first | with_reducible exact Sel.here | with_reducible apply Sel.there)) ?_))
end Go.Proofs.YtgbbcpfnmkeijaaGreat
/- The reference's rows: Get. -/
namespace Go.Proofs.YtgbbcpfnmkeijaaGreat
open Go.Cam
set_option maxRecDepth 100000
end Go.Proofs.YtgbbcpfnmkeijaaGreat
/- find.walk.at. -/
namespace Go.Proofs.YtgbbcpfnmkeijaaGreat
open Go.Cam
set_option maxRecDepth 100000
structure PoZ where
  b : Nat
  gen : Nat
  n : Nat
  bc : Nat
  m : Nat
def Po.parts (p : Nat) (z : PoZ) (σ : Ct) (g : Int → Option (Node × Plc)) (_ : Unit) : List HP := [PoB p z.b z.gen z.n z.bc z.m, CtA z.bc σ, MG z.m (gmap g), Nds g]
abbrev Po (p : Nat) (z : PoZ) (σ : Ct) (g : Int → Option (Node × Plc)) : HP := EX (fun _ : Unit => True) (Po.parts p z σ g)
abbrev pathR (l : List Int) (i : Nat) : List Value := [.int .i64 (l.getD i 0)]
def Wk.parts (r p : Nat) (l : List Int) (q : Option Addr × Nat) : List HP := [Box r 114 [.pointer (some ⟨p, 0, none⟩), .slice q.1 l.length q.2], SO 3 1 (.slice q.1 l.length q.2) l.length (pathR l)]
abbrev Wk (r p : Nat) (l : List Int) : HP := EX (fun _ : Option Addr × Nat => True) (Wk.parts r p l)
structure Held (σ : Ct) (g : Int → Option (Node × Plc)) (k : Int) (x : Node) (u : Plc) : Prop where
  hs : x.small
  ok : nodeOk x = true
  hk : 0 ≤ k ∧ k < σ.n
  hc : σ.now k.toNat ≠ 0
  hg : g k = some (x, u)
set_option maxHeartbeats 4000000 in
theorem wat_c (r p : Nat) (z : PoZ) (σ : Ct) (g : Int → Option (Node × Plc)) (k lv : Int) (x : Node) (u : Plc) (path : List Int) (hh : Held σ g k x u) (hlv : lv < 0 ∨ x.level = lv) (hp : path.length < 1000000) : Ctr Tryz.prog 52 [.pointer (some ⟨r, 0, none⟩), .int .i64 k, .int .i64 lv] [Wk r p path, Po p z σ g]
    (fun v Bs => ∃ u', v = .tuple #[ndV x u', .int .i64 0] ∧ Bs = [Wk r p (path ++ [k]), Po p z σ g, Nd1 x u', Nd2 x u', Nd3 x u']) := by
  refine s_enter 45 [(0, _), (1, _), (2, _)] (fun F => [_, _, F]) Tryz.func52 fun F => ?_
  refine go_ ?_
  refine s_alloc fun r6 => ?_
  refine s_opn (φ := fun _ : Option Addr × Nat => True) (X := Wk.parts r p path) (by repeat (first | with_reducible exact Sel.here | with_reducible apply Sel.there)) fun q hq => ?_
  obtain ⟨a, c⟩ := q
  unfold Wk.parts
  refine s_nrm ?_
  refine s_opn (φ := fun _ : Unit => True) (X := Po.parts p z σ g) (by repeat (first | with_reducible exact Sel.here | with_reducible apply Sel.there)) fun _ _ => ?_
  unfold Po.parts
  refine s_nrm ?_
  refine go_ ?_
  refine s_call (sp := (by repeat (first | exact Split.nil | apply Split.perx (by repeat (first | with_reducible exact Sel.here | with_reducible apply Sel.there)) (by infer_instance) | apply Split.cons (by repeat (first | with_reducible exact Sel.here | with_reducible apply Sel.there))))) (hs := pnode_c p z.b z.gen z.n z.bc z.m σ g k x u hh.hs hh.hk hh.hc hh.hg) (h := ?_)
  rintro v Bs ⟨u', rfl, rfl⟩
  refine go_ ?_
  refine s_alloc fun r8 => ?_
  refine s_fzO (e := 51) (v := .slice u'.a x.items.length u'.c) (by repeat (first | with_reducible exact Sel.here | with_reducible apply Sel.there)) ?_
  refine s_fzO (e := 99) (v := .slice u'.b x.kids.length u'.d) (by repeat (first | with_reducible exact Sel.here | with_reducible apply Sel.there)) ?_
  refine s_cls (φ := fun _ : Unit => True) (X := Po.parts p z σ g) () trivial (by repeat (first | exact Split.nil | apply Split.perx (by repeat (first | with_reducible exact Sel.here | with_reducible apply Sel.there)) (by infer_instance) | apply Split.cons (by repeat (first | with_reducible exact Sel.here | with_reducible apply Sel.there)))) ?_
  refine go_ ?_
  cases hl0 : decide (lv ≥ 0) with
  | false =>
    refine go_ ?_
    refine s_step (st_bs1 (sz := 1) (cells := [.int .i64 k]) rfl) ?_
    rintro _ _ ⟨a3, rfl, rfl⟩
    refine go_ ?_
    refine s_step (st_appO (a := a) (len := path.length) (cap := c) (b := a3) (m := 1) (c := 1) (by repeat (first | with_reducible exact Sel.here | with_reducible apply Sel.there)) (by repeat (first | with_reducible exact SelR.here | with_reducible apply SelR.there)) (by rw [flat_one]; rfl)) ?_
    rintro _ _ ⟨a4, c4, rfl, rfl⟩
    refine s_open (SO.cg (pathR (path ++ [k])) fun q hq => ?_) ?_
    · unfold rcat pathR
      by_cases hq2 : q < path.length
      · rw [if_pos hq2, List.getD_eq_getElem?_getD, List.getD_eq_getElem?_getD, List.getElem?_append_left hq2]
      · have : q = path.length := by omega
        subst this
        rw [if_neg hq2]; simp [List.getD_eq_getElem?_getD]
    refine go_ ?_
    refine s_front (a := SO 3 1 (.slice a4 (path.length + 1) c4) (path.length + 1) (pathR (path ++ [k]))) (by repeat (first | with_reducible exact Sel.here | with_reducible apply Sel.there)) ?_
    rw [show path.length + 1 = (path ++ [k]).length by simp]
    refine s_cls (φ := fun _ : Option Addr × Nat => True) (X := Wk.parts r p (path ++ [k])) (a4, c4) trivial (by repeat (first | exact Split.nil | apply Split.perx (by repeat (first | with_reducible exact Sel.here | with_reducible apply Sel.there)) (by infer_instance) | apply Split.cons (by repeat (first | with_reducible exact Sel.here | with_reducible apply Sel.there)))) ?_
    exact s_rett (rs := [.cell 6 88, .tmp 7]) (vs := [_, _]) Tryz.func52 rfl (by intro j; refine RVS.cell _ _ rfl (by repeat (first | with_reducible exact Sel.here | with_reducible apply Sel.there)) (by rfl) ?_; refine RVS.tmp _ rfl ?_; exact RVS.nil) rfl (⟨u', rfl, rfl⟩) (by repeat (first | exact Ent.nil | refine Ent.per (by repeat (first | with_reducible exact Sel.here | with_reducible apply Sel.there)) ?_ | refine Ent.cons (by repeat (first | with_reducible exact Sel.here | with_reducible apply Sel.there)) ?_))
  | true =>
    have hl1 := of_decide_eq_true hl0
    have hl2 : x.level = lv := hlv.resolve_left (by omega)
    refine go_ ?_
    rw [show (x.level != lv) = false by rw [hl2]; simp]
    refine go_ ?_
    refine s_step (st_bs1 (sz := 1) (cells := [.int .i64 k]) rfl) ?_
    rintro _ _ ⟨a3, rfl, rfl⟩
    refine go_ ?_
    refine s_step (st_appO (a := a) (len := path.length) (cap := c) (b := a3) (m := 1) (c := 1) (by repeat (first | with_reducible exact Sel.here | with_reducible apply Sel.there)) (by repeat (first | with_reducible exact SelR.here | with_reducible apply SelR.there)) (by rw [flat_one]; rfl)) ?_
    rintro _ _ ⟨a4, c4, rfl, rfl⟩
    refine s_open (SO.cg (pathR (path ++ [k])) fun q hq => ?_) ?_
    · unfold rcat pathR
      by_cases hq2 : q < path.length
      · rw [if_pos hq2, List.getD_eq_getElem?_getD, List.getD_eq_getElem?_getD, List.getElem?_append_left hq2]
      · have : q = path.length := by omega
        subst this
        rw [if_neg hq2]; simp [List.getD_eq_getElem?_getD]
    refine go_ ?_
    refine s_front (a := SO 3 1 (.slice a4 (path.length + 1) c4) (path.length + 1) (pathR (path ++ [k]))) (by repeat (first | with_reducible exact Sel.here | with_reducible apply Sel.there)) ?_
    rw [show path.length + 1 = (path ++ [k]).length by simp]
    refine s_cls (φ := fun _ : Option Addr × Nat => True) (X := Wk.parts r p (path ++ [k])) (a4, c4) trivial (by repeat (first | exact Split.nil | apply Split.perx (by repeat (first | with_reducible exact Sel.here | with_reducible apply Sel.there)) (by infer_instance) | apply Split.cons (by repeat (first | with_reducible exact Sel.here | with_reducible apply Sel.there)))) ?_
    exact s_rett (rs := [.cell 6 88, .tmp 7]) (vs := [_, _]) Tryz.func52 rfl (by intro j; refine RVS.cell _ _ rfl (by repeat (first | with_reducible exact Sel.here | with_reducible apply Sel.there)) (by rfl) ?_; refine RVS.tmp _ rfl ?_; exact RVS.nil) rfl (⟨u', rfl, rfl⟩) (by repeat (first | exact Ent.nil | refine Ent.per (by repeat (first | with_reducible exact Sel.here | with_reducible apply Sel.there)) ?_ | refine Ent.cons (by repeat (first | with_reducible exact Sel.here | with_reducible apply Sel.there)) ?_))
end Go.Proofs.YtgbbcpfnmkeijaaGreat
/- Trees that are laid down; find.walk.leaf. -/
namespace Go.Proofs.YtgbbcpfnmkeijaaGreat
open Go.Cam
set_option maxRecDepth 100000
def nd (g : Int → Option (Node × Plc)) (k : Int) : Node := match g k with | some q => q.1 | none => ⟨0, [], []⟩
def kidN (g : Int → Option (Node × Plc)) (key : Key) (k : Int) : Int := ((nd g k).kids.getD (seekX (nd g k) key) default).addr
def wayN (g : Int → Option (Node × Plc)) (key : Key) : Nat → Int → List Int
  | 0, k => [k]
  | h + 1, k => k :: wayN g key h (kidN g key k)
def leafN (g : Int → Option (Node × Plc)) (key : Key) : Nat → Int → Int
  | 0, k => k
  | h + 1, k => leafN g key h (kidN g key k)
/-- a tree of a height, laid down -/
def Tr (σ : Ct) (g : Int → Option (Node × Plc)) : Nat → Int → Prop
  | 0, k => (∃ u, Held σ g k (nd g k) u) ∧ (nd g k).level = 0
  | h + 1, k => (∃ u, Held σ g k (nd g k) u) ∧ (nd g k).level = (h + 1 : Nat) ∧ 0 < (nd g k).kids.length ∧ ∀ i, i < (nd g k).kids.length → Tr σ g h ((nd g k).kids.getD i default).addr
theorem Tr.held {σ : Ct} {g : Int → Option (Node × Plc)} : ∀ {h : Nat} {k : Int}, Tr σ g h k → ∃ u, Held σ g k (nd g k) u
  | 0, _, t => t.1
  | _ + 1, _, t => t.1
theorem Tr.lv {σ : Ct} {g : Int → Option (Node × Plc)} : ∀ {h : Nat} {k : Int}, Tr σ g h k → (nd g k).level = (h : Nat)
  | 0, _, t => t.2
  | _ + 1, _, t => t.2.1
theorem Tr.seek {σ : Ct} {g : Int → Option (Node × Plc)} {h : Nat} {k : Int} (t : Tr σ g (h + 1) k) (key : Key) : seekX (nd g k) key < (nd g k).kids.length := by
  have := seekN_le (fun i => !(key.lt ((nd g k).kids.getD i default).key)) (nd g k).kids.length 0
  have h2 := t.2.2.1
  have h3 := t.2.1
  unfold seekX; rw [if_neg (by omega)]; omega
theorem wayN_head (g : Int → Option (Node × Plc)) (key : Key) : ∀ h k, wayN g key h k = k :: (wayN g key h k).tail
  | 0, _ => rfl
  | _ + 1, _ => rfl
set_option maxHeartbeats 8000000 in
theorem leaf_c (r p : Nat) (z : PoZ) (σ : Ct) (g : Int → Option (Node × Plc)) (k : Int) (key : Key) (h : Nat) (path : List Int) (ht : Tr σ g h k) (hp : path.length + h < 100000) : Ctr Tryz.prog 48 [.pointer (some ⟨r, 0, none⟩), .int .i64 k, key.v] [Wk r p path, Po p z σ g]
    (fun v Bs => ∃ u, v = .tuple #[ndV (nd g (leafN g key h k)) u, .int .i64 0] ∧ Bs = [Wk r p (path ++ wayN g key h k), Po p z σ g, Nd1 (nd g (leafN g key h k)) u, Nd2 (nd g (leafN g key h k)) u, Nd3 (nd g (leafN g key h k)) u]) := by
  obtain ⟨u0, hh0⟩ := ht.held
  refine s_enter 47 [(0, _), (1, _), (2, _)] (fun F => [_, _, F]) Tryz.func48 fun F => ?_
  refine go_ ?_
  refine s_box fun r5 => ?_
  refine s_alloc fun r6 => ?_
  refine go_ ?_
  refine s_call (sp := (by repeat (first | exact Split.nil | apply Split.perx (by repeat (first | with_reducible exact Sel.here | with_reducible apply Sel.there)) (by infer_instance) | apply Split.cons (by repeat (first | with_reducible exact Sel.here | with_reducible apply Sel.there))))) (hs := wat_c r p z σ g k (-1) (nd g k) u0 path hh0 (.inl (by decide)) (by omega)) (h := ?_)
  rintro v Bs ⟨u1, rfl, rfl⟩
  refine go_ ?_
  refine s_alloc fun r8 => ?_
  refine go_ ?_
  refine s_loop (fun q : Nat × Int × List Int × Plc => [(0, .pointer (some ⟨r, 0, none⟩)), (5, .pointer (some ⟨r5, 0, none⟩)), (6, .pointer (some ⟨r6, 0, none⟩)), (8, .pointer (some ⟨r8, 0, none⟩)), (9, .int .i64 0)])
    (fun q => [Box r8 88 [.int .i64 (nd g q.2.1).level, .slice q.2.2.2.a (nd g q.2.1).items.length q.2.2.2.c, .slice q.2.2.2.b (nd g q.2.1).kids.length q.2.2.2.d], Wk r p q.2.2.1, Po p z σ g, Nd1 (nd g q.2.1) q.2.2.2, Nd2 (nd g q.2.1) q.2.2.2, Nd3 (nd g q.2.1) q.2.2.2, Box r6 88 [.int .i64 0, .slice none 0 0, .slice none 0 0], Box r5 49 key.row, F])
    (fun q => Tr σ g q.1 q.2.1 ∧ q.2.2.1.length + q.1 < 100001 ∧ q.2.2.1 ++ (wayN g key q.1 q.2.1).tail = path ++ wayN g key h k ∧ leafN g key q.1 q.2.1 = leafN g key h k) (fun q => q.1) (h, k, path ++ [k], u1) ⟨ht, by simp; omega, by dsimp only; rw [List.append_assoc]; congr 1; exact (wayN_head g key h k).symm, rfl⟩ (by repeat (first | exact Ent.nil | refine Ent.per (by repeat (first | with_reducible exact Sel.here | with_reducible apply Sel.there)) ?_ | refine Ent.cons (by repeat (first | with_reducible exact Sel.here | with_reducible apply Sel.there)) ?_)) ?_
  rintro ⟨h', k', path', u'⟩ ⟨ht', hp', hw', hl'⟩ next
  dsimp only at ht' hp' hw' hl' next ⊢
  have hlv := ht'.lv
  refine go_ ?_
  refine s_if (fun h0 => ?_) (fun h0 => ?_)
  · cases h' with
    | zero => exact absurd h0 (by omega)
    | succ h1 =>
      obtain ⟨ux, hhx⟩ := ht'.held
      have hsk := ht'.seek key
      refine go_ ?_
      refine s_call (sp := (by repeat (first | exact Split.nil | apply Split.perx (by repeat (first | with_reducible exact Sel.here | with_reducible apply Sel.there)) (by infer_instance) | apply Split.cons (by repeat (first | with_reducible exact Sel.here | with_reducible apply Sel.there))))) (hs := nseek_c (nd g k') key (a := u'.a) (b := u'.b) (c := u'.c) (d := u'.d) (w := u'.w) rfl rfl hhx.hs.i hhx.hs.k) (h := ?_)
      rintro v Bs ⟨rfl, rfl⟩
      refine go_ ?_
      refine s_front (a := Box r8 88 [.int .i64 (nd g k').level, .slice u'.a (nd g k').items.length u'.c, .slice u'.b (nd g k').kids.length u'.d]) (by repeat (first | with_reducible exact Sel.here | with_reducible apply Sel.there)) ?_
      refine s_front (a := Po p z σ g) (by repeat (first | with_reducible exact Sel.here | with_reducible apply Sel.there)) ?_
      refine s_front (a := Wk r p path') (by repeat (first | with_reducible exact Sel.here | with_reducible apply Sel.there)) ?_
      refine s_drawN 2 [.q 0, .q 1, .q 2, .q 3, .q 4, .q 5, .q 6, .q 7, .q 8, .q 9, .r, .s 10, .q 11, .q 12, .q 13, .s 14, .q 15] ?_
      refine do_ ?_
      refine d_rel 1 ?_
      refine d_nrm ?_
      have ht2 := ht'.2.2.2 _ hsk
      obtain ⟨u2, hh2⟩ := ht2.held
      refine d_step rfl (st_call (sp := (by repeat (first | exact Split.nil | apply Split.perx (by repeat (first | with_reducible exact Sel.here | with_reducible apply Sel.there)) (by infer_instance) | apply Split.cons (by repeat (first | with_reducible exact Sel.here | with_reducible apply Sel.there))))) (hs := wat_c r p z σ g (kidN g key k') ((nd g k').level - 1) (nd g (kidN g key k')) u2 path' hh2 (.inr (by rw [show kidN g key k' = ((nd g k').kids.getD (seekX (nd g k') key) default).addr from rfl, ht2.lv, hlv]; omega)) (by omega))) ?_
      rintro v Bs ⟨Cs, ⟨u3, rfl, rfl⟩, rfl⟩
      refine do_ ?_
      refine d_stepU rfl (st_st (v := ndV (nd g (kidN g key k')) u3)) ?_
      rintro v Bs ⟨rfl, rfl⟩
      refine do_ ?_
      refine go_ ?_
      exact s_entF (by repeat (first | exact Ent.nil | refine Ent.per (by repeat (first | with_reducible exact Sel.here | with_reducible apply Sel.there)) ?_ | refine Ent.cons (by repeat (first | with_reducible exact Sel.here | with_reducible apply Sel.there)) ?_)) (s_keep _ (next (h1, kidN g key k', path' ++ [kidN g key k'], u3) ⟨ht2, by simp; omega, by dsimp only; rw [← hw', wayN, List.tail_cons, List.append_assoc]; congr 1; exact (wayN_head g key h1 (kidN g key k')).symm, hl'⟩ (by dsimp only; omega)))
  · cases h' with
    | succ h1 => exact absurd h0 (by omega)
    | zero =>
      rw [show leafN g key h k = k' from hl'.symm, ← hw', show (wayN g key 0 k').tail = [] from rfl, List.append_nil]
      refine go_ ?_
      exact s_rett (rs := [.cell 6 88, .tmp 7]) (vs := [_, _]) Tryz.func48 rfl (by intro j; refine RVS.cell _ _ rfl (by repeat (first | with_reducible exact Sel.here | with_reducible apply Sel.there)) (by rfl) ?_; refine RVS.tmp _ rfl ?_; exact RVS.nil) rfl (⟨u', rfl, rfl⟩) (by repeat (first | exact Ent.nil | refine Ent.per (by repeat (first | with_reducible exact Sel.here | with_reducible apply Sel.there)) ?_ | refine Ent.cons (by repeat (first | with_reducible exact Sel.here | with_reducible apply Sel.there)) ?_))
end Go.Proofs.YtgbbcpfnmkeijaaGreat
/- find.Get, Height, Path. -/
namespace Go.Proofs.YtgbbcpfnmkeijaaGreat
open Go.Cam
set_option maxRecDepth 100000
theorem s_wk0 {P : Program} {f : FuncId} {n : Nat} {R : Value → HP} {k : List It} {l : List (Nat × Value)} {As Bs : List HP} {r p : Nat} (u : Sel (Box r 114 [.pointer (some ⟨p, 0, none⟩), .slice none 0 0]) As Bs) (h : RunS P f n R k l (Wk r p [] :: Bs)) : RunS P f n R k l As :=
  s_front u (s_newO (e := 3) (sz := 1) (row := pathR []) (s_cls (φ := fun _ : Option Addr × Nat => True) (X := Wk.parts r p []) (none, 0) trivial (Split.cons (Sel.there Sel.here) (Split.cons Sel.here Split.nil)) h))
theorem Tr.leaf {σ : Ct} {g : Int → Option (Node × Plc)} (key : Key) : ∀ {h : Nat} {k : Int}, Tr σ g h k → Tr σ g 0 (leafN g key h k)
  | 0, _, t => t
  | h + 1, k, t => Tr.leaf key (h := h) (k := kidN g key k) (t.2.2.2 _ (t.seek key))
theorem seekHit_lt {x : Node} {k : Key} (h0 : x.level = 0) (h : seekHit x k = true) : seekX x k < x.items.length := by
  unfold seekHit at h; rw [if_pos h0] at h
  exact of_decide_eq_true (Bool.and_eq_true_iff.1 h).1
theorem get0_c (p : Nat) (k : Int) (key : Key) (hk : k = 0) : Ctr Tryz.prog 17 [.pointer (some ⟨p, 0, none⟩), .int .i64 k, key.v] [] (fun v Bs => v = .tuple #[.slice none 0 0, .int .i64 10] ∧ Bs = []) := by
  subst hk
  refine s_enter 39 [(0, _), (1, _), (2, _)] (fun F => [F]) Tryz.func17 fun F => ?_
  refine go_ ?_
  refine s_box fun r5 => ?_
  refine go_ ?_
  exact s_rett (rs := [.tmp 6, .tmp 7]) (vs := [_, _]) Tryz.func17 rfl (by intro j; refine RVS.tmp _ rfl ?_; refine RVS.tmp _ rfl ?_; exact RVS.nil) rfl (⟨rfl, rfl⟩) (by repeat (first | exact Ent.nil | refine Ent.per (by repeat (first | with_reducible exact Sel.here | with_reducible apply Sel.there)) ?_ | refine Ent.cons (by repeat (first | with_reducible exact Sel.here | with_reducible apply Sel.there)) ?_))
set_option maxHeartbeats 4000000 in
theorem get_c (p : Nat) (z : PoZ) (σ : Ct) (g : Int → Option (Node × Plc)) (k : Int) (key : Key) (h : Nat) (ht : Tr σ g h k) (hk : k ≠ 0) (hh : h < 1000) : Ctr Tryz.prog 17 [.pointer (some ⟨p, 0, none⟩), .int .i64 k, key.v] [Po p z σ g]
    (fun v Bs => (seekHit (nd g (leafN g key h k)) key = false ∧ v = .tuple #[.slice none 0 0, .int .i64 10] ∧ Bs = [Po p z σ g]) ∨
      (seekHit (nd g (leafN g key h k)) key = true ∧ ∃ a c, v = .tuple #[.slice a ((nd g (leafN g key h k)).items.getD (seekX (nd g (leafN g key h k)) key) default).val.length c, .int .i64 0] ∧ Bs = [Po p z σ g, BS (.slice a ((nd g (leafN g key h k)).items.getD (seekX (nd g (leafN g key h k)) key) default).val.length c) ((nd g (leafN g key h k)).items.getD (seekX (nd g (leafN g key h k)) key) default).val])) := by
  refine s_enter 39 [(0, _), (1, _), (2, _)] (fun F => [_, F]) Tryz.func17 fun F => ?_
  refine go_ ?_
  refine s_box fun r5 => ?_
  refine go_ ?_
  refine s_ieq (fun h0 => absurd h0 hk) (fun h0 => ?_)
  refine go_ ?_
  refine s_box fun r1 => ?_
  refine s_wk0 (by repeat (first | with_reducible exact Sel.here | with_reducible apply Sel.there)) ?_
  refine go_ ?_
  refine s_call (sp := (by repeat (first | exact Split.nil | apply Split.perx (by repeat (first | with_reducible exact Sel.here | with_reducible apply Sel.there)) (by infer_instance) | apply Split.cons (by repeat (first | with_reducible exact Sel.here | with_reducible apply Sel.there))))) (hs := leaf_c r1 p z σ g k key h [] ht (by simp; omega)) (h := ?_)
  rintro v Bs ⟨u, rfl, rfl⟩
  refine go_ ?_
  refine s_alloc fun r8 => ?_
  refine go_ ?_
  have htl := ht.leaf key
  obtain ⟨ul, hhl⟩ := htl.held
  have hl0 := htl.lv
  revert hhl hl0
  generalize nd g (leafN g key h k) = L
  intro hhl hl0
  refine s_call (sp := (by repeat (first | exact Split.nil | apply Split.perx (by repeat (first | with_reducible exact Sel.here | with_reducible apply Sel.there)) (by infer_instance) | apply Split.cons (by repeat (first | with_reducible exact Sel.here | with_reducible apply Sel.there))))) (hs := nseek_c L key (a := u.a) (b := u.b) (c := u.c) (d := u.d) (w := u.w) rfl rfl hhl.hs.i hhl.hs.k) (h := ?_)
  rintro v Bs ⟨rfl, rfl⟩
  cases hit : seekHit L key with
  | false =>
    refine go_ ?_
    exact s_rett (rs := [.tmp 6, .tmp 7]) (vs := [_, _]) Tryz.func17 rfl (by intro j; refine RVS.tmp _ rfl ?_; refine RVS.tmp _ rfl ?_; exact RVS.nil) rfl (.inl ⟨rfl, rfl, rfl⟩) (by repeat (first | exact Ent.nil | refine Ent.per (by repeat (first | with_reducible exact Sel.here | with_reducible apply Sel.there)) ?_ | refine Ent.cons (by repeat (first | with_reducible exact Sel.here | with_reducible apply Sel.there)) ?_))
  | true =>
    have hlt := seekHit_lt (by rw [hl0]; rfl) hit
    refine go_ ?_
    refine s_get (seekX L key) (F := itemFam u.w L.items) (m := L.items.length) (by repeat (first | with_reducible exact Sel.here | with_reducible apply Sel.there)) hlt ?_
    exact s_rett (rs := [.tmp 6, .tmp 7]) (vs := [_, _]) Tryz.func17 rfl (by intro j; refine RVS.tmp _ rfl ?_; refine RVS.tmp _ rfl ?_; exact RVS.nil) rfl (.inr ⟨rfl, (u.w (seekX L key)).1, (u.w (seekX L key)).2, rfl, rfl⟩) (by repeat (first | exact Ent.nil | refine Ent.per (by repeat (first | with_reducible exact Sel.here | with_reducible apply Sel.there)) ?_ | refine Ent.cons (by repeat (first | with_reducible exact Sel.here | with_reducible apply Sel.there)) ?_))
end Go.Proofs.YtgbbcpfnmkeijaaGreat
