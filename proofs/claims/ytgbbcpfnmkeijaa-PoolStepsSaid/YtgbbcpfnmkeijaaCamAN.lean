/- The law's trees: grown. -/
import Derived.Test.YtgbbcpfnmkeijaaFindBH
import Derived.Test.YtgbbcpfnmkeijaaCamAD
import Derived.Test.YtgbbcpfnmkeijaaCamN
import Derived.OpenShut
namespace Go.Proofs.Ytgbbcpfnmkeijaa
open Go.Cam
set_option maxRecDepth 100000
/-- a tree that has just a row's items -/
def TreeOf (σ : Ct) (g : Int → Option (Node × Plc)) (root : Int) (l : List Item) : Prop :=
  (l = [] ∧ root = 0) ∨ (l ≠ [] ∧ root ≠ 0 ∧ ∃ h, h ≤ 2 ∧ Tr σ g h root ∧ WF g h root ∧ itemsT g h root = l)
structure GrS where
  h : Nat
  xs : List Node
  a : Option Addr
  c : Nat
  us : Nat → Plc
  σ : Ct
  g : Int → Option (Node × Plc)
  u : Nat
structure GrOk (l : List Item) (s : GrS) : Prop where
  lvl : Lvl s.σ s.g s.h s.xs l
  fre : Fre s.σ s.u
  pos : 0 < s.xs.length
  cnt : (s.h = 0 ∧ s.xs.length ≤ 50 ∧ s.u ≤ 0) ∨ (s.h = 1 ∧ s.xs.length ≤ 8 ∧ s.u ≤ 50) ∨ (s.h = 2 ∧ s.xs.length ≤ 1 ∧ s.u ≤ 58)
structure GiS where
  i : Nat
  ks : List Kid
  a : Option Addr
  c : Nat
  σ : Ct
  g : Int → Option (Node × Plc)
structure GiOk (l : List Item) (s : GrS) (q : GiS) : Prop where
  len : q.ks.length = q.i
  le : q.i ≤ s.xs.length
  kids : ∀ y ∈ q.ks, KidOk q.σ q.g s.h y
  cat : catK (itemsT q.g s.h) q.ks ++ (s.xs.drop q.i).flatMap (itemsX q.g s.h) = l
  good : ∀ x ∈ s.xs.drop q.i, Good q.σ q.g s.h x
  fre : Fre q.σ (s.u + q.i)
theorem GiOk.next {l : List Item} {s : GrS} {q : GiS} (h : GiOk l s q) (hi : q.i < s.xs.length) (i : Nat) (u : Plc) (a : Option Addr) (c : Nat) (hi1 : 8 ≤ i) (hi2 : i ≤ 8 + (s.u + q.i)) (hi3 : q.σ.now i = 0) (hu : s.u + q.i < 248) :
    GiOk l s ⟨q.i + 1, q.ks ++ [⟨(nkeys (s.xs.getD q.i default)).getD 0 default, (i : Int)⟩], a, c, { q.σ with now := nset q.σ.now i 1 }, gset q.g i (s.xs.getD q.i default, u)⟩ := by
  have hd : s.xs.drop q.i = s.xs.getD q.i default :: s.xs.drop (q.i + 1) := by rw [List.drop_eq_getElem_cons hi, getD_get hi]
  have hgood := h.good (s.xs.getD q.i default) (by rw [hd]; exact List.mem_cons_self ..)
  have hn := h.fre.n
  obtain ⟨l1, l2⟩ := hgood.lay i u hi3 (by omega) (by omega)
  have e := ext_lay (g := q.g) (s.xs.getD q.i default, u) hi3
  refine ⟨by simp [h.len], by dsimp only; omega, fun y hy => ?_, ?_, fun x hx => ?_, ?_⟩
  · rcases List.mem_append.1 hy with hy | hy
    · exact ((h.kids y hy).ext e).1
    · rw [List.mem_singleton] at hy; subst hy; exact l1
  · dsimp only
    have h1 := h.cat
    rw [hd, List.flatMap_cons] at h1
    rw [← h1]
    show List.flatMap _ (q.ks ++ [_]) ++ _ = _
    rw [List.flatMap_append, List.append_assoc]
    congr 1
    · exact flatMap_cg fun y hy => ((h.kids y hy).ext e).2
    · rw [List.flatMap_cons, List.flatMap_nil, List.append_nil, l2]
      congr 1
      exact flatMap_cg fun x hx => ((h.good x (by rw [hd]; exact List.mem_cons_of_mem _ hx)).ext e).2
  · exact ((h.good x (by rw [hd]; exact List.mem_cons_of_mem _ hx)).ext e).1
  · have := h.fre.next hi2
    rwa [Nat.add_assoc] at this
theorem kid_snoc (ks : List Kid) (y : Kid) (r : List Value) (hr : r = [.int .i64 y.key.obj, .int .i64 y.key.kind, .int .i64 y.key.off, .int .i64 y.addr]) (q : Nat) (hq : q < ks.length + 1) : rcat ks.length (kidRow ks) (fun _ => r) q = kidRow (ks ++ [y]) q := by
  unfold rcat kidRow
  by_cases h : q < ks.length
  · rw [if_pos h, getD_snoc_lt ks y h]
  · have : q = ks.length := by omega
    subst this
    rw [if_neg h, getD_snoc_eq, hr]
set_option maxHeartbeats 16000000 in
theorem grown_c {C : HP} [Per C] {la b : Option Addr} {lc d : Nat} {w : Nat → Option Addr × Nat} (l : List Item) (cs : List Int) [Rd C 1 (.slice b cs.length d) cs.length (pathR cs)] (hl : RowOk l) (hn : l.length ≤ 150) (hcn : cs.length < 9223372036854775808) (hr : ∀ q, q < cs.length → -9223372036854775808 ≤ cs.getD q 0 ∧ cs.getD q 0 ≤ 9223372036854775807) :
    Ctr Try.prog 12 [.slice la l.length lc, .slice b cs.length d] [SA none 4 (.slice la l.length lc) l.length (itemRow w l), IFam w l, C]
    (fun v Bs => ∃ p z σ g root, v = .tuple #[.pointer (some ⟨p, 0, none⟩), .pointer (some ⟨z.b, 0, none⟩), .int .i64 root] ∧ TreeOf σ g root l ∧ Bs = [Po p z σ g, DrA z.b (Dr.new 256).fmt]) := by
  refine s_enter 83 [(0, _), (1, _)] (fun F => [_, _, _, F]) Try.func12 fun F => ?_
  refine go_ ?_
  refine s_call (sp := (by repeat (first | exact Split.nil | apply Split.perx (by repeat (first | with_reducible exact Sel.here | with_reducible apply Sel.there)) (by infer_instance) | apply Split.cons (by repeat (first | with_reducible exact Sel.here | with_reducible apply Sel.there))))) (hs := dnew_c 256 (by decide) (by decide)) (h := ?_)
  rintro v Bs ⟨rb, rfl, rfl⟩
  refine go_ ?_
  refine s_call (sp := (by repeat (first | exact Split.nil | apply Split.perx (by repeat (first | with_reducible exact Sel.here | with_reducible apply Sel.there)) (by infer_instance) | apply Split.cons (by repeat (first | with_reducible exact Sel.here | with_reducible apply Sel.there))))) (hs := pformat_c rb (Dr.new 256) ⟨rfl, by show (-1 : Int) < 0; decide⟩ (by decide) (by decide) (by decide)) (h := ?_)
  rintro v Bs ⟨p, bc, m, rfl, rfl⟩
  refine go_ ?_
  refine s_po (by repeat (first | with_reducible exact Sel.here | with_reducible apply Sel.there)) (by repeat (first | with_reducible exact Sel.here | with_reducible apply Sel.there)) (by repeat (first | with_reducible exact Sel.here | with_reducible apply Sel.there)) ?_
  refine go_ ?_
  refine s_call (sp := (by repeat (first | exact Split.nil | apply Split.perx (by repeat (first | with_reducible exact Sel.here | with_reducible apply Sel.there)) (by infer_instance) | apply Split.cons (by repeat (first | with_reducible exact Sel.here | with_reducible apply Sel.there))))) (hs := leaves_c (C := C) (a := la) (c := lc) (w := w) (b := b) (d := d) l cs (by omega) hcn hr) (h := ?_)
  rintro v Bs ⟨a2, c2, us, ps, hps, rfl, rfl⟩
  have hcnt : ps.length ≤ 50 := by
    rcases Nat.lt_or_ge 6 l.length with e | e
    · have := hps.cnt e; omega
    · have := hps.one e; omega
  have hnl := leafNodes_len l ps
  refine go_ ?_
  refine s_ieq (fun h0 => ?_) (fun h0 => ?_)
  · have e0 : l = [] := by
      rcases Nat.eq_zero_or_pos l.length with e | e
      · exact List.eq_nil_of_length_eq_zero e
      · have := hps.pos e; omega
    refine go_ ?_
    exact s_rett (rs := [.tmp 4, .tmp 5, .tmp 6]) (vs := [_, _, _]) Try.func12 rfl (by intro j; refine RVS.tmp _ rfl ?_; refine RVS.tmp _ rfl ?_; refine RVS.tmp _ rfl ?_; exact RVS.nil) rfl (⟨p, ⟨rb, 1, (Dr.new 256).n, bc, m⟩, _, _, 0, rfl, .inl ⟨e0, rfl⟩, rfl⟩) (by repeat (first | exact Ent.nil | refine Ent.per (by repeat (first | with_reducible exact Sel.here | with_reducible apply Sel.there)) ?_ | refine Ent.cons (by repeat (first | with_reducible exact Sel.here | with_reducible apply Sel.there)) ?_))
  have hl0 : l ≠ [] := fun e => by
    subst e
    have h1 := hps.cat
    cases hp : ps with
    | nil => rw [hp] at h0; exact h0 rfl
    | cons q r =>
      have := (hps.each q (by rw [hp]; exact List.mem_cons_self ..))
      have h2 : ([] : List Item).length = 0 := rfl
      omega
  refine go_ ?_
  refine s_loop (fun q : GrS => [(1, .slice b cs.length d), (7, .pointer (some ⟨rb, 0, none⟩)), (9, .pointer (some ⟨p, 0, none⟩)), (11, .slice q.a q.xs.length q.c), (12, .int .i64 (q.h + 1 : Nat))])
    (fun q => [Po p ⟨rb, 1, (Dr.new 256).n, bc, m⟩ q.σ q.g, DrA rb (Dr.new 256).fmt, C, NRow q.a q.c q.us q.xs, NFam q.us q.xs, F]) (GrOk l) (fun q => 6 - q.h) ⟨0, leafNodes l ps, a2, c2, us, Ct.new (Dr.new 256).n, fun _ => none, 0⟩
    ⟨leaf_lvl _ _ hl hps, Fre.new, by dsimp only; omega, .inl ⟨rfl, by dsimp only; omega, Nat.le_refl _⟩⟩ (by repeat (first | exact Ent.nil | refine Ent.per (by repeat (first | with_reducible exact Sel.here | with_reducible apply Sel.there)) ?_ | refine Ent.cons (by repeat (first | with_reducible exact Sel.here | with_reducible apply Sel.there)) ?_)) ?_
  intro s hs next
  have hh2 : s.h ≤ 2 := by rcases hs.cnt with h | h | h <;> omega
  have hx50 : s.xs.length ≤ 50 := by rcases hs.cnt with h | h | h <;> omega
  have hu58 : s.u + s.xs.length ≤ 60 := by rcases hs.cnt with h | h | h <;> omega
  refine go_ ?_
  refine s_if (p := ((s.h + 1 : Nat) : Int) < 6) (fun h1 => ?_) (fun h1 => (h1 (by omega)).elim)
  refine go_ ?_
  refine s_bs0 (sz := 4) (row := kidRow []) (fun a3 => ?_)
  refine s_open (B := SO 67 4 (.slice a3 ([] : List Kid).length 0) ([] : List Kid).length (kidRow [])) (SO.of) ?_
  refine go_ ?_
  refine s_loop (fun q : GiS => [(1, .slice b cs.length d), (7, .pointer (some ⟨rb, 0, none⟩)), (9, .pointer (some ⟨p, 0, none⟩)), (11, .slice s.a s.xs.length s.c), (12, .int .i64 (s.h + 1 : Nat)), (13, .slice q.a q.ks.length q.c), (14, .int .i64 q.i)])
    (fun q => [Po p ⟨rb, 1, (Dr.new 256).n, bc, m⟩ q.σ q.g, DrA rb (Dr.new 256).fmt, C, NRow s.a s.c s.us s.xs, NFam s.us s.xs, SO 67 4 (.slice q.a q.ks.length q.c) q.ks.length (kidRow q.ks), F]) (GiOk l s) (fun q => s.xs.length - q.i) ⟨0, [], a3, 0, s.σ, s.g⟩
    ⟨rfl, Nat.zero_le _, fun y hy => (nomatch hy), hs.lvl.cat, fun x hx => hs.lvl.good x hx, hs.fre⟩ (by repeat (first | exact Ent.nil | refine Ent.per (by repeat (first | with_reducible exact Sel.here | with_reducible apply Sel.there)) ?_ | refine Ent.cons (by repeat (first | with_reducible exact Sel.here | with_reducible apply Sel.there)) ?_)) ?_
  intro q hq next2
  have hql := hq.len
  have hqle := hq.le
  refine go_ ?_
  refine s_if (fun h2 => ?_) (fun h2 => ?_)
  · have hi : q.i < s.xs.length := by omega
    have hd : s.xs.drop q.i = s.xs.getD q.i default :: s.xs.drop (q.i + 1) := by rw [List.drop_eq_getElem_cons hi, getD_get hi]
    have hgood := hq.good (s.xs.getD q.i default) (by rw [hd]; exact List.mem_cons_self ..)
    obtain ⟨i, hf, i1, i2, i3⟩ := hq.fre.some (by omega)
    refine go_ ?_
    refine s_nget q.i (us := s.us) (xs := s.xs) (by repeat (first | with_reducible exact Sel.here | with_reducible apply Sel.there)) hi ?_
    refine s_call (sp := (by repeat (first | exact Split.nil | apply Split.perx (by repeat (first | with_reducible exact Sel.here | with_reducible apply Sel.there)) (by infer_instance) | apply Split.cons (by repeat (first | with_reducible exact Sel.here | with_reducible apply Sel.there))))) (hs := pputG_c p ⟨rb, 1, (Dr.new 256).n, bc, m⟩ (s.us q.i) hgood hf) (h := ?_)
    rintro v Bs ⟨u', rfl, rfl⟩
    refine go_ ?_
    refine s_call (sp := (by repeat (first | exact Split.nil | apply Split.perx (by repeat (first | with_reducible exact Sel.here | with_reducible apply Sel.there)) (by infer_instance) | apply Split.cons (by repeat (first | with_reducible exact Sel.here | with_reducible apply Sel.there))))) (hs := rleast_c (s.xs.getD q.i default) (s.us q.i) hgood.hs hgood.nkeys_pos) (h := ?_)
    rintro v Bs ⟨rfl, rfl⟩
    refine go_ ?_
    refine s_step (st_bs1 (sz := 4) (cells := [.int .i64 ((nkeys (s.xs.getD q.i default)).getD 0 default).obj, .int .i64 ((nkeys (s.xs.getD q.i default)).getD 0 default).kind, .int .i64 ((nkeys (s.xs.getD q.i default)).getD 0 default).off, .int .i64 (i : Nat)]) rfl) ?_
    rintro _ _ ⟨a4, rfl, rfl⟩
    refine go_ ?_
    refine s_step (st_appO (a := q.a) (len := q.ks.length) (cap := q.c) (b := a4) (m := 1) (c := 1) (by repeat (first | with_reducible exact Sel.here | with_reducible apply Sel.there)) (by repeat (first | with_reducible exact SelR.here | with_reducible apply SelR.there)) (by rw [flat_one]; rfl)) ?_
    rintro _ _ ⟨a5, c5, rfl, rfl⟩
    refine s_open (SO.cg (kidRow (q.ks ++ [⟨(nkeys (s.xs.getD q.i default)).getD 0 default, (i : Int)⟩])) (kid_snoc q.ks ⟨(nkeys (s.xs.getD q.i default)).getD 0 default, (i : Int)⟩ _ rfl)) ?_
    refine go_ ?_
    rw [show q.ks.length + 1 = (q.ks ++ [(⟨(nkeys (s.xs.getD q.i default)).getD 0 default, (i : Int)⟩ : Kid)]).length by simp]
    exact s_entF (by repeat (first | exact Ent.nil | refine Ent.per (by repeat (first | with_reducible exact Sel.here | with_reducible apply Sel.there)) ?_ | refine Ent.cons (by repeat (first | with_reducible exact Sel.here | with_reducible apply Sel.there)) ?_)) (s_keep _ (next2 ⟨q.i + 1, q.ks ++ [⟨(nkeys (s.xs.getD q.i default)).getD 0 default, (i : Int)⟩], a5, c5, _, gset q.g i (s.xs.getD q.i default, u')⟩ (hq.next hi i u' a5 c5 i1 i2 i3 (by omega)) (by dsimp only; omega)))
  · have e : q.i = s.xs.length := by omega
    have hcat := hq.cat
    rw [e, List.drop_length, List.flatMap_nil, List.append_nil] at hcat
    refine go_ ?_
    refine s_ieq (fun h3 => ?_) (fun h3 => ?_)
    · have h4 : q.ks.length = 1 := by omega
      have hK := hq.kids (q.ks.getD 0 default) (getD_mem (by omega))
      have hT : itemsT q.g s.h (q.ks.getD 0 default).addr = l := by
        rw [← hcat]
        cases hk : q.ks with
        | nil => rw [hk] at h4; cases h4
        | cons y r => cases r with
          | nil => simp [catK, List.getD_eq_getElem?_getD]
          | cons z r => rw [hk] at h4; simp at h4
      refine go_ ?_
      refine s_drawN 0 [.q 0, .q 1, .q 2, .q 3, .q 4, .q 5, .q 6, .q 7, .q 8] ?_
      refine do_ ?_
      refine d_look rfl (lk_ixz 0 (m := q.ks.length) (v := .slice q.a q.ks.length q.c) (z := 0) (by repeat (first | with_reducible exact SelR.here | with_reducible apply SelR.there))) ?_
      refine do_ ?_
      refine go_ ?_
      exact s_rett (rs := [.tmp 4, .tmp 5, .tmp 6]) (vs := [_, _, _]) Try.func12 rfl (by intro j; refine RVS.tmp _ rfl ?_; refine RVS.tmp _ rfl ?_; refine RVS.tmp _ rfl ?_; exact RVS.nil) rfl (⟨p, ⟨rb, 1, (Dr.new 256).n, bc, m⟩, q.σ, q.g, (q.ks.getD 0 default).addr, rfl, .inr ⟨hl0, by have := hK.ad; omega, s.h, hh2, hK.tr, hK.wf, hT⟩, rfl⟩) (by repeat (first | exact Ent.nil | refine Ent.per (by repeat (first | with_reducible exact Sel.here | with_reducible apply Sel.there)) ?_ | refine Ent.cons (by repeat (first | with_reducible exact Sel.here | with_reducible apply Sel.there)) ?_))
    · have h5 : 2 ≤ q.ks.length := by have := hs.pos; omega
      refine go_ ?_
      refine s_fzO (e := 67) (v := .slice q.a q.ks.length q.c) (by repeat (first | with_reducible exact Sel.here | with_reducible apply Sel.there)) ?_
      refine s_call (sp := (by repeat (first | exact Split.nil | apply Split.perx (by repeat (first | with_reducible exact Sel.here | with_reducible apply Sel.there)) (by infer_instance) | apply Split.cons (by repeat (first | with_reducible exact Sel.here | with_reducible apply Sel.there))))) (hs := inner_c (C := C) (a := q.a) (c := q.c) (b := b) (d := d) q.ks ((s.h + 1 : Nat) : Int) cs (by omega) (by omega) hcn hr) (h := ?_)
      rintro v Bs ⟨a6, c6, us6, ps6, hp6, rfl, rfl⟩
      have hL := inn_lvl hl hq.kids hcat hp6 h5 (by omega)
      have hpl : 0 < ps6.length := hp6.pos (by omega)
      have hil := innNodes_len ((s.h + 1 : Nat) : Int) q.ks ps6
      refine go_ ?_
      have hcnt2 : (s.h + 1 = 0 ∧ (innNodes ((s.h + 1 : Nat) : Int) q.ks ps6).length ≤ 50 ∧ s.u + q.i ≤ 0) ∨ (s.h + 1 = 1 ∧ (innNodes ((s.h + 1 : Nat) : Int) q.ks ps6).length ≤ 8 ∧ s.u + q.i ≤ 50) ∨ (s.h + 1 = 2 ∧ (innNodes ((s.h + 1 : Nat) : Int) q.ks ps6).length ≤ 1 ∧ s.u + q.i ≤ 58) := by
        rcases Nat.lt_or_ge 12 q.ks.length with e1 | e1
        · have := hp6.cnt e1
          rcases hs.cnt with h | h | h
          · exact .inr (.inl ⟨by omega, by omega, by omega⟩)
          · exact .inr (.inr ⟨by omega, by omega, by omega⟩)
          · omega
        · have := hp6.one e1
          rcases hs.cnt with h | h | h
          · exact .inr (.inl ⟨by omega, by omega, by omega⟩)
          · exact .inr (.inr ⟨by omega, by omega, by omega⟩)
          · omega
      exact s_entF (by repeat (first | exact Ent.nil | refine Ent.per (by repeat (first | with_reducible exact Sel.here | with_reducible apply Sel.there)) ?_ | refine Ent.cons (by repeat (first | with_reducible exact Sel.here | with_reducible apply Sel.there)) ?_)) (s_keep _ (next ⟨s.h + 1, innNodes ((s.h + 1 : Nat) : Int) q.ks ps6, a6, c6, us6, q.σ, q.g, s.u + q.i⟩ ⟨hL, hq.fre, by dsimp only; omega, hcnt2⟩ (by dsimp only; omega)))
end Go.Proofs.Ytgbbcpfnmkeijaa
/- find's Get, Scan, Height, Path of a tree that has just a row's items. -/
namespace Go.Proofs.Ytgbbcpfnmkeijaa
open Go.Cam
set_option maxRecDepth 100000
theorem emp_row {w : Nat → Option Addr × Nat} (H M : Heap) : (Sat [IRow none 0 w [], IFam w []]).p H M :=
  ⟨fun _ => none, M, (fun _ _ h => nomatch h), Le.refl _, fun _ => .inl rfl, .inr ⟨rfl, none, rfl⟩, per_add (M0 := M) (fun i hi => absurd hi (Nat.not_lt_zero _)) trivial⟩
theorem pow13 {h : Nat} (hh : h ≤ 2) : 13 ^ (h + 1) < 800000 := Nat.lt_of_le_of_lt (Nat.pow_le_pow_right (by decide) (show h + 1 ≤ 3 by omega)) (by decide)
theorem pick_empty {fr to : Key} {most : Int} {l : List Item} (h : l = [] ∨ most < 1) : pick fr to most l [] = [] := by
  rcases h with rfl | h
  · exact pick_nil fr to most []
  · exact pick_full (by simp; omega)
theorem tscan_c (p : Nat) (z : PoZ) {σ : Ct} {g : Int → Option (Node × Plc)} {root : Int} {l : List Item} (fr to : Key) (most : Int) (ht : TreeOf σ g root l) (hr : Ris l) : Ctr Try.prog 13 [.pointer (some ⟨p, 0, none⟩), .int .i64 root, fr.v, to.v, .int .i64 most] [Po p z σ g]
    (fun v Bs => ∃ a c w, v = .tuple #[.slice a (pick fr to most l []).length c, .int .i64 0] ∧ Bs = [Po p z σ g, IRow a c w (pick fr to most l []), IFam w (pick fr to most l [])]) := by
  by_cases h0 : root = 0 ∨ most < 1
  · have e : pick fr to most l [] = [] := by
      refine pick_empty ?_
      rcases h0 with h0 | h0
      · rcases ht with ⟨h1, _⟩ | ⟨_, h2, _⟩
        · exact .inl h1
        · exact absurd h0 h2
      · exact .inr h0
    rw [e]
    refine Ctr.post ((scanNone_c p root fr to most h0).frame [Po p z σ g]) fun v Bs ⟨Cs, ⟨hv, hc⟩, hb⟩ => ⟨_, ⟨none, 0, fun _ => (none, 0), hv, rfl⟩, fun H M q => ?_⟩
    subst hc; subst hb
    exact star_mono (fun H M _ => emp_row H M) q
  · have h1 : root ≠ 0 := fun e => h0 (.inl e)
    have h2 : 1 ≤ most := by
      have : ¬ most < 1 := fun e => h0 (.inr e)
      omega
    rcases ht with ⟨_, h3⟩ | ⟨_, _, h, hh, t, w, e⟩
    · exact absurd h3 h1
    · have hp := scan_pick g fr to most h root [] w (by rw [e]; exact hr)
      rw [e] at hp
      have := scan_c p z σ g root fr to most h t h1 h2 (pow13 hh)
      rw [hp] at this
      exact this
theorem tget_c (p : Nat) (z : PoZ) {σ : Ct} {g : Int → Option (Node × Plc)} {root : Int} {l : List Item} (key : Key) (ht : TreeOf σ g root l) (hr : Ris l) : Ctr Try.prog 18 [.pointer (some ⟨p, 0, none⟩), .int .i64 root, key.v] [Po p z σ g]
    (fun v Bs => (getT l key = none ∧ v = .tuple #[.slice none 0 0, .int .i64 10] ∧ Bs = [Po p z σ g]) ∨ (∃ x a c, getT l key = some x ∧ v = .tuple #[.slice a x.val.length c, .int .i64 0] ∧ Bs = [Po p z σ g, BS (.slice a x.val.length c) x.val])) := by
  rcases ht with ⟨h1, h2⟩ | ⟨_, h1, h, hh, t, w, e⟩
  · refine Ctr.post ((get0_c p root key h2).frame [Po p z σ g]) fun v Bs ⟨Cs, ⟨hv, hc⟩, hb⟩ => ⟨_, .inl ⟨by rw [h1]; rfl, hv, rfl⟩, fun H M q => ?_⟩
    subst hc; subst hb
    exact q
  · have hp := getT_tree g key h root w (by rw [e]; exact hr)
    rw [e] at hp
    refine Ctr.post (get_c p z σ g root key h t h1 (by omega)) fun v Bs q => ⟨Bs, ?_, fun _ _ q => q⟩
    rcases q with ⟨q1, q2, q3⟩ | ⟨q1, a, c, q2, q3⟩
    · rw [q1, if_neg (by simp)] at hp
      exact .inl ⟨hp, q2, q3⟩
    · rw [q1, if_pos rfl] at hp
      exact .inr ⟨_, a, c, hp, q2, q3⟩
theorem pick_sub (fr to : Key) (most : Int) (l : List Item) : (pick fr to most l []).Sublist l := by
  unfold pick
  rw [List.nil_append]
  exact (List.take_sublist _ _).trans (List.filter_sublist ..)
theorem Key.ok_iff (k : Key) : k.ok = true ↔ 0 ≤ k.obj ∧ 0 ≤ k.kind ∧ 0 ≤ k.off ∧ k.obj ≤ 2147483647 ∧ k.kind ≤ 255 ∧ k.off ≤ 2147483647 := by simp [Key.ok]
theorem P_all {k : Key} (h : k.ok = true) : rscanP ⟨0, 0, 0⟩ ⟨2147483647, 255, 2147483647⟩ k = true := by
  rw [Key.ok_iff] at h
  refine P_of ?_ ?_
  · cases e : k.lt ⟨0, 0, 0⟩ with
    | false => rfl
    | true => rw [Key.lt_iff] at e; dsimp only at e; omega
  · cases e : Key.lt ⟨2147483647, 255, 2147483647⟩ k with
    | false => rfl
    | true => rw [Key.lt_iff] at e; dsimp only at e; omega
theorem pick_all {l : List Item} (h : RowOk l) (most : Int) (hm : (l.length : Int) ≤ most) : pick ⟨0, 0, 0⟩ ⟨2147483647, 255, 2147483647⟩ most l [] = l := by
  unfold pick
  rw [List.filter_eq_self.2 fun x hx => P_all (h.ok x hx).1, List.nil_append]
  exact List.take_of_length_le (by simp; omega)
theorem RowOk.bys {l : List Item} (h : RowOk l) : ∀ x ∈ l, Bys x.val ∧ x.val.length < 1000000 := fun x hx => ⟨(h.ok x hx).2.2, by have := (h.ok x hx).2.1; omega⟩
theorem RowOk.sub {l m : List Item} (h : RowOk l) (hs : m.Sublist l) : RowOk m := ⟨h.ris.sublist hs, fun x hx => h.ok x (hs.subset hx)⟩
end Go.Proofs.Ytgbbcpfnmkeijaa
/- FindScans. -/
namespace Go.Proofs.Ytgbbcpfnmkeijaa
open Go.Cam
set_option maxRecDepth 100000
/-- what a World's value hands over -/
structure Wrld where
  l : List Item
  a : Option Addr
  c : Nat
  w : Nat → Option Addr × Nat
  cs : List Int
  b : Option Addr
  d : Nat
abbrev Wrld.v (x : Wrld) : Value := .agg #[.slice x.a x.l.length x.c, .slice x.b x.cs.length x.d]
abbrev Wrld.A (x : Wrld) : HP := SA none 4 (.slice x.a x.l.length x.c) x.l.length (itemRow x.w x.l)
abbrev Wrld.C (x : Wrld) : HP := SA none 1 (.slice x.b x.cs.length x.d) x.cs.length (pathR x.cs)
structure Wrld.ok (x : Wrld) : Prop where
  n : x.l.length < 9223372036854775808
  b : ∀ y ∈ x.l, Bys y.val
  m : x.cs.length < 9223372036854775808
  r : ∀ q, q < x.cs.length → -9223372036854775808 ≤ x.cs.getD q 0 ∧ x.cs.getD q 0 ≤ 9223372036854775807
set_option maxHeartbeats 16000000 in
theorem scans_c (x : Wrld) (hx : x.ok) (fr to : Key) (most : Int) : Ctr Try.prog 3 [x.v, .agg #[.int .i64 fr.obj, .int .i64 fr.kind, .int .i64 fr.off, .int .i64 to.obj, .int .i64 to.kind, .int .i64 to.off], .int .i64 most] [x.A, IFam x.w x.l, x.C] (fun v Bs => v = .bool true ∧ Bs = []) := by
  obtain ⟨hro, hrl⟩ := rowL_ok x.l 150 hx.b
  refine s_enter 79 [(0, _), (1, _), (2, _)] (fun F => [_, _, _, F]) Try.func3 fun F => ?_
  refine go_ ?_
  refine s_box fun r3 => ?_
  refine s_box fun r4 => ?_
  refine go_ ?_
  refine s_call (sp := (by repeat (first | exact Split.nil | apply Split.perx (by repeat (first | with_reducible exact Sel.here | with_reducible apply Sel.there)) (by infer_instance) | apply Split.cons (by repeat (first | with_reducible exact Sel.here | with_reducible apply Sel.there))))) (hs := shown_c) (h := ?_)
  rintro v Bs ⟨rfl, rfl⟩
  refine go_ ?_
  refine s_call (sp := (by repeat (first | exact Split.nil | apply Split.perx (by repeat (first | with_reducible exact Sel.here | with_reducible apply Sel.there)) (by infer_instance) | apply Split.cons (by repeat (first | with_reducible exact Sel.here | with_reducible apply Sel.there))))) (hs := row_c (A := x.A) (a := x.a) (c := x.c) (w := x.w) x.l 150 (by decide) hx.n) (h := ?_)
  rintro v Bs ⟨a2, c2, w2, rfl, rfl⟩
  generalize hL : rowL x.l 150 = L at *
  refine go_ ?_
  refine s_fzO (e := 48) (v := .slice a2 L.length c2) (by repeat (first | with_reducible exact Sel.here | with_reducible apply Sel.there)) ?_
  refine s_call (sp := (by repeat (first | exact Split.nil | apply Split.perx (by repeat (first | with_reducible exact Sel.here | with_reducible apply Sel.there)) (by infer_instance) | apply Split.cons (by repeat (first | with_reducible exact Sel.here | with_reducible apply Sel.there))))) (hs := grown_c (C := x.C) (la := a2) (lc := c2) (w := w2) (b := x.b) (d := x.d) L x.cs hro hrl hx.m hx.r) (h := ?_)
  rintro v Bs ⟨p, z, σ, g, root, rfl, ht, rfl⟩
  refine go_ ?_
  refine s_look (lk_ldP (b := r4) (off := 3)) ?_
  refine go_ ?_
  refine s_call (sp := (by repeat (first | exact Split.nil | apply Split.perx (by repeat (first | with_reducible exact Sel.here | with_reducible apply Sel.there)) (by infer_instance) | apply Split.cons (by repeat (first | with_reducible exact Sel.here | with_reducible apply Sel.there))))) (hs := tscan_c p z fr to most ht hro.ris) (h := ?_)
  rintro v Bs ⟨a3, c3, w3, rfl, rfl⟩
  refine go_ ?_
  refine s_look (lk_ldP (b := r4) (off := 3)) ?_
  refine go_ ?_
  refine s_call (sp := (by repeat (first | exact Split.nil | apply Split.perx (by repeat (first | with_reducible exact Sel.here | with_reducible apply Sel.there)) (by infer_instance) | apply Split.cons (by repeat (first | with_reducible exact Sel.here | with_reducible apply Sel.there))))) (hs := rscan_c (A := SA none 4 (.slice a2 L.length c2) L.length (itemRow w2 L)) (a := a2) (c := c2) (w := w2) L fr to most (by omega)) (h := ?_)
  rintro v Bs ⟨a4, c4, w4, rfl, rfl⟩
  rw [rscan_pick]
  refine go_ ?_
  have hpk := hro.sub (pick_sub fr to most L)
  have hpl : (pick fr to most L []).length ≤ 150 := Nat.le_trans (pick_sub fr to most L).length_le hrl
  refine s_call (sp := (by repeat (first | exact Split.nil | apply Split.perx (by repeat (first | with_reducible exact Sel.here | with_reducible apply Sel.there)) (by infer_instance) | apply Split.cons (by repeat (first | with_reducible exact Sel.here | with_reducible apply Sel.there))))) (hs := rsame_c (A := IRow a3 c3 w3 (pick fr to most L [])) (B := IRow a4 c4 w4 (pick fr to most L [])) (a := a3) (b := a4) (c := c3) (d := c4) (w := w3) (u := w4) (pick fr to most L []) (pick fr to most L []) (by omega) (by omega) rfl hpk.bys) (h := ?_)
  rintro v Bs ⟨rfl, rfl⟩
  refine go_ ?_
  refine s_call (sp := (by repeat (first | exact Split.nil | apply Split.perx (by repeat (first | with_reducible exact Sel.here | with_reducible apply Sel.there)) (by infer_instance) | apply Split.cons (by repeat (first | with_reducible exact Sel.here | with_reducible apply Sel.there))))) (hs := tscan_c p z ⟨0, 0, 0⟩ ⟨2147483647, 255, 2147483647⟩ 1000 ht hro.ris) (h := ?_)
  rw [pick_all hro 1000 (by omega)]
  rintro v Bs ⟨a5, c5, w5, rfl, rfl⟩
  refine go_ ?_
  refine s_call (sp := (by repeat (first | exact Split.nil | apply Split.perx (by repeat (first | with_reducible exact Sel.here | with_reducible apply Sel.there)) (by infer_instance) | apply Split.cons (by repeat (first | with_reducible exact Sel.here | with_reducible apply Sel.there))))) (hs := rsame_c (A := IRow a5 c5 w5 L) (B := SA none 4 (.slice a2 L.length c2) L.length (itemRow w2 L)) (a := a5) (b := a2) (c := c5) (d := c2) (w := w5) (u := w2) L L (by omega) (by omega) rfl hro.bys) (h := ?_)
  rintro v Bs ⟨rfl, rfl⟩
  refine go_ ?_
  exact s_ret1 (rs := [.tmp 6]) Try.func3 rfl (by intro j; refine RVS.tmp _ rfl ?_; exact RVS.nil) (⟨rfl, rfl⟩) (by repeat (first | exact Ent.nil | refine Ent.per (by repeat (first | with_reducible exact Sel.here | with_reducible apply Sel.there)) ?_ | refine Ent.cons (by repeat (first | with_reducible exact Sel.here | with_reducible apply Sel.there)) ?_))
end Go.Proofs.Ytgbbcpfnmkeijaa
/- From what a row of the law hands over to assertions, and from a contract to what the row asks. -/
namespace Go.Cam
open Go.ChangeShapes Go.WideShapes Go.ChangeAt Go.RowKit Go.Deep
theorem extract_rows {c : Array Value} {off sz : Nat} {row : Nat → List Value} : ∀ {n : Nat}, (∀ i, i < n → c.extract (off + i * sz) (off + i * sz + sz) = (row i).toArray ∧ off + i * sz + sz ≤ c.size) → c.extract off (off + n * sz) = (flat n row).toArray
  | 0, _ => by simp [flat]; omega
  | n + 1, h => by
    have ih := extract_rows (n := n) fun i hi => h i (by omega)
    obtain ⟨h1, h2⟩ := h n (by omega)
    have e1 := congrArg Array.toList ih
    have e2 := congrArg Array.toList h1
    rw [Array.toList_extract, List.extract_eq_take_drop, Nat.add_sub_cancel_left] at e1 e2
    dsimp only at e1 e2
    apply Array.ext'
    rw [Array.toList_extract, List.extract_eq_take_drop, Nat.add_sub_cancel_left, flat_succ, Nat.add_mul, Nat.one_mul, List.take_add, e1, List.drop_drop, e2]
section
variable {H : Type} {enc : TypeId × Value → H} {P : Program} {w : World} {base : Nat} {held : Bool}
theorem rows_sa {t e : TypeId} {sz : Nat} {ks : List Kd} {v : Value} {x : DataW H} {ps : List MemPlace} (ht : P.underlying t = some (.slice e)) (hsz : P.cellsOf e = sz) (h0 : 0 < sz) (d : Nat) (hk : flatK P d e = some ks) (hks : ks.length = sz)
    (hv : ∃ a len cap, v = .slice a len cap) (h : DataW.Trod enc P w base (fun _ => true) true t v x ps) : ∃ a len cap row, v = .slice a len cap ∧ (∀ i, i < len → Fit ks (row i)) ∧ ∀ M, (SA none sz (.slice a len cap) len row).p (fun b => w.heap[b]?) M := by
  have hcap : ∃ a len cap, v = .slice a len cap ∧ len ≤ cap := by
    obtain ⟨fuel, hf⟩ := h
    obtain ⟨a0, len0, cap0, rfl⟩ := hv
    rcases open_slice ht hf with ⟨hcs, hx⟩ | ⟨a, len, cap, m, n, D, Pl, hcs, _, hl, hm, hmm, hx, hi⟩
    · simp [Value.cells] at hcs
      obtain ⟨rfl, rfl, rfl⟩ := hcs
      exact ⟨_, _, _, rfl, Nat.le_refl _⟩
    · simp [Value.cells] at hcs
      obtain ⟨rfl, rfl, rfl⟩ := hcs
      simp only [if_true] at hmm
      exact ⟨_, _, _, rfl, by omega⟩
  obtain ⟨len, row, ⟨bs, cap, rfl, hr⟩, hf⟩ := rows_of ht hsz h0 d hk hv h
  obtain ⟨a1, len1, cap1, e1, hle⟩ := hcap
  cases e1
  refine ⟨bs, len, cap, row, rfl, hf, fun M => ⟨bs, cap, rfl, hle, fun i hi => by rw [(hf i hi).len, hks], fun hn => ?_⟩⟩
  obtain ⟨b, off, c, ty, fr, rfl, hb, _, _⟩ := hr 0 hn
  have hall : ∀ i, i < len → c.extract (off + i * sz) (off + i * sz + sz) = (row i).toArray ∧ off + i * sz + sz ≤ c.size := fun i hi => by
    obtain ⟨b2, off2, c2, ty2, fr2, e2, hb2, h3, h4⟩ := hr i hi
    cases e2
    have : some (Obj.cells c ty fr) = some (.cells c2 ty2 fr2) := hb.symm.trans hb2
    cases this
    exact ⟨h4, h3⟩
  refine ⟨b, off, c, ty, fr, rfl, hb, ?_, extract_rows hall⟩
  obtain ⟨k, rfl⟩ : ∃ k, len = k + 1 := ⟨len - 1, by omega⟩
  have := (hall k (by omega)).2
  rw [Nat.add_mul, Nat.one_mul]; omega
end
theorem below_ctr {P : Program} {f : FuncId} {args : List Value} {As : List HP} {W : World} {V : Value} (h : Ctr P f args As (fun v Bs => v = V ∧ Bs = [])) (hA : (Sat As).p (held W) nil) :
    Calls P f args.toArray W (fun e W' => e = .returned V ∧ Below W.heap.size W W') := by
  let F : HP := .per (fun H => Le (held W) H) fun h1 h2 => h2.trans h1
  have s : (Sat (As ++ [F])).p (held W) nil := Sat.join (star_comm (per_add (M0 := nil) (A := F) (Le.refl _) hA))
  refine (h F (held W) nil s W W (Has.start W)).mono fun e W' ⟨v, H', M', he, hh, Bs, ⟨hv, hb⟩, hs⟩ => ?_
  subst he; subst hv; subst hb
  have hle : Le (held W) H' := star_fst hs
  refine ⟨rfl, hh.os, hh.tape, hh.output, hh.size, fun k hk => ?_⟩
  have : W.heap[k]? = some W.heap[k] := Array.getElem?_eq_getElem hk
  rw [this]
  exact hh.h k _ (hle k _ this)
end Go.Cam
/- What was handed in, of any depth: structs, arrays and slices, one in the other. -/
namespace Go.Cam
open Go.ChangeShapes Go.WideShapes Go.Deep
inductive Sh where
  | int (k : IntKind)
  | str
  | bool
  | emp
  | cat (a b : Sh)
  | slice (sz : Nat) (s : Sh)
def Sh.w : Sh → Nat
  | .emp => 0
  | .cat a b => a.w + b.w
  | _ => 1
def Sh.ok (H : Heap) : Sh → List Value → Prop
  | .int k, cs => ∃ n, cs = [.int k n] ∧ (Lit.int k n).wf = true
  | .str, cs => ∃ s : ByteArray, cs = [.string s] ∧ s.size ≤ maxLen
  | .bool, cs => ∃ b, cs = [.bool b]
  | .emp, cs => cs = []
  | .cat a b, cs => ∃ x y, cs = x ++ y ∧ a.ok H x ∧ b.ok H y
  | .slice sz s, cs => ∃ a len cap row, cs = [.slice a len cap] ∧ len ≤ cap ∧ cap ≤ maxLen ∧ (∀ M, (SA none sz (.slice a len cap) len row).p H M) ∧ ∀ i, i < len → s.ok H (row i)
theorem Sh.ok_len {H : Heap} : ∀ {s : Sh} {cs : List Value}, s.ok H cs → cs.length = s.w
  | .int _, _, ⟨_, h, _⟩ => by rw [h]; rfl
  | .str, _, ⟨_, h, _⟩ => by rw [h]; rfl
  | .bool, _, ⟨_, h⟩ => by rw [h]; rfl
  | .emp, _, h => by rw [show _ = [] from h]; rfl
  | .cat a b, _, ⟨x, y, h, h1, h2⟩ => by rw [h, List.length_append, Sh.ok_len h1, Sh.ok_len h2]; rfl
  | .slice _ _, _, ⟨_, _, _, _, h, _⟩ => by rw [h]; rfl
def Sh.rep (s : Sh) : Nat → Sh
  | 0 => .emp
  | n + 1 => .cat s (s.rep n)
/-- a type's shape -/
def shF (P : Program) (rec : TypeId → Option Sh) : List Field → Nat → Option Sh
  | [], _ => some .emp
  | f :: r, off => if f.offset = off then (rec f.type).bind fun s => if s.w = P.cellsOf f.type then (shF P rec r (off + P.cellsOf f.type)).map fun s' => .cat s s' else none else none
def shT (P : Program) : Nat → TypeId → Option Sh
  | 0, _ => none
  | d + 1, t => match P.underlying t with
    | some (.int k) => some (.int k)
    | some .string => some .str
    | some .bool => some .bool
    | some (.struct fs) => (shF P (shT P d) fs.toList 0).bind fun s => if s.w = P.cellsOf t then some s else none
    | some (.array n e) => (shT P d e).bind fun s => if s.w = P.cellsOf e ∧ n * s.w = P.cellsOf t then some (s.rep n) else none
    | some (.slice e) => (shT P d e).bind fun s => if s.w = P.cellsOf e ∧ 0 < s.w then some (.slice s.w s) else none
    | _ => none
section
variable {H : Type} {enc : TypeId × Value → H} {P : Program} {w : World} {base : Nat} {held : Bool}
theorem shF_ok {d : Nat} {n : Nat} {cs : List Value} (ih : ∀ t cs x s, DataW.trod enc P w base (fun _ => true) held n t cs = some x → shT P d t = some s → s.ok (fun b => w.heap[b]?) cs) :
    ∀ (fs : List Field) (off : Nat) (s : Sh), (∀ f, f ∈ fs → ∃ x, DataW.trod enc P w base (fun _ => true) held n f.type ((cs.drop f.offset).take (P.cellsOf f.type)) = some x) → shF P (shT P d) fs off = some s → s.ok (fun b => w.heap[b]?) ((cs.drop off).take s.w)
  | [], off, s, _, h => by
    simp only [shF, Option.some.injEq] at h
    subst h; simp [Sh.ok, Sh.w]
  | f :: r, off, s, hf, h => by
    unfold shF at h
    split at h
    · rename_i ho
      subst ho
      obtain ⟨k1, h1, h2⟩ := Option.bind_eq_some_iff.1 h
      split at h2
      · rename_i hl
        obtain ⟨k2, h3, rfl⟩ := Option.map_eq_some_iff.1 h2
        obtain ⟨x, hx⟩ := hf f (by simp)
        have a := ih _ _ _ _ hx h1
        have b := shF_ok ih r _ k2 (fun g hg => hf g (by simp [hg])) h3
        refine ⟨_, _, ?_, a, b⟩
        rw [Sh.w, hl, List.take_add, List.drop_drop]
      · cases h2
    · cases h
theorem rep_ok {s : Sh} {m : Nat} {Hp : Heap} : ∀ (n : Nat) (cs : List Value), cs.length = n * m → s.w = m → (∀ i, i < n → s.ok Hp ((cs.drop (i * m)).take m)) → (s.rep n).ok Hp cs
  | 0, cs, hl, _, _ => by
    rw [Nat.zero_mul] at hl
    exact List.eq_nil_of_length_eq_zero hl
  | n + 1, cs, hl, hm, h => by
    rw [Nat.add_mul, Nat.one_mul] at hl
    refine ⟨cs.take m, cs.drop m, (List.take_append_drop m cs).symm, by have := h 0 (by omega); simpa using this, rep_ok n _ (by rw [List.length_drop]; omega) hm fun i hi => ?_⟩
    have := h (i + 1) (by omega)
    rw [Nat.add_mul, Nat.one_mul, Nat.add_comm, ← List.drop_drop] at this
    exact this
theorem sl_sa {a : Addr} {len cap sz : Nat} {ch : Nat → List Value} (h0 : 0 < sz) (hc : len ≤ cap) (hi : ∀ i, i < len → w.cells? base (a.add (i * sz)) sz = some (ch i)) : ∀ M, (SA none sz (.slice (some a) len cap) len ch).p (fun b => w.heap[b]?) M := fun M => by
  have hlen : ∀ i, i < len → (ch i).length = sz := fun i hi2 => (World.cells?_some (hi i hi2)).2.1
  refine ⟨some a, cap, rfl, hc, hlen, fun hn => ?_⟩
  obtain ⟨b, off, spot⟩ := a
  have hfirst := (World.cells?_some (hi 0 hn)).2.2 0 h0
  rw [List.getElem?_eq_getElem (by rw [hlen 0 hn]; exact h0)] at hfirst
  have hspot : spot = none := by
    have := World.cell?_spot hfirst
    simpa [Addr.add] using this
  subst hspot
  have hcell : ∀ i, i < len → ∀ q, q < sz → w.cell? ⟨b, off + i * sz + q, none⟩ = (ch i)[q]? := fun i hi2 q hq => by
    have := (World.cells?_some (hi i hi2)).2.2 q hq
    rwa [addr_add, addr_add] at this
  have hf0 := hcell 0 hn 0 h0
  rw [List.getElem?_eq_getElem (by rw [hlen 0 hn]; exact h0)] at hf0
  obtain ⟨c, ty, fr, hb, _⟩ := cell_in hf0
  have hall : ∀ i, i < len → ∀ q, q < sz → c[off + i * sz + q]? = (ch i)[q]? := fun i hi2 q hq => by
    have h3 := hcell i hi2 q hq
    have hl := hlen i hi2
    rw [List.getElem?_eq_getElem (by omega)] at h3 ⊢
    obtain ⟨c', ty', fr', hb', hc'⟩ := cell_in h3
    rw [hb] at hb'; cases hb'; exact hc'
  have hsize : ∀ i, i < len → off + i * sz + sz ≤ c.size := fun i hi2 => by
    have := hall i hi2 (sz - 1) (by omega)
    have hl := hlen i hi2
    rw [List.getElem?_eq_getElem (by omega)] at this
    have := (Array.getElem?_eq_some_iff.1 this).1
    omega
  refine ⟨b, off, c, ty, fr, rfl, hb, ?_, extract_rows fun i hi2 => ⟨?_, hsize i hi2⟩⟩
  · obtain ⟨k, rfl⟩ : ∃ k, len = k + 1 := ⟨len - 1, by omega⟩
    have := hsize k (by omega)
    rw [Nat.add_mul, Nat.one_mul]; omega
  · apply Array.ext'
    apply List.ext_getElem?
    intro q
    rw [Array.toList_extract, List.extract_eq_take_drop, List.getElem?_take]
    by_cases hq : q < sz
    · rw [if_pos (by omega), List.getElem?_drop]
      have := hall i hi2 q hq
      simpa using this
    · rw [if_neg (by omega)]
      exact (List.getElem?_eq_none (by rw [hlen i hi2]; omega)).symm
theorem trod_sh : ∀ (d : Nat) (n : Nat) (t : TypeId) (cs : List Value) (x : DataW H × List MemPlace) (s : Sh), DataW.trod enc P w base (fun _ => true) held n t cs = some x → shT P d t = some s → s.ok (fun b => w.heap[b]?) cs
  | 0, _, _, _, _, _, _, h => by simp [shT] at h
  | d + 1, n, t, cs, x, s, ht, h => by
    unfold shT at h
    split at h
    · rename_i k hu
      cases h
      obtain ⟨v, rfl, _, hw⟩ := DataW.trod_int hu ht
      exact ⟨v, rfl, hw⟩
    · rename_i hu
      cases h
      obtain ⟨v, rfl, _, hw⟩ := DataW.trod_string hu ht
      exact ⟨v, rfl, hw⟩
    · rename_i hu
      cases h
      obtain ⟨v, rfl, _⟩ := DataW.trod_bool hu ht
      exact ⟨v, rfl⟩
    · rename_i fs hu
      obtain ⟨k1, h1, h2⟩ := Option.bind_eq_some_iff.1 h
      split at h2
      · rename_i hl
        cases h2
        obtain ⟨xs, m, rfl, _, hlen, hxl, hf⟩ := DataW.trod_struct hu ht
        have := shF_ok (cs := cs) (fun t cs x ks a b => trod_sh d m t cs x ks a b) fs.toList 0 s (fun f hfm => by
          obtain ⟨i, hi, rfl⟩ := List.getElem_of_mem hfm
          have hi' : i < fs.size := by simpa using hi
          have := hf i fs[i] (by simp [hi'])
          refine ⟨xs[i]'(by omega), ?_⟩
          rw [show fs.toList[i] = fs[i] by simp]
          rw [this]; exact List.getElem?_eq_getElem (by omega)) h1
        rw [List.drop_zero, hl, ← hlen, List.take_of_length_le (Nat.le_refl _)] at this
        exact this
      · cases h2
    · rename_i m e hu
      obtain ⟨k1, h1, h2⟩ := Option.bind_eq_some_iff.1 h
      split at h2
      · rename_i hl
        cases h2
        obtain ⟨xs, q, rfl, _, hlen, hxl, hf⟩ := DataW.trod_array hu ht
        refine rep_ok (m := P.cellsOf e) m cs (by rw [hlen, ← hl.2, hl.1]) hl.1 fun i hi => ?_
        have h3 := hf i hi
        rw [List.getElem?_eq_getElem (by omega)] at h3
        exact trod_sh d q e _ _ k1 h3 h1
      · cases h2
    · rename_i e hu
      obtain ⟨k1, h1, h2⟩ := Option.bind_eq_some_iff.1 h
      split at h2
      · rename_i hl
        cases h2
        rcases open_slice hu ht with ⟨rfl, _⟩ | ⟨a, len, cap, m, q, D, Pl, rfl, _, hlc, hm, hmm, _, hi⟩
        · exact ⟨none, 0, 0, fun _ => [], rfl, Nat.le_refl _, Nat.zero_le _, fun M => ⟨none, 0, rfl, Nat.le_refl _, fun i hi => absurd hi (Nat.not_lt_zero _), fun h => absurd h (Nat.not_lt_zero _)⟩, fun i hi => absurd hi (Nat.not_lt_zero _)⟩
        · simp only [if_true] at hmm
          subst hmm
          rw [← hl.1] at hi
          have hch : ∀ i, ∃ cs', i < m → w.cells? base (a.add (i * k1.w)) k1.w = some cs' ∧ DataW.trod enc P w base (fun _ => true) held q e cs' = some (D i, Pl i) := fun i => by
            by_cases c : i < m
            · obtain ⟨cs', h1⟩ := hi i c; exact ⟨cs', fun _ => h1⟩
            · exact ⟨[], fun h => absurd h c⟩
          refine ⟨some a, len, m, fun i => (hch i).choose, rfl, hlc, hm, sl_sa hl.2 hlc fun i hi2 => ((hch i).choose_spec (by omega)).1, fun i hi2 => ?_⟩
          exact trod_sh d q e _ _ k1 ((hch i).choose_spec (by omega)).2 h1
      · cases h2
    · cases h
end
theorem agg_of {v : Value} {cs : List Value} (h : v.cells.toList = cs) (hl : cs.length ≠ 1) : v = .agg cs.toArray := by
  cases v with
  | agg a => rw [← h]; rfl
  | _ => exact absurd (by rw [← h]; rfl) hl
/-- assertions that need no block of their own, of a world where all is held -/
theorem sat_per1 {A : HP} {H : Heap} (h : ∀ M, A.p H M) {Bs : List HP} {M : Heap} (q : (Sat Bs).p H M) : (Sat (A :: Bs)).p H M := ⟨fun _ => none, M, (fun _ _ h => nomatch h), Le.refl _, fun _ => .inl rfl, h _, q⟩
/-- a row out of what is known of each of its elements -/
theorem list_choose {α : Type} [Inhabited α] {φ : Nat → α → Prop} : ∀ (n : Nat), (∀ i, i < n → ∃ x, φ i x) → ∃ l : List α, l.length = n ∧ ∀ i, i < n → φ i (l.getD i default)
  | 0, _ => ⟨[], rfl, fun i h => absurd h (Nat.not_lt_zero _)⟩
  | n + 1, h => by
    obtain ⟨l, h1, h2⟩ := list_choose n fun i hi => h i (by omega)
    obtain ⟨x, hx⟩ := h n (by omega)
    refine ⟨l ++ [x], by simp [h1], fun i hi => ?_⟩
    by_cases e : i < n
    · rw [List.getD_eq_getElem?_getD, List.getElem?_append_left (by omega), ← List.getD_eq_getElem?_getD]; exact h2 i e
    · have : i = n := by omega
      subst this
      rw [List.getD_eq_getElem?_getD, List.getElem?_append_right (by omega), h1]; simpa using hx
theorem wf_i64 {n : Int} (h : (Lit.int .i64 n).wf = true) : -9223372036854775808 ≤ n ∧ n ≤ 9223372036854775807 := by
  simp [Lit.wf, IntKind.min, IntKind.max, IntKind.signed, IntKind.bits] at h; omega
theorem wf_u8 {n : Int} (h : (Lit.int .u8 n).wf = true) : 0 ≤ n ∧ n < 256 := by
  simp [Lit.wf, IntKind.min, IntKind.max, IntKind.signed, IntKind.bits] at h; omega
/-- bytes -/
theorem Sh.bytes {H : Heap} {cs : List Value} (h : (Sh.slice 1 (.int .u8)).ok H cs) : ∃ a cap l, cs = [.slice a (List.length l) cap] ∧ (∀ c ∈ l, c < 256) ∧ l.length < 9223372036854775808 ∧ ∀ M, (SA none 1 (.slice a l.length cap) l.length (fun i => [.int .u8 ((l.getD i 0 : Nat) : Int)])).p H M := by
  obtain ⟨a, len, cap, row, rfl, h1, h2, h3, h4⟩ := h
  obtain ⟨l, rfl, hl⟩ := list_choose (α := Nat) (φ := fun i b => row i = [.int .u8 (b : Int)] ∧ b < 256) len fun i hi => by
    obtain ⟨n, h5, h6⟩ := h4 i hi
    have := wf_u8 h6
    exact ⟨n.toNat, by rw [h5, Int.toNat_of_nonneg this.1], by omega⟩
  have hm : maxLen = 9223372036854775807 := rfl
  refine ⟨a, cap, l, rfl, fun c hc => ?_, by omega, fun M => SA.cg _ (fun i hi => (hl i hi).1) H M (h3 M)⟩
  obtain ⟨i, hi, e⟩ := List.mem_iff_getElem.1 hc
  have := (hl i hi).2
  rw [List.getD_eq_getElem?_getD, List.getElem?_eq_getElem hi, Option.getD_some, e] at this
  exact this
/-- integers -/
theorem Sh.ints {H : Heap} {cs : List Value} (h : (Sh.slice 1 (.int .i64)).ok H cs) : ∃ a cap l, cs = [.slice a (List.length l) cap] ∧ (∀ q, q < l.length → -9223372036854775808 ≤ l.getD q (0 : Int) ∧ l.getD q 0 ≤ 9223372036854775807) ∧ l.length < 9223372036854775808 ∧ ∀ M, (SA none 1 (.slice a l.length cap) l.length (fun i => [.int .i64 (l.getD i 0)])).p H M := by
  obtain ⟨a, len, cap, row, rfl, h1, h2, h3, h4⟩ := h
  obtain ⟨l, rfl, hl⟩ := list_choose (α := Int) (φ := fun i b => row i = [.int .i64 b] ∧ (-9223372036854775808 ≤ b ∧ b ≤ 9223372036854775807)) len fun i hi => by
    obtain ⟨n, h5, h6⟩ := h4 i hi
    exact ⟨n, h5, wf_i64 h6⟩
  have hm : maxLen = 9223372036854775807 := rfl
  exact ⟨a, cap, l, rfl, fun q hq => (hl q hq).2, by omega, fun M => SA.cg _ (fun i hi => (hl i hi).1) H M (h3 M)⟩
end Go.Cam
