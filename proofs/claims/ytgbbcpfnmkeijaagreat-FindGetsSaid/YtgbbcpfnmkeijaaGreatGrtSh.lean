/- The law's trees: grown. -/
import Derived.Test.YtgbbcpfnmkeijaaGreatGrtBH
import Derived.Test.YtgbbcpfnmkeijaaGreatCamAP
import Derived.Test.YtgbbcpfnmkeijaaGreatRows
import Derived.Shelf.SlIterI.Nil
import Derived.Shelf.SortM.Plain
import Derived.Shelf.SortM.SortNone
import Derived.Ground.GgzProg
import Derived.Ground.SlgmProg
import Derived.Test.YtgbbcpfnmkeijaaGreatProg
namespace Go.Proofs.YtgbbcpfnmkeijaaGreat
open Go.Cam
set_option maxRecDepth 100000
/-- a tree that has just a row's items -/
def TreeOf (σ : Ct) (g : Int → Option (Node × Plc)) (root : Int) (l : List Item) : Prop :=
  (l = [] ∧ root = 0) ∨ (l ≠ [] ∧ root ≠ 0 ∧ ∃ h, h ≤ 2 ∧ Tr σ g h root ∧ WF g h root ∧ itemsT g h root = l)
structure GrS where
  h : Nat
  xs : List Node
  a : Option Addr
  c : Nat
  us : Nat → Plc
  σ : Ct
  g : Int → Option (Node × Plc)
  u : Nat
structure GrOk (l : List Item) (s : GrS) : Prop where
  lvl : Lvl s.σ s.g s.h s.xs l
  fre : Fre s.σ s.u
  pos : 0 < s.xs.length
  cnt : (s.h = 0 ∧ s.xs.length ≤ 50 ∧ s.u ≤ 0) ∨ (s.h = 1 ∧ s.xs.length ≤ 8 ∧ s.u ≤ 50) ∨ (s.h = 2 ∧ s.xs.length ≤ 1 ∧ s.u ≤ 58)
structure GiS where
  i : Nat
  ks : List Kid
  a : Option Addr
  c : Nat
  σ : Ct
  g : Int → Option (Node × Plc)
structure GiOk (l : List Item) (s : GrS) (q : GiS) : Prop where
  len : q.ks.length = q.i
  le : q.i ≤ s.xs.length
  kids : ∀ y ∈ q.ks, KidOk q.σ q.g s.h y
  cat : catK (itemsT q.g s.h) q.ks ++ (s.xs.drop q.i).flatMap (itemsX q.g s.h) = l
  good : ∀ x ∈ s.xs.drop q.i, Good q.σ q.g s.h x
  fre : Fre q.σ (s.u + q.i)
theorem GiOk.next {l : List Item} {s : GrS} {q : GiS} (h : GiOk l s q) (hi : q.i < s.xs.length) (i : Nat) (u : Plc) (a : Option Addr) (c : Nat) (hi1 : 8 ≤ i) (hi2 : i ≤ 8 + (s.u + q.i)) (hi3 : q.σ.now i = 0) (hu : s.u + q.i < 248) :
    GiOk l s ⟨q.i + 1, q.ks ++ [⟨(nkeys (s.xs.getD q.i default)).getD 0 default, (i : Int)⟩], a, c, { q.σ with now := nset q.σ.now i 1 }, gset q.g i (s.xs.getD q.i default, u)⟩ := by
  have hd : s.xs.drop q.i = s.xs.getD q.i default :: s.xs.drop (q.i + 1) := by rw [List.drop_eq_getElem_cons hi, getD_get hi]
  have hgood := h.good (s.xs.getD q.i default) (by rw [hd]; exact List.mem_cons_self ..)
  have hn := h.fre.n
  obtain ⟨l1, l2⟩ := hgood.lay i u hi3 (by omega) (by omega)
  have e := ext_lay (g := q.g) (s.xs.getD q.i default, u) hi3
  refine ⟨by simp [h.len], by dsimp only; omega, fun y hy => ?_, ?_, fun x hx => ?_, ?_⟩
  · rcases List.mem_append.1 hy with hy | hy
    · exact ((h.kids y hy).ext e).1
    · rw [List.mem_singleton] at hy; subst hy; exact l1
  · dsimp only
    have h1 := h.cat
    rw [hd, List.flatMap_cons] at h1
    rw [← h1]
    show List.flatMap _ (q.ks ++ [_]) ++ _ = _
    rw [List.flatMap_append, List.append_assoc]
    congr 1
    · exact flatMap_cg fun y hy => ((h.kids y hy).ext e).2
    · rw [List.flatMap_cons, List.flatMap_nil, List.append_nil, l2]
      congr 1
      exact flatMap_cg fun x hx => ((h.good x (by rw [hd]; exact List.mem_cons_of_mem _ hx)).ext e).2
  · exact ((h.good x (by rw [hd]; exact List.mem_cons_of_mem _ hx)).ext e).1
  · have := h.fre.next hi2
    rwa [Nat.add_assoc] at this
theorem kid_snoc (ks : List Kid) (y : Kid) (r : List Value) (hr : r = [.int .i64 y.key.obj, .int .i64 y.key.kind, .int .i64 y.key.off, .int .i64 y.addr]) (q : Nat) (hq : q < ks.length + 1) : rcat ks.length (kidRow ks) (fun _ => r) q = kidRow (ks ++ [y]) q := by
  unfold rcat kidRow
  by_cases h : q < ks.length
  · rw [if_pos h, getD_snoc_lt ks y h]
  · have : q = ks.length := by omega
    subst this
    rw [if_neg h, getD_snoc_eq, hr]
theorem GiOk.item {l : List Item} {s : GrS} {q : GiS} {x : Node} {r : List Node} (h : GiOk l s q) (hd : s.xs.drop q.i = x :: r) (k : Good q.σ q.g s.h x) : ∀ y ∈ x.items, y ∈ l := fun y hy => by
  have h1 := h.cat
  rw [← h1, hd, List.flatMap_cons]
  refine List.mem_append.2 (.inr (List.mem_append.2 (.inl ?_)))
  cases hh : s.h with
  | zero => exact hy
  | succ n =>
    have := (nodeOk_kids k.ok (by rw [k.lv, hh]; omega)).2.2
    rw [List.eq_nil_of_length_eq_zero this] at hy; cases hy
set_option maxHeartbeats 16000000 in
theorem grown_I (I : Ct → (Int → Option (Node × Plc)) → Prop) (hI0 : I (Ct.new (Dr.new 256).n) (fun _ => none)) {C : HP} [Per C] {la b : Option Addr} {lc d : Nat} {w : Nat → Option Addr × Nat} (l : List Item) (cs : List Int) [Rd C 1 (.slice b cs.length d) cs.length (pathR cs)] (hl : RowOk l) (hn : l.length ≤ 150) (hcn : cs.length < 9223372036854775808) (hr : ∀ q, q < cs.length → -9223372036854775808 ≤ cs.getD q 0 ∧ cs.getD q 0 ≤ 9223372036854775807)
    (hIs : ∀ σ g i x u h, I σ g → Good σ g h x → (∀ y ∈ x.items, y ∈ l) → 8 ≤ i → i < 256 → σ.n = 256 → σ.now i = 0 → I { σ with now := nset σ.now i 1 } (gset g i (x, u))) :
    Ctr Tryz.prog 15 [.slice la l.length lc, .slice b cs.length d] [SA none 4 (.slice la l.length lc) l.length (itemRow w l), IFam w l, C]
    (fun v Bs => ∃ p z σ g root, v = .tuple #[.pointer (some ⟨p, 0, none⟩), .pointer (some ⟨z.b, 0, none⟩), .int .i64 root] ∧ TreeOf σ g root l ∧ z.gen = 1 ∧ z.n = 256 ∧ σ.n = 256 ∧ I σ g ∧ Bs = [Po p z σ g, DrA z.b (Dr.new 256).fmt]) := by
  refine s_enter 83 [(0, _), (1, _)] (fun F => [_, _, _, F]) Tryz.func15 fun F => ?_
  refine go_ ?_
  refine s_call (sp := (by repeat (first | exact Split.nil | apply Split.perx (by repeat (first | with_reducible exact Sel.here | with_reducible apply Sel.there)) (by infer_instance) | apply Split.cons (by repeat (first | with_reducible exact Sel.here | with_reducible apply Sel.there))))) (hs := dnew_c 256 (by decide) (by decide)) (h := ?_)
  rintro v Bs ⟨rb, rfl, rfl⟩
  refine go_ ?_
  refine s_call (sp := (by repeat (first | exact Split.nil | apply Split.perx (by repeat (first | with_reducible exact Sel.here | with_reducible apply Sel.there)) (by infer_instance) | apply Split.cons (by repeat (first | with_reducible exact Sel.here | with_reducible apply Sel.there))))) (hs := pformat_c rb (Dr.new 256) ⟨rfl, by show (-1 : Int) < 0; decide⟩ (by decide) (by decide) (by decide)) (h := ?_)
  rintro v Bs ⟨p, bc, m, rfl, rfl⟩
  refine go_ ?_
  refine s_po (by repeat (first | with_reducible exact Sel.here | with_reducible apply Sel.there)) (by repeat (first | with_reducible exact Sel.here | with_reducible apply Sel.there)) (by repeat (first | with_reducible exact Sel.here | with_reducible apply Sel.there)) ?_
  refine go_ ?_
  refine s_call (sp := (by repeat (first | exact Split.nil | apply Split.perx (by repeat (first | with_reducible exact Sel.here | with_reducible apply Sel.there)) (by infer_instance) | apply Split.cons (by repeat (first | with_reducible exact Sel.here | with_reducible apply Sel.there))))) (hs := leaves_c (C := C) (a := la) (c := lc) (w := w) (b := b) (d := d) l cs (by omega) hcn hr) (h := ?_)
  rintro v Bs ⟨a2, c2, us, ps, hps, rfl, rfl⟩
  have hcnt : ps.length ≤ 50 := by
    rcases Nat.lt_or_ge 6 l.length with e | e
    · have := hps.cnt e; omega
    · have := hps.one e; omega
  have hnl := leafNodes_len l ps
  refine go_ ?_
  refine s_ieq (fun h0 => ?_) (fun h0 => ?_)
  · have e0 : l = [] := by
      rcases Nat.eq_zero_or_pos l.length with e | e
      · exact List.eq_nil_of_length_eq_zero e
      · have := hps.pos e; omega
    refine go_ ?_
    exact s_rett (rs := [.tmp 4, .tmp 5, .tmp 6]) (vs := [_, _, _]) Tryz.func15 rfl (by intro j; refine RVS.tmp _ rfl ?_; refine RVS.tmp _ rfl ?_; refine RVS.tmp _ rfl ?_; exact RVS.nil) rfl (⟨p, ⟨rb, 1, (Dr.new 256).n, bc, m⟩, _, _, 0, rfl, .inl ⟨e0, rfl⟩, rfl, rfl, rfl, hI0, rfl⟩) (by repeat (first | exact Ent.nil | refine Ent.per (by repeat (first | with_reducible exact Sel.here | with_reducible apply Sel.there)) ?_ | refine Ent.cons (by repeat (first | with_reducible exact Sel.here | with_reducible apply Sel.there)) ?_))
  have hl0 : l ≠ [] := fun e => by
    subst e
    have h1 := hps.cat
    cases hp : ps with
    | nil => rw [hp] at h0; exact h0 rfl
    | cons q r =>
      have := (hps.each q (by rw [hp]; exact List.mem_cons_self ..))
      have h2 : ([] : List Item).length = 0 := rfl
      omega
  refine go_ ?_
  refine s_loop (fun q : GrS => [(1, .slice b cs.length d), (7, .pointer (some ⟨rb, 0, none⟩)), (9, .pointer (some ⟨p, 0, none⟩)), (11, .slice q.a q.xs.length q.c), (12, .int .i64 (q.h + 1 : Nat))])
    (fun q => [Po p ⟨rb, 1, (Dr.new 256).n, bc, m⟩ q.σ q.g, DrA rb (Dr.new 256).fmt, C, NRow q.a q.c q.us q.xs, NFam q.us q.xs, F]) (fun s => GrOk l s ∧ I s.σ s.g) (fun q => 6 - q.h) ⟨0, leafNodes l ps, a2, c2, us, Ct.new (Dr.new 256).n, fun _ => none, 0⟩
    ⟨⟨leaf_lvl _ _ hl hps, Fre.new, by dsimp only; omega, .inl ⟨rfl, by dsimp only; omega, Nat.le_refl _⟩⟩, hI0⟩ (by repeat (first | exact Ent.nil | refine Ent.per (by repeat (first | with_reducible exact Sel.here | with_reducible apply Sel.there)) ?_ | refine Ent.cons (by repeat (first | with_reducible exact Sel.here | with_reducible apply Sel.there)) ?_)) ?_
  rintro s ⟨hs, hsI⟩ next
  have hh2 : s.h ≤ 2 := by rcases hs.cnt with h | h | h <;> omega
  have hx50 : s.xs.length ≤ 50 := by rcases hs.cnt with h | h | h <;> omega
  have hu58 : s.u + s.xs.length ≤ 60 := by rcases hs.cnt with h | h | h <;> omega
  refine go_ ?_
  refine s_if (p := ((s.h + 1 : Nat) : Int) < 6) (fun h1 => ?_) (fun h1 => (h1 (by omega)).elim)
  refine go_ ?_
  refine s_bs0 (sz := 4) (row := kidRow []) (fun a3 => ?_)
  refine s_open (B := SO 99 4 (.slice a3 ([] : List Kid).length 0) ([] : List Kid).length (kidRow [])) (SO.of) ?_
  refine go_ ?_
  refine s_loop (fun q : GiS => [(1, .slice b cs.length d), (7, .pointer (some ⟨rb, 0, none⟩)), (9, .pointer (some ⟨p, 0, none⟩)), (11, .slice s.a s.xs.length s.c), (12, .int .i64 (s.h + 1 : Nat)), (13, .slice q.a q.ks.length q.c), (14, .int .i64 q.i)])
    (fun q => [Po p ⟨rb, 1, (Dr.new 256).n, bc, m⟩ q.σ q.g, DrA rb (Dr.new 256).fmt, C, NRow s.a s.c s.us s.xs, NFam s.us s.xs, SO 99 4 (.slice q.a q.ks.length q.c) q.ks.length (kidRow q.ks), F]) (fun q => GiOk l s q ∧ I q.σ q.g) (fun q => s.xs.length - q.i) ⟨0, [], a3, 0, s.σ, s.g⟩
    ⟨⟨rfl, Nat.zero_le _, fun y hy => (nomatch hy), hs.lvl.cat, fun x hx => hs.lvl.good x hx, hs.fre⟩, hsI⟩ (by repeat (first | exact Ent.nil | refine Ent.per (by repeat (first | with_reducible exact Sel.here | with_reducible apply Sel.there)) ?_ | refine Ent.cons (by repeat (first | with_reducible exact Sel.here | with_reducible apply Sel.there)) ?_)) ?_
  rintro q ⟨hq, hqI⟩ next2
  have hql := hq.len
  have hqle := hq.le
  refine go_ ?_
  refine s_if (fun h2 => ?_) (fun h2 => ?_)
  · have hi : q.i < s.xs.length := by omega
    have hd : s.xs.drop q.i = s.xs.getD q.i default :: s.xs.drop (q.i + 1) := by rw [List.drop_eq_getElem_cons hi, getD_get hi]
    have hgood := hq.good (s.xs.getD q.i default) (by rw [hd]; exact List.mem_cons_self ..)
    obtain ⟨i, hf, i1, i2, i3⟩ := hq.fre.some (by omega)
    refine go_ ?_
    refine s_nget q.i (us := s.us) (xs := s.xs) (by repeat (first | with_reducible exact Sel.here | with_reducible apply Sel.there)) hi ?_
    refine s_call (sp := (by repeat (first | exact Split.nil | apply Split.perx (by repeat (first | with_reducible exact Sel.here | with_reducible apply Sel.there)) (by infer_instance) | apply Split.cons (by repeat (first | with_reducible exact Sel.here | with_reducible apply Sel.there))))) (hs := pputG_c p ⟨rb, 1, (Dr.new 256).n, bc, m⟩ (s.us q.i) hgood hf) (h := ?_)
    rintro v Bs ⟨u', rfl, rfl⟩
    refine go_ ?_
    refine s_call (sp := (by repeat (first | exact Split.nil | apply Split.perx (by repeat (first | with_reducible exact Sel.here | with_reducible apply Sel.there)) (by infer_instance) | apply Split.cons (by repeat (first | with_reducible exact Sel.here | with_reducible apply Sel.there))))) (hs := rleast_c (s.xs.getD q.i default) (s.us q.i) hgood.hs hgood.nkeys_pos) (h := ?_)
    rintro v Bs ⟨rfl, rfl⟩
    refine go_ ?_
    refine s_step (st_bs1 (sz := 4) (cells := [.int .i64 ((nkeys (s.xs.getD q.i default)).getD 0 default).obj, .int .i64 ((nkeys (s.xs.getD q.i default)).getD 0 default).kind, .int .i64 ((nkeys (s.xs.getD q.i default)).getD 0 default).off, .int .i64 (i : Nat)]) rfl) ?_
    rintro _ _ ⟨a4, rfl, rfl⟩
    refine go_ ?_
    refine s_step (st_appO (a := q.a) (len := q.ks.length) (cap := q.c) (b := a4) (m := 1) (c := 1) (by repeat (first | with_reducible exact Sel.here | with_reducible apply Sel.there)) (by repeat (first | with_reducible exact SelR.here | with_reducible apply SelR.there)) (by rw [flat_one]; rfl)) ?_
    rintro _ _ ⟨a5, c5, rfl, rfl⟩
    refine s_open (SO.cg (kidRow (q.ks ++ [⟨(nkeys (s.xs.getD q.i default)).getD 0 default, (i : Int)⟩])) (kid_snoc q.ks ⟨(nkeys (s.xs.getD q.i default)).getD 0 default, (i : Int)⟩ _ rfl)) ?_
    refine go_ ?_
    rw [show q.ks.length + 1 = (q.ks ++ [(⟨(nkeys (s.xs.getD q.i default)).getD 0 default, (i : Int)⟩ : Kid)]).length by simp]
    exact s_entF (by repeat (first | exact Ent.nil | refine Ent.per (by repeat (first | with_reducible exact Sel.here | with_reducible apply Sel.there)) ?_ | refine Ent.cons (by repeat (first | with_reducible exact Sel.here | with_reducible apply Sel.there)) ?_)) (s_keep _ (next2 ⟨q.i + 1, q.ks ++ [⟨(nkeys (s.xs.getD q.i default)).getD 0 default, (i : Int)⟩], a5, c5, _, gset q.g i (s.xs.getD q.i default, u')⟩ ⟨hq.next hi i u' a5 c5 i1 i2 i3 (by omega), hIs q.σ q.g i _ u' s.h hqI hgood (hq.item hd hgood) i1 (by omega) hq.fre.n i3⟩ (by dsimp only; omega)))
  · have e : q.i = s.xs.length := by omega
    have hcat := hq.cat
    rw [e, List.drop_length, List.flatMap_nil, List.append_nil] at hcat
    refine go_ ?_
    refine s_ieq (fun h3 => ?_) (fun h3 => ?_)
    · have h4 : q.ks.length = 1 := by omega
      have hK := hq.kids (q.ks.getD 0 default) (getD_mem (by omega))
      have hT : itemsT q.g s.h (q.ks.getD 0 default).addr = l := by
        rw [← hcat]
        cases hk : q.ks with
        | nil => rw [hk] at h4; cases h4
        | cons y r => cases r with
          | nil => simp [catK, List.getD_eq_getElem?_getD]
          | cons z r => rw [hk] at h4; simp at h4
      refine go_ ?_
      refine s_drawN 0 [.q 0, .q 1, .q 2, .q 3, .q 4, .q 5, .q 6, .q 7, .q 8] ?_
      refine do_ ?_
      refine d_look rfl (lk_ixz 0 (m := q.ks.length) (v := .slice q.a q.ks.length q.c) (z := 0) (by repeat (first | with_reducible exact SelR.here | with_reducible apply SelR.there))) ?_
      refine do_ ?_
      refine go_ ?_
      exact s_rett (rs := [.tmp 4, .tmp 5, .tmp 6]) (vs := [_, _, _]) Tryz.func15 rfl (by intro j; refine RVS.tmp _ rfl ?_; refine RVS.tmp _ rfl ?_; refine RVS.tmp _ rfl ?_; exact RVS.nil) rfl (⟨p, ⟨rb, 1, (Dr.new 256).n, bc, m⟩, q.σ, q.g, (q.ks.getD 0 default).addr, rfl, .inr ⟨hl0, by have := hK.ad; omega, s.h, hh2, hK.tr, hK.wf, hT⟩, rfl, rfl, hq.fre.n, hqI, rfl⟩) (by repeat (first | exact Ent.nil | refine Ent.per (by repeat (first | with_reducible exact Sel.here | with_reducible apply Sel.there)) ?_ | refine Ent.cons (by repeat (first | with_reducible exact Sel.here | with_reducible apply Sel.there)) ?_))
    · have h5 : 2 ≤ q.ks.length := by have := hs.pos; omega
      refine go_ ?_
      refine s_fzO (e := 99) (v := .slice q.a q.ks.length q.c) (by repeat (first | with_reducible exact Sel.here | with_reducible apply Sel.there)) ?_
      refine s_call (sp := (by repeat (first | exact Split.nil | apply Split.perx (by repeat (first | with_reducible exact Sel.here | with_reducible apply Sel.there)) (by infer_instance) | apply Split.cons (by repeat (first | with_reducible exact Sel.here | with_reducible apply Sel.there))))) (hs := inner_c (C := C) (a := q.a) (c := q.c) (b := b) (d := d) q.ks ((s.h + 1 : Nat) : Int) cs (by omega) (by omega) hcn hr) (h := ?_)
      rintro v Bs ⟨a6, c6, us6, ps6, hp6, rfl, rfl⟩
      have hL := inn_lvl hl hq.kids hcat hp6 h5 (by omega)
      have hpl : 0 < ps6.length := hp6.pos (by omega)
      have hil := innNodes_len ((s.h + 1 : Nat) : Int) q.ks ps6
      refine go_ ?_
      have hcnt2 : (s.h + 1 = 0 ∧ (innNodes ((s.h + 1 : Nat) : Int) q.ks ps6).length ≤ 50 ∧ s.u + q.i ≤ 0) ∨ (s.h + 1 = 1 ∧ (innNodes ((s.h + 1 : Nat) : Int) q.ks ps6).length ≤ 8 ∧ s.u + q.i ≤ 50) ∨ (s.h + 1 = 2 ∧ (innNodes ((s.h + 1 : Nat) : Int) q.ks ps6).length ≤ 1 ∧ s.u + q.i ≤ 58) := by
        rcases Nat.lt_or_ge 12 q.ks.length with e1 | e1
        · have := hp6.cnt e1
          rcases hs.cnt with h | h | h
          · exact .inr (.inl ⟨by omega, by omega, by omega⟩)
          · exact .inr (.inr ⟨by omega, by omega, by omega⟩)
          · omega
        · have := hp6.one e1
          rcases hs.cnt with h | h | h
          · exact .inr (.inl ⟨by omega, by omega, by omega⟩)
          · exact .inr (.inr ⟨by omega, by omega, by omega⟩)
          · omega
      exact s_entF (by repeat (first | exact Ent.nil | refine Ent.per (by repeat (first | with_reducible exact Sel.here | with_reducible apply Sel.there)) ?_ | refine Ent.cons (by repeat (first | with_reducible exact Sel.here | with_reducible apply Sel.there)) ?_)) (s_keep _ (next ⟨s.h + 1, innNodes ((s.h + 1 : Nat) : Int) q.ks ps6, a6, c6, us6, q.σ, q.g, s.u + q.i⟩ ⟨⟨hL, hq.fre, by dsimp only; omega, hcnt2⟩, hqI⟩ (by dsimp only; omega)))
theorem grown_c {C : HP} [Per C] {la b : Option Addr} {lc d : Nat} {w : Nat → Option Addr × Nat} (l : List Item) (cs : List Int) [Rd C 1 (.slice b cs.length d) cs.length (pathR cs)] (hl : RowOk l) (hn : l.length ≤ 150) (hcn : cs.length < 9223372036854775808) (hr : ∀ q, q < cs.length → -9223372036854775808 ≤ cs.getD q 0 ∧ cs.getD q 0 ≤ 9223372036854775807) :
    Ctr Tryz.prog 15 [.slice la l.length lc, .slice b cs.length d] [SA none 4 (.slice la l.length lc) l.length (itemRow w l), IFam w l, C]
    (fun v Bs => ∃ p z σ g root, v = .tuple #[.pointer (some ⟨p, 0, none⟩), .pointer (some ⟨z.b, 0, none⟩), .int .i64 root] ∧ TreeOf σ g root l ∧ Bs = [Po p z σ g, DrA z.b (Dr.new 256).fmt]) :=
  Ctr.post (grown_I (fun _ _ => True) trivial (C := C) l cs hl hn hcn hr fun _ _ _ _ _ _ _ _ _ _ _ _ _ => trivial) fun v Bs ⟨p, z, σ, g, root, h1, h2, _, _, _, _, h3⟩ => ⟨Bs, ⟨p, z, σ, g, root, h1, h2, h3⟩, fun _ _ q => q⟩
end Go.Proofs.YtgbbcpfnmkeijaaGreat
/- find's Get, Scan, Height, Path of a tree that has just a row's items. -/
namespace Go.Proofs.YtgbbcpfnmkeijaaGreat
open Go.Cam
set_option maxRecDepth 100000
theorem emp_row {w : Nat → Option Addr × Nat} (H M : Heap) : (Sat [IRow none 0 w [], IFam w []]).p H M :=
  ⟨fun _ => none, M, (fun _ _ h => nomatch h), Le.refl _, fun _ => .inl rfl, .inr ⟨rfl, none, rfl⟩, per_add (M0 := M) (fun i hi => absurd hi (Nat.not_lt_zero _)) trivial⟩
theorem pow13 {h : Nat} (hh : h ≤ 2) : 13 ^ (h + 1) < 800000 := Nat.lt_of_le_of_lt (Nat.pow_le_pow_right (by decide) (show h + 1 ≤ 3 by omega)) (by decide)
theorem pick_empty {fr to : Key} {most : Int} {l : List Item} (h : l = [] ∨ most < 1) : pick fr to most l [] = [] := by
  rcases h with rfl | h
  · exact pick_nil fr to most []
  · exact pick_full (by simp; omega)
theorem tscan_c (p : Nat) (z : PoZ) {σ : Ct} {g : Int → Option (Node × Plc)} {root : Int} {l : List Item} (fr to : Key) (most : Int) (ht : TreeOf σ g root l) (hr : Ris l) : Ctr Tryz.prog 20 [.pointer (some ⟨p, 0, none⟩), .int .i64 root, fr.v, to.v, .int .i64 most] [Po p z σ g]
    (fun v Bs => ∃ a c w, v = .tuple #[.slice a (pick fr to most l []).length c, .int .i64 0] ∧ Bs = [Po p z σ g, IRow a c w (pick fr to most l []), IFam w (pick fr to most l [])]) := by
  by_cases h0 : root = 0 ∨ most < 1
  · have e : pick fr to most l [] = [] := by
      refine pick_empty ?_
      rcases h0 with h0 | h0
      · rcases ht with ⟨h1, _⟩ | ⟨_, h2, _⟩
        · exact .inl h1
        · exact absurd h0 h2
      · exact .inr h0
    rw [e]
    refine Ctr.post ((scanNone_c p root fr to most h0).frame [Po p z σ g]) fun v Bs ⟨Cs, ⟨hv, hc⟩, hb⟩ => ⟨_, ⟨none, 0, fun _ => (none, 0), hv, rfl⟩, fun H M q => ?_⟩
    subst hc; subst hb
    exact star_mono (fun H M _ => emp_row H M) q
  · have h1 : root ≠ 0 := fun e => h0 (.inl e)
    have h2 : 1 ≤ most := by
      have : ¬ most < 1 := fun e => h0 (.inr e)
      omega
    rcases ht with ⟨_, h3⟩ | ⟨_, _, h, hh, t, w, e⟩
    · exact absurd h3 h1
    · have hp := scan_pick g fr to most h root [] w (by rw [e]; exact hr)
      rw [e] at hp
      have := scan_c p z σ g root fr to most h t h1 h2 (pow13 hh)
      rw [hp] at this
      exact this
theorem tget_c (p : Nat) (z : PoZ) {σ : Ct} {g : Int → Option (Node × Plc)} {root : Int} {l : List Item} (key : Key) (ht : TreeOf σ g root l) (hr : Ris l) : Ctr Tryz.prog 17 [.pointer (some ⟨p, 0, none⟩), .int .i64 root, key.v] [Po p z σ g]
    (fun v Bs => (getT l key = none ∧ v = .tuple #[.slice none 0 0, .int .i64 10] ∧ Bs = [Po p z σ g]) ∨ (∃ x a c, getT l key = some x ∧ v = .tuple #[.slice a x.val.length c, .int .i64 0] ∧ Bs = [Po p z σ g, BS (.slice a x.val.length c) x.val])) := by
  rcases ht with ⟨h1, h2⟩ | ⟨_, h1, h, hh, t, w, e⟩
  · refine Ctr.post ((get0_c p root key h2).frame [Po p z σ g]) fun v Bs ⟨Cs, ⟨hv, hc⟩, hb⟩ => ⟨_, .inl ⟨by rw [h1]; rfl, hv, rfl⟩, fun H M q => ?_⟩
    subst hc; subst hb
    exact q
  · have hp := getT_tree g key h root w (by rw [e]; exact hr)
    rw [e] at hp
    refine Ctr.post (get_c p z σ g root key h t h1 (by omega)) fun v Bs q => ⟨Bs, ?_, fun _ _ q => q⟩
    rcases q with ⟨q1, q2, q3⟩ | ⟨q1, a, c, q2, q3⟩
    · rw [q1, if_neg (by simp)] at hp
      exact .inl ⟨hp, q2, q3⟩
    · rw [q1, if_pos rfl] at hp
      exact .inr ⟨_, a, c, hp, q2, q3⟩
theorem pick_sub (fr to : Key) (most : Int) (l : List Item) : (pick fr to most l []).Sublist l := by
  unfold pick
  rw [List.nil_append]
  exact (List.take_sublist _ _).trans (List.filter_sublist ..)
theorem Key.ok_iff (k : Key) : k.ok = true ↔ 0 ≤ k.obj ∧ 0 ≤ k.kind ∧ 0 ≤ k.off ∧ k.obj ≤ 2147483647 ∧ k.kind ≤ 255 ∧ k.off ≤ 2147483647 := by simp [Key.ok]
theorem P_all {k : Key} (h : k.ok = true) : rscanP ⟨0, 0, 0⟩ ⟨2147483647, 255, 2147483647⟩ k = true := by
  rw [Key.ok_iff] at h
  refine P_of ?_ ?_
  · cases e : k.lt ⟨0, 0, 0⟩ with
    | false => rfl
    | true => rw [Key.lt_iff] at e; dsimp only at e; omega
  · cases e : Key.lt ⟨2147483647, 255, 2147483647⟩ k with
    | false => rfl
    | true => rw [Key.lt_iff] at e; dsimp only at e; omega
theorem pick_all {l : List Item} (h : RowOk l) (most : Int) (hm : (l.length : Int) ≤ most) : pick ⟨0, 0, 0⟩ ⟨2147483647, 255, 2147483647⟩ most l [] = l := by
  unfold pick
  rw [List.filter_eq_self.2 fun x hx => P_all (h.ok x hx).1, List.nil_append]
  exact List.take_of_length_le (by simp; omega)
theorem RowOk.bys {l : List Item} (h : RowOk l) : ∀ x ∈ l, Bys x.val ∧ x.val.length < 1000000 := fun x hx => ⟨(h.ok x hx).2.2, by have := (h.ok x hx).2.1; omega⟩
theorem RowOk.sub {l m : List Item} (h : RowOk l) (hs : m.Sublist l) : RowOk m := ⟨h.ris.sublist hs, fun x hx => h.ok x (hs.subset hx)⟩
end Go.Proofs.YtgbbcpfnmkeijaaGreat
/- FindScans. -/
namespace Go.Proofs.YtgbbcpfnmkeijaaGreat
open Go.Cam
set_option maxRecDepth 100000
/-- what a World's value hands over -/
structure Wrld where
  l : List Item
  a : Option Addr
  c : Nat
  w : Nat → Option Addr × Nat
  cs : List Int
  b : Option Addr
  d : Nat
abbrev Wrld.v (x : Wrld) : Value := .agg #[.slice x.a x.l.length x.c, .slice x.b x.cs.length x.d]
abbrev Wrld.A (x : Wrld) : HP := SA none 4 (.slice x.a x.l.length x.c) x.l.length (itemRow x.w x.l)
abbrev Wrld.C (x : Wrld) : HP := SA none 1 (.slice x.b x.cs.length x.d) x.cs.length (pathR x.cs)
structure Wrld.ok (x : Wrld) : Prop where
  n : x.l.length < 9223372036854775808
  b : ∀ y ∈ x.l, Bys y.val
  m : x.cs.length < 9223372036854775808
  r : ∀ q, q < x.cs.length → -9223372036854775808 ≤ x.cs.getD q 0 ∧ x.cs.getD q 0 ≤ 9223372036854775807
end Go.Proofs.YtgbbcpfnmkeijaaGreat
/- What is handed in, as items, keys and worlds. -/
namespace Go.Proofs.YtgbbcpfnmkeijaaGreat
open Go.Cam
set_option maxRecDepth 100000
def keySh : Sh := .cat (.int .i64) (.cat (.int .i64) (.cat (.int .i64) .emp))
def itemSh : Sh := .cat keySh (.cat (.slice 1 (.int .u8)) .emp)
def worldSh : Sh := .cat (.slice 4 itemSh) (.cat (.slice 1 (.int .i64)) .emp)
structure Key.i64 (k : Key) : Prop where
  a : -9223372036854775808 ≤ k.obj ∧ k.obj ≤ 9223372036854775807
  b : -9223372036854775808 ≤ k.kind ∧ k.kind ≤ 9223372036854775807
  c : -9223372036854775808 ≤ k.off ∧ k.off ≤ 9223372036854775807
theorem key_of {H : Heap} {cs : List Value} (h : keySh.ok H cs) : ∃ k : Key, cs = k.row ∧ k.i64 := by
  obtain ⟨_, _, rfl, ⟨a, rfl, ha⟩, _, _, rfl, ⟨b, rfl, hb⟩, _, _, rfl, ⟨c, rfl, hc⟩, rfl⟩ := h
  exact ⟨⟨a, b, c⟩, rfl, wf_i64 ha, wf_i64 hb, wf_i64 hc⟩
theorem item_of {H : Heap} {cs : List Value} (h : itemSh.ok H cs) : ∃ x : Item × (Option Addr × Nat), cs = [.int .i64 x.1.key.obj, .int .i64 x.1.key.kind, .int .i64 x.1.key.off, .slice x.2.1 x.1.val.length x.2.2] ∧ Bys x.1.val ∧ ∀ M, (BS (.slice x.2.1 x.1.val.length x.2.2) x.1.val).p H M := by
  obtain ⟨_, _, rfl, hk, _, _, rfl, hb, rfl⟩ := h
  obtain ⟨k, rfl, _⟩ := key_of hk
  obtain ⟨a, c, l, rfl, h1, h2, h3⟩ := Sh.bytes hb
  exact ⟨(⟨k, l⟩, (a, c)), rfl, h1, h3⟩
theorem items_of {H : Heap} {cs : List Value} (h : (Sh.slice 4 itemSh).ok H cs) : ∃ a c w, ∃ l : List Item, cs = [.slice a l.length c] ∧ l.length < 9223372036854775808 ∧ (∀ x ∈ l, Bys x.val) ∧ ∀ M, (SA none 4 (.slice a l.length c) l.length (itemRow w l)).p H M ∧ (IFam w l).p H M := by
  obtain ⟨a, len, cap, row, rfl, h1, h2, h3, h4⟩ := h
  have hm : maxLen = 9223372036854775807 := rfl
  haveI : Inhabited (Item × (Option Addr × Nat)) := ⟨(default, (none, 0))⟩
  obtain ⟨xs, rfl, hxs⟩ := list_choose len fun i hi => item_of (h4 i hi)
  have hd : ∀ i, i < xs.length → (xs.map (·.1)).getD i default = (xs.getD i default).1 := fun i hi => by simp [List.getD_eq_getElem?_getD, hi]
  refine ⟨a, cap, fun i => (xs.getD i default).2, xs.map (·.1), by simp, by simp; omega, fun x hx => ?_, fun M => ⟨?_, fun i hi => ?_⟩⟩
  · obtain ⟨y, hy, rfl⟩ := List.mem_map.1 hx
    obtain ⟨i, hi, rfl⟩ := List.mem_iff_getElem.1 hy
    have := (hxs i hi).2.1
    rwa [getD_get hi] at this
  · rw [List.length_map]
    exact SA.cg _ (fun i hi => by rw [(hxs i hi).1]; unfold itemRow; rw [hd i hi]) H M (h3 M)
  · rw [List.length_map] at hi
    show (itemFam _ _ i).p H M
    unfold itemFam
    rw [hd i hi]
    exact (hxs i hi).2.2 M
theorem world_of {H : Heap} {cs : List Value} (h : worldSh.ok H cs) : ∃ x : Wrld, cs.toArray = #[.slice x.a x.l.length x.c, .slice x.b x.cs.length x.d] ∧ x.ok ∧ ∀ M, x.A.p H M ∧ (IFam x.w x.l).p H M ∧ x.C.p H M := by
  obtain ⟨_, _, rfl, hl, _, _, rfl, hc, rfl⟩ := h
  obtain ⟨a, c, w, l, rfl, h1, h2, h3⟩ := items_of hl
  obtain ⟨b, d, zs, rfl, h4, h5, h6⟩ := Sh.ints hc
  exact ⟨⟨l, a, c, w, zs, b, d⟩, rfl, ⟨h1, h2, h5, h4⟩, fun M => ⟨(h3 M).1, (h3 M).2, h6 M⟩⟩
end Go.Proofs.YtgbbcpfnmkeijaaGreat
/- What the ties of the laws of find in this seat need. -/
namespace Go.Proofs.YtgbbcpfnmkeijaaGreat
open Go.Cam
set_option maxRecDepth 100000
theorem Tryz.own : ownKnob Tryz.prog.godebug = none := by kernel_rfl
theorem Tryz.laidOut : laidOutB Tryz.prog = true := by kernel_rfl
end Go.Proofs.YtgbbcpfnmkeijaaGreat
/- The numbers at which the library's contracts of maps.Keys, slices.Sorted and slices.Sort stand in this program (printed by the kit's tool). -/
namespace Go.Proofs.YtgbbcpfnmkeijaaGreat
open Go.Shelf
def Tryz.keysA_ren : Go.Shelf.Ren := ⟨fun | 7 => 42 | 10 => 80 | n => n, fun | 23 => 81 | 26 => 3 | 3 => 90 | 28 => 103 | 0 => 0 | 27 => 102 | 33 => 118 | 4 => 4 | n => n, fun | n => n⟩
theorem Tryz.keysA : Go.Proofs.SlLaysZI.n7 Tryz.prog Tryz.keysA_ren := {
  mixed := by kernel_rfl
  f7 := ⟨Tryz.f42.name, by decide, Tryz.func42.trans (congrArg some (by kernel_rfl))⟩
  f10 := ⟨Tryz.f80.name, by decide, Tryz.func80.trans (congrArg some (by kernel_rfl))⟩
  t0 := Tryz.underlying0
  a0 := Tryz.isAgg0
  z0 := Tryz.sizeOf0
  v0 := Tryz.zeroValue0
  t4 := Tryz.underlying4
  a4 := Tryz.isAgg4
  z4 := Tryz.sizeOf4
  v4 := Tryz.zeroValue4
  t23 := Tryz.underlying81
  a23 := Tryz.isAgg81
  z23 := Tryz.sizeOf81
  v23 := Tryz.zeroValue81
  t26 := Tryz.underlying3
  a26 := Tryz.isAgg3
  z26 := Tryz.sizeOf3
  v26 := Tryz.zeroValue3
  t27 := Tryz.underlying102
  a27 := Tryz.isAgg102
  z27 := Tryz.sizeOf102
  v27 := Tryz.zeroValue102
  t28 := Tryz.underlying103
  a28 := Tryz.isAgg103
  z28 := Tryz.sizeOf103
  v28 := Tryz.zeroValue103
  t33 := Tryz.underlying118
  a33 := Tryz.isAgg118
  z33 := Tryz.sizeOf118
  v33 := Tryz.zeroValue118 }
def Tryz.sortedA_ren : Go.Shelf.Ren := ⟨fun | 6 => 41 | 8 => 78 | 9 => 79 | 11 => 109 | 13 => 111 | 12 => 110 | 23 => 130 | 24 => 131 | 14 => 121 | 15 => 122 | 16 => 123 | 17 => 124 | 18 => 125 | 19 => 126 | 20 => 127 | 21 => 128 | 22 => 129 | 25 => 136 | 26 => 137 | 27 => 138 | 28 => 139 | 29 => 140 | 30 => 114 | 31 => 142 | n => n, fun | 26 => 3 | 28 => 103 | 24 => 31 | 0 => 0 | 3 => 3 | 37 => 185 | 48 => 155 | 50 => 188 | 4 => 4 | 40 => 200 | 39 => 199 | 45 => 116 | 5 => 5 | 9 => 9 | 51 => 215 | 55 => 219 | 57 => 222 | 58 => 135 | 33 => 118 | n => n, fun | n => n⟩
theorem Tryz.sortedA : Go.Proofs.SlLaysZI.n6 Tryz.prog Tryz.sortedA_ren := {
  mixed := by kernel_rfl
  f6 := ⟨Tryz.f41.name, by decide, Tryz.func41.trans (congrArg some (by kernel_rfl))⟩
  f8 := ⟨Tryz.f78.name, by decide, Tryz.func78.trans (congrArg some (by kernel_rfl))⟩
  f11 := ⟨Tryz.f109.name, by decide, Tryz.func109.trans (congrArg some (by kernel_rfl))⟩
  t0 := Tryz.underlying0
  a0 := Tryz.isAgg0
  z0 := Tryz.sizeOf0
  v0 := Tryz.zeroValue0
  t24 := Tryz.underlying31
  a24 := Tryz.isAgg31
  z24 := Tryz.sizeOf31
  v24 := Tryz.zeroValue31
  t26 := Tryz.underlying3
  a26 := Tryz.isAgg3
  z26 := Tryz.sizeOf3
  v26 := Tryz.zeroValue3
  t28 := Tryz.underlying103
  a28 := Tryz.isAgg103
  z28 := Tryz.sizeOf103
  v28 := Tryz.zeroValue103
  i26 := by kernel_rfl }
def Tryz.sortA_ren : Go.Shelf.Ren := ⟨fun | 5 => 79 | 8 => 111 | 7 => 110 | 19 => 130 | 20 => 131 | 10 => 121 | 11 => 122 | 12 => 123 | 13 => 124 | 14 => 125 | 15 => 126 | 16 => 127 | 17 => 128 | 18 => 129 | 30 => 136 | 31 => 137 | 32 => 138 | 33 => 139 | 34 => 140 | 35 => 114 | 40 => 142 | n => n, fun | 23 => 31 | 25 => 3 | 3 => 3 | 32 => 185 | 22 => 31 | 0 => 0 | 44 => 155 | 46 => 188 | 4 => 4 | 36 => 200 | 35 => 199 | 41 => 116 | 5 => 5 | 9 => 9 | 53 => 215 | 57 => 219 | 63 => 222 | 64 => 135 | n => n, fun | n => n⟩
theorem Tryz.sortA : Go.Proofs.SlLaysM.n5 Tryz.prog Tryz.sortA_ren := {
  mixed := by kernel_rfl
  f5 := ⟨Tryz.f79.name, by decide, Tryz.func79.trans (congrArg some (by kernel_rfl))⟩
  f7 := ⟨Tryz.f110.name, by decide, Tryz.func110.trans (congrArg some (by kernel_rfl))⟩
  f8 := Tryz.func111.trans (congrArg some (by kernel_rfl))
  f10 := ⟨Tryz.f121.name, by decide, Tryz.func121.trans (congrArg some (by kernel_rfl))⟩
  f11 := ⟨Tryz.f122.name, by decide, Tryz.func122.trans (congrArg some (by kernel_rfl))⟩
  f12 := ⟨Tryz.f123.name, by decide, Tryz.func123.trans (congrArg some (by kernel_rfl))⟩
  f13 := ⟨Tryz.f124.name, by decide, Tryz.func124.trans (congrArg some (by kernel_rfl))⟩
  f14 := ⟨Tryz.f125.name, by decide, Tryz.func125.trans (congrArg some (by kernel_rfl))⟩
  f15 := ⟨Tryz.f126.name, by decide, Tryz.func126.trans (congrArg some (by kernel_rfl))⟩
  f16 := ⟨Tryz.f127.name, by decide, Tryz.func127.trans (congrArg some (by kernel_rfl))⟩
  f17 := ⟨Tryz.f128.name, by decide, Tryz.func128.trans (congrArg some (by kernel_rfl))⟩
  f18 := ⟨Tryz.f129.name, by decide, Tryz.func129.trans (congrArg some (by kernel_rfl))⟩
  f19 := Tryz.func130.trans (congrArg some (by kernel_rfl))
  f20 := Tryz.func131.trans (congrArg some (by kernel_rfl))
  f30 := ⟨Tryz.f136.name, by decide, Tryz.func136.trans (congrArg some (by kernel_rfl))⟩
  f31 := Tryz.func137.trans (congrArg some (by kernel_rfl))
  f32 := Tryz.func138.trans (congrArg some (by kernel_rfl))
  f33 := ⟨Tryz.f139.name, by decide, Tryz.func139.trans (congrArg some (by kernel_rfl))⟩
  f34 := ⟨Tryz.f140.name, by decide, Tryz.func140.trans (congrArg some (by kernel_rfl))⟩
  f35 := ⟨Tryz.f114.name, by decide, Tryz.func114.trans (congrArg some (by kernel_rfl))⟩
  f40 := ⟨Tryz.f142.name, by decide, Tryz.func142.trans (congrArg some (by kernel_rfl))⟩
  t0 := Tryz.underlying0
  a0 := Tryz.isAgg0
  z0 := Tryz.sizeOf0
  v0 := Tryz.zeroValue0
  t3 := Tryz.underlying3
  a3 := Tryz.isAgg3
  z3 := Tryz.sizeOf3
  v3 := Tryz.zeroValue3
  t4 := Tryz.underlying4
  a4 := Tryz.isAgg4
  z4 := Tryz.sizeOf4
  v4 := Tryz.zeroValue4
  t5 := Tryz.underlying5
  a5 := Tryz.isAgg5
  z5 := Tryz.sizeOf5
  v5 := Tryz.zeroValue5
  t9 := Tryz.underlying9
  a9 := Tryz.isAgg9
  z9 := Tryz.sizeOf9
  v9 := Tryz.zeroValue9
  t22 := Tryz.underlying31
  a22 := Tryz.isAgg31
  z22 := Tryz.sizeOf31
  v22 := Tryz.zeroValue31
  t23 := Tryz.underlying31
  a23 := Tryz.isAgg31
  z23 := Tryz.sizeOf31
  v23 := Tryz.zeroValue31
  t25 := Tryz.underlying3
  a25 := Tryz.isAgg3
  z25 := Tryz.sizeOf3
  v25 := Tryz.zeroValue3
  t32 := Tryz.underlying185
  a32 := Tryz.isAgg185
  z32 := Tryz.sizeOf185
  v32 := Tryz.zeroValue185
  t35 := Tryz.underlying199
  a35 := Tryz.isAgg199
  z35 := Tryz.sizeOf199
  v35 := Tryz.zeroValue199
  t36 := Tryz.underlying200
  a36 := Tryz.isAgg200
  z36 := Tryz.sizeOf200
  v36 := Tryz.zeroValue200
  t41 := Tryz.underlying116
  a41 := Tryz.isAgg116
  z41 := Tryz.sizeOf116
  v41 := Tryz.zeroValue116
  t44 := Tryz.underlying155
  a44 := Tryz.isAgg155
  z44 := Tryz.sizeOf155
  v44 := Tryz.zeroValue155
  t46 := Tryz.underlying188
  a46 := Tryz.isAgg188
  z46 := Tryz.sizeOf188
  v46 := Tryz.zeroValue188
  t53 := Tryz.underlying215
  a53 := Tryz.isAgg215
  z53 := Tryz.sizeOf215
  v53 := Tryz.zeroValue215
  t57 := Tryz.underlying219
  a57 := Tryz.isAgg219
  z57 := Tryz.sizeOf219
  v57 := Tryz.zeroValue219
  t63 := Tryz.underlying222
  a63 := Tryz.isAgg222
  z63 := Tryz.sizeOf222
  v63 := Tryz.zeroValue222
  t64 := Tryz.underlying135
  a64 := Tryz.isAgg135
  z64 := Tryz.sizeOf135
  v64 := Tryz.zeroValue135 }
end Go.Proofs.YtgbbcpfnmkeijaaGreat
