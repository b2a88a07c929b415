/- Rows of nodes; the reference's Leaves. -/
import Derived.Test.YtgbbcpfnmkeijaaGreatGrtBD
namespace Go.Proofs.YtgbbcpfnmkeijaaGreat
open Go.Cam
set_option maxRecDepth 100000
instance : Inhabited Node := ⟨⟨0, [], []⟩⟩
instance : Inhabited Plc := ⟨⟨none, 0, none, 0, fun _ => (none, 0)⟩⟩
abbrev nodeRow (us : Nat → Plc) (xs : List Node) (i : Nat) : List Value := [.int .i64 (xs.getD i default).level, .slice (us i).a (xs.getD i default).items.length (us i).c, .slice (us i).b (xs.getD i default).kids.length (us i).d]
def NdA (x : Node) (u : Plc) : HP := ⟨fun H M => (Nd1 x u).p H M ∧ (Nd2 x u).p H M ∧ (Nd3 x u).p H M, fun h1 h2 h => ⟨(Nd1 x u).mono h1 h2 h.1, (Nd2 x u).mono h1 h2 h.2.1, (Nd3 x u).mono h1 h2 h.2.2⟩⟩
instance {x : Node} {u : Plc} : Per (NdA x u) := ⟨fun h => ⟨(perNd1 x u).h h.1, (perNd2 x u).h h.2.1, (perNd3 x u).h h.2.2⟩⟩
abbrev NRow (a : Option Addr) (c : Nat) (us : Nat → Plc) (xs : List Node) : HP := SO 88 3 (.slice a xs.length c) xs.length (nodeRow us xs)
def NFam (us : Nat → Plc) (xs : List Node) : HP := Fam xs.length (fun i => NdA (xs.getD i default) (us i))
instance {us : Nat → Plc} {xs : List Node} : Per (NFam us xs) := ⟨fun h i hi => Per.h (h i hi)⟩
def uset (us : Nat → Plc) (i : Nat) (u : Plc) : Nat → Plc := fun q => if q = i then u else us q
section
variable {P : Program} {f : FuncId} {n : Nat} {R : Value → HP} {K : List It} {s : List (Nat × Value)} {As Bs Rs Ss Zs Ws : List HP}
theorem s_nsnoc {a : Option Addr} {c : Nat} {us : Nat → Plc} {xs : List Node} {r : List Value} (x : Node) (u : Plc)
    (e1 : Sel (SO 88 3 (.slice a (xs.length + 1) c) (xs.length + 1) (rcat xs.length (nodeRow us xs) (fun _ => r))) As Bs) (e2 : Sel (NFam us xs) Bs Rs) (e3 : Sel (Nd1 x u) Rs Ss) (e4 : Sel (Nd2 x u) Ss Zs) (e5 : Sel (Nd3 x u) Zs Ws)
    (hr : r = [.int .i64 x.level, .slice u.a x.items.length u.c, .slice u.b x.kids.length u.d])
    (h : RunS P f n R K s (NRow a c (uset us xs.length u) (xs ++ [x]) :: NFam (uset us xs.length u) (xs ++ [x]) :: Ws)) : RunS P f n R K s As := by
  subst hr
  refine s_front e1 ?_
  have e : xs.length + 1 = (xs ++ [x]).length := by simp
  refine s_open (SO.cg (nodeRow (uset us xs.length u) (xs ++ [x])) fun q hq => ?_) ?_
  · unfold rcat nodeRow uset
    by_cases h : q < xs.length
    · rw [if_pos h, getD_snoc_lt xs x h, if_neg (by omega)]
    · have : q = xs.length := by omega
      subst this
      rw [if_neg h, getD_snoc_eq, if_pos rfl]
  rw [e]
  refine .mk fun H M q => ?_
  obtain ⟨M1, M2, a1, a2, d, hA, hB⟩ := q
  have b2 := e2.hold hB
  have t2 := star_snd (e2.sat hB)
  have b3 := e3.hold t2
  have t3 := star_snd (e3.sat t2)
  have b4 := e4.hold t3
  have t4 := star_snd (e4.sat t3)
  have b5 := e5.hold t4
  have t5 := star_snd (e5.sat t4)
  refine h H M ⟨M1, M2, a1, a2, d, hA, per_add (M0 := M2) (fun i hi => ?_) t5⟩
  show (NdA ((xs ++ [x]).getD i default) (uset us xs.length u i)).p H M2
  unfold uset
  by_cases h : i < xs.length
  · rw [getD_snoc_lt xs x h, if_neg (by omega)]; exact b2 i h
  · have : i = xs.length := by rw [List.length_append] at hi; simp at hi; omega
    subst this
    rw [getD_snoc_eq, if_pos rfl]; exact ⟨b3, b4, b5⟩
theorem s_nfam0 {us : Nat → Plc} (h : RunS P f n R K s (NFam us [] :: As)) : RunS P f n R K s As := .mk fun H M q => h H M (per_add (M0 := M) (fun i hi => absurd hi (Nat.not_lt_zero _)) q)
/-- one node of a row -/
theorem s_nget {us : Nat → Plc} {xs : List Node} (i : Nat) (u : Sel (NFam us xs) As Bs) (hi : i < xs.length) (h : RunS P f n R K s (Nd1 (xs.getD i default) (us i) :: Nd2 (xs.getD i default) (us i) :: Nd3 (xs.getD i default) (us i) :: As)) : RunS P f n R K s As := .mk fun H M q => by
  obtain ⟨b1, b2, b3⟩ := u.hold q i hi
  exact h H M (per_add (M0 := M) b1 (per_add (M0 := M) b2 (per_add (M0 := M) b3 q)))
end
def partOf {α : Type} (l : List α) (q : Nat × Nat) : List α := (l.drop q.1).take q.2
theorem partOf_len {α : Type} {l : List α} {p n : Nat} (h : p + n ≤ l.length) : (partOf l (p, n)).length = n := by simp [partOf]; omega
theorem partOf_get {α : Type} [Inhabited α] {l : List α} {p n i : Nat} (hi : i < n) : (partOf l (p, n)).getD i default = l.getD (p + i) default := by
  simp [partOf, List.getD_eq_getElem?_getD, List.getElem?_take, hi]
structure PIn {α : Type} (lo hi : Nat) (l : List α) (at_ : Nat) (ps : List (Nat × Nat)) : Prop where
  le : at_ ≤ l.length
  each : ∀ q ∈ ps, lo ≤ q.2 ∧ q.2 ≤ hi ∧ q.1 + q.2 ≤ l.length
  cat : ps.flatMap (partOf l) = l.take at_
  cnt : lo * ps.length ≤ at_
  rest : 0 < at_ → lo ≤ l.length - at_ ∧ hi < l.length
  nil : at_ = 0 → ps = []
structure PFin {α : Type} (lo hi : Nat) (l : List α) (ps : List (Nat × Nat)) : Prop where
  each : ∀ q ∈ ps, 1 ≤ q.2 ∧ q.2 ≤ hi ∧ q.1 + q.2 ≤ l.length ∧ (l.length ≤ hi → q.2 = l.length) ∧ (hi < l.length → lo ≤ q.2)
  cat : ps.flatMap (partOf l) = l
  one : l.length ≤ hi → ps.length ≤ 1
  cnt : hi < l.length → lo * ps.length ≤ l.length
  pos : 0 < l.length → 0 < ps.length
theorem PIn.zero {α : Type} (lo hi : Nat) (l : List α) : PIn lo hi l 0 [] := ⟨Nat.zero_le _, fun q h => (nomatch h), by simp, by simp, fun h => by omega, fun _ => rfl⟩
theorem PIn.next {α : Type} {lo hi : Nat} {l : List α} {p n : Nat} {ps : List (Nat × Nat)} (h : PIn lo hi l p ps) (h0 : 0 < lo) (h1 : lo ≤ n) (h2 : n ≤ hi) (h3 : p + n + lo ≤ l.length) (h4 : hi < l.length - p) : PIn lo hi l (p + n) (ps ++ [(p, n)]) where
  le := by omega
  each := fun q hq => by
    rcases List.mem_append.1 hq with hq | hq
    · exact h.each q hq
    · rw [List.mem_singleton] at hq; subst hq; exact ⟨h1, h2, by dsimp only; omega⟩
  cat := by rw [List.flatMap_append, h.cat, List.take_add]; simp [partOf]
  cnt := by have := h.cnt; rw [List.length_append, Nat.mul_add]; simp; omega
  rest := fun _ => ⟨by omega, by omega⟩
  nil := fun e => by omega
theorem PIn.fin {α : Type} {lo hi : Nat} {l : List α} {p : Nat} {ps : List (Nat × Nat)} (h : PIn lo hi l p ps) (h0 : 0 < lo) (h4 : l.length - p ≤ hi) (h5 : p < l.length) : PFin lo hi l (ps ++ [(p, l.length - p)]) where
  each := fun q hq => by
    rcases List.mem_append.1 hq with hq | hq
    · have := h.each q hq
      have h6 : 0 < p := by
        rcases Nat.eq_zero_or_pos p with e | e
        · rw [h.nil e] at hq; cases hq
        · exact e
      have := h.rest h6
      exact ⟨by omega, by omega, by omega, fun _ => by omega, fun _ => by omega⟩
    · rw [List.mem_singleton] at hq; subst hq
      dsimp only
      rcases Nat.eq_zero_or_pos p with e | e
      · exact ⟨by omega, by omega, by omega, fun _ => by omega, fun _ => by omega⟩
      · have := h.rest e
        exact ⟨by omega, by omega, by omega, fun _ => by omega, fun _ => by omega⟩
  cat := by
    rw [List.flatMap_append, h.cat]
    have : partOf l (p, l.length - p) = l.drop p := List.take_of_length_le (by simp)
    simp [this]
  one := fun e => by
    rcases Nat.eq_zero_or_pos p with e2 | e2
    · rw [h.nil e2]; simp
    · have := h.rest e2; omega
  cnt := fun e => by
    have := h.cnt
    rcases Nat.eq_zero_or_pos p with e2 | e2
    · omega
    · have := h.rest e2; rw [List.length_append, Nat.mul_add]; simp; omega
  pos := fun _ => by simp
theorem PFin.zero {α : Type} (lo hi : Nat) (l : List α) (h : l.length = 0) : PFin lo hi l [] := by
  have : l = [] := List.eq_nil_of_length_eq_zero h
  subst this
  exact ⟨fun q h => (nomatch h), rfl, fun _ => Nat.zero_le _, fun _ => by simp, fun h => by simp at h⟩
theorem cutI_pos (l : List Int) (i : Nat) : 0 ≤ cutI l i := by unfold cutI; repeat' split <;> omega
/-- how many come next -/
def nextN (lo hi : Nat) (rest : Nat) (c : Int) : Nat :=
  if rest - (lo + c.toNat % (hi - lo + 1)) < lo then lo else lo + c.toNat % (hi - lo + 1)
theorem nextN_ok {lo hi rest : Nat} (c : Int) (h0 : 0 < lo) (h1 : 2 * lo ≤ hi + 1) (hr : hi < rest) : lo ≤ nextN lo hi rest c ∧ nextN lo hi rest c ≤ hi ∧ nextN lo hi rest c + lo ≤ rest := by
  unfold nextN
  have := Nat.mod_lt c.toNat (show 0 < hi - lo + 1 by omega)
  split <;> omega
section
variable {P : Program} {f : FuncId} {n : Nat} {R : Value → HP} {K : List It} {s : List (Nat × Value)} {As Bs Rs : List HP}
def plcI (a : Option Addr) (c : Nat) (w : Nat → Option Addr × Nat) (p : Nat) : Plc := ⟨sladdr a 4 p c, c - p, none, 0, fun i => w (p + i)⟩
theorem s_partI {a : Option Addr} {c : Nat} {w : Nat → Option Addr × Nat} {l : List Item} (p m : Nat) (h : p + m ≤ l.length) (e1 : Sel (SA none 4 (.slice a l.length c) l.length (itemRow w l)) As Bs) (e2 : Sel (IFam w l) As Rs)
    (hh : RunS P f n R K s (Nd1 ⟨0, partOf l (p, m), []⟩ (plcI a c w p) :: Nd2 ⟨0, partOf l (p, m), []⟩ (plcI a c w p) :: Nd3 ⟨0, partOf l (p, m), []⟩ (plcI a c w p) :: As)) : RunS P f n R K s As := .mk fun H M q => by
  have b1 := SA.part p (p + m) (by omega) (by omega) H M (e1.hold q)
  have b2 := e2.hold q
  have hl := partOf_len h
  rw [Nat.add_sub_cancel_left] at b1
  refine hh H M (per_add (M0 := M) ?_ (per_add (M0 := M) ?_ (per_add (M0 := M) ?_ q)))
  · show (SA none 4 (.slice (sladdr a 4 p c) (partOf l (p, m)).length (c - p)) (partOf l (p, m)).length (itemRow (fun i => w (p + i)) (partOf l (p, m)))).p H M
    rw [hl]
    exact SA.cg _ (fun i hi => by unfold itemRow; rw [partOf_get hi]) H M b1
  · intro i hi
    have hi : i < (partOf l (p, m)).length := hi
    rw [hl] at hi
    have := b2 (p + i) (by omega)
    show (itemFam (fun i => w (p + i)) (partOf l (p, m)) i).p H M
    unfold itemFam at *
    rw [partOf_get hi]; exact this
  · exact ⟨none, 0, rfl, Nat.le_refl _, fun i h => absurd h (Nat.not_lt_zero _), fun h => absurd h (Nat.not_lt_zero _)⟩
end
def leafNodes (l : List Item) (ps : List (Nat × Nat)) : List Node := ps.map fun q => ⟨0, partOf l q, []⟩
theorem leafNodes_len (l : List Item) (ps : List (Nat × Nat)) : (leafNodes l ps).length = ps.length := by simp [leafNodes]
theorem leafNodes_snoc (l : List Item) (ps : List (Nat × Nat)) (q : Nat × Nat) : leafNodes l (ps ++ [q]) = leafNodes l ps ++ [⟨0, partOf l q, []⟩] := by simp [leafNodes]
set_option maxHeartbeats 8000000 in
theorem leaves_c {C : HP} {a b : Option Addr} {c d : Nat} {w : Nat → Option Addr × Nat} (l : List Item) (cs : List Int) [Rd C 1 (.slice b cs.length d) cs.length (pathR cs)] (hn : l.length < 1000000) (hcn : cs.length < 9223372036854775808) (hr : ∀ q, q < cs.length → -9223372036854775808 ≤ cs.getD q 0 ∧ cs.getD q 0 ≤ 9223372036854775807) : Ctr Tryz.prog 38 [.slice a l.length c, .slice b cs.length d] [SA none 4 (.slice a l.length c) l.length (itemRow w l), IFam w l, C]
    (fun r Bs => ∃ a2 c2 us ps, PFin 3 6 l ps ∧ r = .slice a2 (leafNodes l ps).length c2 ∧ Bs = [NRow a2 c2 us (leafNodes l ps), NFam us (leafNodes l ps), C]) := by
  refine s_enter 52 [(0, _), (1, _)] (fun F => [_, _, _, F]) Tryz.func38 fun F => ?_
  refine go_ ?_
  refine s_bs0 (sz := 3) (row := nodeRow (fun _ => default) []) (fun a0 => ?_)
  refine s_open (B := NRow a0 0 (fun _ => default) (leafNodes l [])) (SO.of) ?_
  refine s_nfam0 (us := fun _ => default) ?_
  refine s_open (B := NFam (fun _ => default) (leafNodes l [])) (fun _ _ q => q) ?_
  refine go_ ?_
  refine s_know (a := SA none 4 (.slice a l.length c) l.length (itemRow w l)) (by repeat (first | with_reducible exact Sel.here | with_reducible apply Sel.there)) (fun H M q => SA.cap H M q) fun hcap => ?_
  refine s_loop (fun q : Nat × List (Nat × Nat) × Option Addr × Nat × (Nat → Plc) => [(0, .slice a l.length c), (1, .slice b cs.length d), (5, .slice q.2.2.1 (leafNodes l q.2.1).length q.2.2.2.1), (6, .int .i64 q.1)])
    (fun q => [SA none 4 (.slice a l.length c) l.length (itemRow w l), IFam w l, C, NRow q.2.2.1 q.2.2.2.1 q.2.2.2.2 (leafNodes l q.2.1), NFam q.2.2.2.2 (leafNodes l q.2.1), F])
    (fun q => PIn 3 6 l q.1 q.2.1) (fun q => l.length - q.1) (0, [], a0, 0, fun _ => default) (PIn.zero 3 6 l) (by repeat (first | exact Ent.nil | refine Ent.per (by repeat (first | with_reducible exact Sel.here | with_reducible apply Sel.there)) ?_ | refine Ent.cons (by repeat (first | with_reducible exact Sel.here | with_reducible apply Sel.there)) ?_)) ?_
  rintro ⟨p, ps, b1, d1, us⟩ hp next
  dsimp only at hp next ⊢
  have hle := hp.le
  have hpl : ps.length ≤ p := by have := hp.cnt; omega
  have hnl := leafNodes_len l ps
  refine go_ ?_
  rw [hnl]
  refine s_if (fun h => ?_) (fun h => ?_)
  · have hc0 := cutI_pos cs ps.length
    obtain ⟨n1, n2, n3⟩ := nextN_ok (lo := 3) (hi := 6) (rest := l.length - p) (cutI cs ps.length) (by omega) (by omega) (by omega)
    refine go_ ?_
    refine s_call (sp := (by repeat (first | exact Split.nil | apply Split.perx (by repeat (first | with_reducible exact Sel.here | with_reducible apply Sel.there)) (by infer_instance) | apply Split.cons (by repeat (first | with_reducible exact Sel.here | with_reducible apply Sel.there))))) (hs := cut_c (A := C) (a := b) (c := d) cs ps.length hcn (by omega) hr) (h := ?_)
    rintro v Bs ⟨rfl, rfl⟩
    have em : (cutI cs ps.length).tmod 4 = (((cutI cs ps.length).toNat % 4 : Nat) : Int) := by rw [Int.tmod_eq_emod_of_nonneg hc0]; omega
    have hm4 : (cutI cs ps.length).toNat % 4 < 4 := Nat.mod_lt _ (by omega)
    have hnx : nextN 3 6 (l.length - p) (cutI cs ps.length) = if (l.length - p) - (3 + (cutI cs ps.length).toNat % 4) < 3 then 3 else 3 + (cutI cs ps.length).toNat % 4 := rfl
    refine go_ ?_
    rw [em]
    generalize (cutI cs ps.length).toNat % 4 = mm at *
    generalize nextN 3 6 (l.length - p) (cutI cs ps.length) = nn at *
    apply s_join (α := Unit) (fun _ => [(0, .slice a l.length c), (1, .slice b cs.length d), (5, .slice b1 ps.length d1), (6, .int .i64 p), (7, .int .i64 nn), (27, .slice b1 ps.length d1), (28, .slice a l.length c), (29, .int .i64 p), (32, .int .i64 (p + nn : Nat))])
      (fun _ => [C, SA none 4 (.slice a l.length c) l.length (itemRow w l), IFam w l, NRow b1 d1 us (leafNodes l ps), NFam us (leafNodes l ps), F]) (fun _ => True)
    case h =>
      intro K
      refine s_if (fun h3 => ?_) (fun h3 => ?_)
      · rw [if_pos (by omega)] at hnx
        subst hnx
        refine go_ ?_
        exact s_entF (by repeat (first | exact Ent.nil | refine Ent.per (by repeat (first | with_reducible exact Sel.here | with_reducible apply Sel.there)) ?_ | refine Ent.cons (by repeat (first | with_reducible exact Sel.here | with_reducible apply Sel.there)) ?_)) (s_keep _ (K () trivial))
      · rw [if_neg (by omega)] at hnx
        subst hnx
        refine go_ ?_
        exact s_entF (by repeat (first | exact Ent.nil | refine Ent.per (by repeat (first | with_reducible exact Sel.here | with_reducible apply Sel.there)) ?_ | refine Ent.cons (by repeat (first | with_reducible exact Sel.here | with_reducible apply Sel.there)) ?_)) (s_keep _ (K () trivial))
    case K =>
      intro _ _
      refine go_ ?_
      refine s_look (lk_slc (a := a) (len := l.length) (cap := c) p (p + nn) (by omega) (by omega)) ?_
      refine s_partI (a := a) (c := c) (w := w) (l := l) p nn (by omega) (by repeat (first | with_reducible exact Sel.here | with_reducible apply Sel.there)) (by repeat (first | with_reducible exact Sel.here | with_reducible apply Sel.there)) ?_
      have hl := partOf_len (l := l) (p := p) (n := nn) (by omega)
      rw [Nat.add_sub_cancel_left]
      refine go_ ?_
      refine s_step (st_bs1 (sz := 3) (cells := [.int .i64 0, .slice (sladdr a 4 p c) nn (c - p), .slice none 0 0]) rfl) ?_
      rintro _ _ ⟨a3, rfl, rfl⟩
      refine go_ ?_
      rw [← leafNodes_len l ps]
      refine s_step (st_appO (a := b1) (len := (leafNodes l ps).length) (cap := d1) (b := a3) (m := 1) (c := 1) (by repeat (first | with_reducible exact Sel.here | with_reducible apply Sel.there)) (by repeat (first | with_reducible exact SelR.here | with_reducible apply SelR.there)) (by rw [flat_one]; rfl)) ?_
      rintro _ _ ⟨a4, c4, rfl, rfl⟩
      refine s_nsnoc ⟨0, partOf l (p, nn), []⟩ (plcI a c w p) (by repeat (first | with_reducible exact Sel.here | with_reducible apply Sel.there)) (by repeat (first | with_reducible exact Sel.here | with_reducible apply Sel.there)) (by repeat (first | with_reducible exact Sel.here | with_reducible apply Sel.there)) (by repeat (first | with_reducible exact Sel.here | with_reducible apply Sel.there)) (by repeat (first | with_reducible exact Sel.here | with_reducible apply Sel.there)) (by dsimp only; rw [hl]; rfl) ?_
      refine go_ ?_
      rw [show (leafNodes l ps).length + 1 = (leafNodes l (ps ++ [(p, nn)])).length by rw [leafNodes_snoc]; simp, ← leafNodes_snoc]
      exact s_entF (by repeat (first | exact Ent.nil | refine Ent.per (by repeat (first | with_reducible exact Sel.here | with_reducible apply Sel.there)) ?_ | refine Ent.cons (by repeat (first | with_reducible exact Sel.here | with_reducible apply Sel.there)) ?_)) (s_keep _ (next (p + nn, ps ++ [(p, nn)], a4, c4, uset us (leafNodes l ps).length (plcI a c w p)) (hp.next (by omega) n1 n2 (by omega) (by omega)) (by dsimp only; omega)))
  · refine go_ ?_
    refine s_if (fun h2 => ?_) (fun h2 => ?_)
    · refine go_ ?_
      refine s_look (lk_slc (a := a) (len := l.length) (cap := c) p l.length (by omega) (by omega)) ?_
      refine s_partI (a := a) (c := c) (w := w) (l := l) p (l.length - p) (by omega) (by repeat (first | with_reducible exact Sel.here | with_reducible apply Sel.there)) (by repeat (first | with_reducible exact Sel.here | with_reducible apply Sel.there)) ?_
      have hl := partOf_len (l := l) (p := p) (n := l.length - p) (by omega)
      refine go_ ?_
      refine s_step (st_bs1 (sz := 3) (cells := [.int .i64 0, .slice (sladdr a 4 p c) (l.length - p) (c - p), .slice none 0 0]) rfl) ?_
      rintro _ _ ⟨a3, rfl, rfl⟩
      refine go_ ?_
      rw [← leafNodes_len l ps]
      refine s_step (st_appO (a := b1) (len := (leafNodes l ps).length) (cap := d1) (b := a3) (m := 1) (c := 1) (by repeat (first | with_reducible exact Sel.here | with_reducible apply Sel.there)) (by repeat (first | with_reducible exact SelR.here | with_reducible apply SelR.there)) (by rw [flat_one]; rfl)) ?_
      rintro _ _ ⟨a4, c4, rfl, rfl⟩
      refine s_nsnoc ⟨0, partOf l (p, l.length - p), []⟩ (plcI a c w p) (by repeat (first | with_reducible exact Sel.here | with_reducible apply Sel.there)) (by repeat (first | with_reducible exact Sel.here | with_reducible apply Sel.there)) (by repeat (first | with_reducible exact Sel.here | with_reducible apply Sel.there)) (by repeat (first | with_reducible exact Sel.here | with_reducible apply Sel.there)) (by repeat (first | with_reducible exact Sel.here | with_reducible apply Sel.there)) (by dsimp only; rw [hl]; rfl) ?_
      refine go_ ?_
      rw [show (leafNodes l ps).length + 1 = (leafNodes l (ps ++ [(p, l.length - p)])).length by rw [leafNodes_snoc]; simp, ← leafNodes_snoc]
      exact s_ret1 (rs := [.tmp 4]) Tryz.func38 rfl (by intro j; refine RVS.tmp _ rfl ?_; exact RVS.nil) (⟨a4, c4, uset us (leafNodes l ps).length (plcI a c w p), ps ++ [(p, l.length - p)], hp.fin (by omega) (by omega) (by omega), rfl, rfl⟩) (by repeat (first | exact Ent.nil | refine Ent.per (by repeat (first | with_reducible exact Sel.here | with_reducible apply Sel.there)) ?_ | refine Ent.cons (by repeat (first | with_reducible exact Sel.here | with_reducible apply Sel.there)) ?_))
    · have hz : l.length = 0 := by
        rcases Nat.eq_zero_or_pos p with e | e
        · omega
        · have := hp.rest e; omega
      have e : ps = [] := hp.nil (by omega)
      subst e
      rw [show ([] : List (Nat × Nat)).length = (leafNodes l []).length from rfl]
      refine go_ ?_
      exact s_ret1 (rs := [.tmp 4]) Tryz.func38 rfl (by intro j; refine RVS.tmp _ rfl ?_; exact RVS.nil) (⟨b1, d1, us, [], PFin.zero 3 6 l hz, rfl, rfl⟩) (by repeat (first | exact Ent.nil | refine Ent.per (by repeat (first | with_reducible exact Sel.here | with_reducible apply Sel.there)) ?_ | refine Ent.cons (by repeat (first | with_reducible exact Sel.here | with_reducible apply Sel.there)) ?_))
end Go.Proofs.YtgbbcpfnmkeijaaGreat
/- The reference's Inner. -/
namespace Go.Proofs.YtgbbcpfnmkeijaaGreat
open Go.Cam
set_option maxRecDepth 100000
section
variable {P : Program} {f : FuncId} {n : Nat} {R : Value → HP} {K : List It} {s : List (Nat × Value)} {As Bs Rs : List HP}
def plcK (a : Option Addr) (c : Nat) (p : Nat) : Plc := ⟨none, 0, sladdr a 4 p c, c - p, fun _ => (none, 0)⟩
theorem s_partK (lv : Int) {a : Option Addr} {c : Nat} {l : List Kid} (p m : Nat) (h : p + m ≤ l.length) (e1 : Sel (SA none 4 (.slice a l.length c) l.length (kidRow l)) As Bs)
    (hh : RunS P f n R K s (Nd1 ⟨lv, [], partOf l (p, m)⟩ (plcK a c p) :: Nd2 ⟨lv, [], partOf l (p, m)⟩ (plcK a c p) :: Nd3 ⟨lv, [], partOf l (p, m)⟩ (plcK a c p) :: As)) : RunS P f n R K s As := .mk fun H M q => by
  have b1 := SA.part p (p + m) (by omega) (by omega) H M (e1.hold q)
  have hl := partOf_len h
  rw [Nat.add_sub_cancel_left] at b1
  refine hh H M (per_add (M0 := M) ?_ (per_add (M0 := M) ?_ (per_add (M0 := M) ?_ q)))
  · exact ⟨none, 0, rfl, Nat.le_refl _, fun i h => absurd h (Nat.not_lt_zero _), fun h => absurd h (Nat.not_lt_zero _)⟩
  · exact fun i hi => absurd hi (Nat.not_lt_zero _)
  · show (SA none 4 (.slice (sladdr a 4 p c) (partOf l (p, m)).length (c - p)) (partOf l (p, m)).length (kidRow (partOf l (p, m)))).p H M
    rw [hl]
    exact SA.cg _ (fun i hi => by unfold kidRow; rw [partOf_get hi]) H M b1
end
def innNodes (lv : Int) (l : List Kid) (ps : List (Nat × Nat)) : List Node := ps.map fun q => ⟨lv, [], partOf l q⟩
theorem innNodes_len (lv : Int) (l : List Kid) (ps : List (Nat × Nat)) : (innNodes lv l ps).length = ps.length := by simp [innNodes]
theorem innNodes_snoc (lv : Int) (l : List Kid) (ps : List (Nat × Nat)) (q : Nat × Nat) : innNodes lv l (ps ++ [q]) = innNodes lv l ps ++ [⟨lv, [], partOf l q⟩] := by simp [innNodes]
set_option maxHeartbeats 8000000 in
theorem inner_c {C : HP} {a b : Option Addr} {c d : Nat} (l : List Kid) (lv : Int) (cs : List Int) [Rd C 1 (.slice b cs.length d) cs.length (pathR cs)] (hn : l.length < 1000000) (h0 : 0 < l.length) (hcn : cs.length < 9223372036854775808) (hr : ∀ q, q < cs.length → -9223372036854775808 ≤ cs.getD q 0 ∧ cs.getD q 0 ≤ 9223372036854775807) : Ctr Tryz.prog 40 [.slice a l.length c, .int .i64 lv, .slice b cs.length d] [SA none 4 (.slice a l.length c) l.length (kidRow l), C]
    (fun r Bs => ∃ a2 c2 us ps, PFin 6 12 l ps ∧ r = .slice a2 (innNodes lv l ps).length c2 ∧ Bs = [NRow a2 c2 us (innNodes lv l ps), NFam us (innNodes lv l ps), C]) := by
  refine s_enter 51 [(0, _), (1, _), (2, _)] (fun F => [_, _, F]) Tryz.func40 fun F => ?_
  refine go_ ?_
  refine s_bs0 (sz := 3) (row := nodeRow (fun _ => default) []) (fun a0 => ?_)
  refine s_open (B := NRow a0 0 (fun _ => default) (innNodes lv l [])) (SO.of) ?_
  refine s_nfam0 (us := fun _ => default) ?_
  refine s_open (B := NFam (fun _ => default) (innNodes lv l [])) (fun _ _ q => q) ?_
  refine go_ ?_
  refine s_know (a := SA none 4 (.slice a l.length c) l.length (kidRow l)) (by repeat (first | with_reducible exact Sel.here | with_reducible apply Sel.there)) (fun H M q => SA.cap H M q) fun hcap => ?_
  refine s_loop (fun q : Nat × List (Nat × Nat) × Option Addr × Nat × (Nat → Plc) => [(0, .slice a l.length c), (1, .int .i64 lv), (2, .slice b cs.length d), (7, .slice q.2.2.1 (innNodes lv l q.2.1).length q.2.2.2.1), (8, .int .i64 q.1)])
    (fun q => [SA none 4 (.slice a l.length c) l.length (kidRow l), C, NRow q.2.2.1 q.2.2.2.1 q.2.2.2.2 (innNodes lv l q.2.1), NFam q.2.2.2.2 (innNodes lv l q.2.1), F])
    (fun q => PIn 6 12 l q.1 q.2.1) (fun q => l.length - q.1) (0, [], a0, 0, fun _ => default) (PIn.zero 6 12 l) (by repeat (first | exact Ent.nil | refine Ent.per (by repeat (first | with_reducible exact Sel.here | with_reducible apply Sel.there)) ?_ | refine Ent.cons (by repeat (first | with_reducible exact Sel.here | with_reducible apply Sel.there)) ?_)) ?_
  rintro ⟨p, ps, b1, d1, us⟩ hp next
  dsimp only at hp next ⊢
  have hle := hp.le
  have hpl : ps.length ≤ p := by have := hp.cnt; omega
  have hnl := innNodes_len lv l ps
  refine go_ ?_
  rw [hnl]
  refine s_if (fun h => ?_) (fun h => ?_)
  · have hc0 := cutI_pos cs ps.length
    obtain ⟨n1, n2, n3⟩ := nextN_ok (lo := 6) (hi := 12) (rest := l.length - p) (cutI cs ps.length) (by omega) (by omega) (by omega)
    refine go_ ?_
    refine s_call (sp := (by repeat (first | exact Split.nil | apply Split.perx (by repeat (first | with_reducible exact Sel.here | with_reducible apply Sel.there)) (by infer_instance) | apply Split.cons (by repeat (first | with_reducible exact Sel.here | with_reducible apply Sel.there))))) (hs := cut_c (A := C) (a := b) (c := d) cs ps.length hcn (by omega) hr) (h := ?_)
    rintro v Bs ⟨rfl, rfl⟩
    have em : (cutI cs ps.length).tmod 7 = (((cutI cs ps.length).toNat % 7 : Nat) : Int) := by rw [Int.tmod_eq_emod_of_nonneg hc0]; omega
    have hm4 : (cutI cs ps.length).toNat % 7 < 7 := Nat.mod_lt _ (by omega)
    have hnx : nextN 6 12 (l.length - p) (cutI cs ps.length) = if (l.length - p) - (6 + (cutI cs ps.length).toNat % 7) < 6 then 6 else 6 + (cutI cs ps.length).toNat % 7 := rfl
    refine go_ ?_
    rw [em]
    generalize (cutI cs ps.length).toNat % 7 = mm at *
    generalize nextN 6 12 (l.length - p) (cutI cs ps.length) = nn at *
    apply s_join (α := Unit) (fun _ => [(0, .slice a l.length c), (1, .int .i64 lv), (2, .slice b cs.length d), (7, .slice b1 ps.length d1), (8, .int .i64 p), (9, .int .i64 nn), (29, .slice b1 ps.length d1), (30, .int .i64 lv), (31, .slice a l.length c), (32, .int .i64 p), (35, .int .i64 (p + nn : Nat))])
      (fun _ => [C, SA none 4 (.slice a l.length c) l.length (kidRow l), NRow b1 d1 us (innNodes lv l ps), NFam us (innNodes lv l ps), F]) (fun _ => True)
    case h =>
      intro K
      refine s_if (fun h3 => ?_) (fun h3 => ?_)
      · rw [if_pos (by omega)] at hnx
        subst hnx
        refine go_ ?_
        exact s_entF (by repeat (first | exact Ent.nil | refine Ent.per (by repeat (first | with_reducible exact Sel.here | with_reducible apply Sel.there)) ?_ | refine Ent.cons (by repeat (first | with_reducible exact Sel.here | with_reducible apply Sel.there)) ?_)) (s_keep _ (K () trivial))
      · rw [if_neg (by omega)] at hnx
        subst hnx
        refine go_ ?_
        exact s_entF (by repeat (first | exact Ent.nil | refine Ent.per (by repeat (first | with_reducible exact Sel.here | with_reducible apply Sel.there)) ?_ | refine Ent.cons (by repeat (first | with_reducible exact Sel.here | with_reducible apply Sel.there)) ?_)) (s_keep _ (K () trivial))
    case K =>
      intro _ _
      refine go_ ?_
      refine s_look (lk_slc (a := a) (len := l.length) (cap := c) p (p + nn) (by omega) (by omega)) ?_
      refine s_partK lv (a := a) (c := c) (l := l) p nn (by omega) (by repeat (first | with_reducible exact Sel.here | with_reducible apply Sel.there)) ?_
      have hl := partOf_len (l := l) (p := p) (n := nn) (by omega)
      rw [Nat.add_sub_cancel_left]
      refine go_ ?_
      refine s_step (st_bs1 (sz := 3) (cells := [.int .i64 lv, .slice none 0 0, .slice (sladdr a 4 p c) nn (c - p)]) rfl) ?_
      rintro _ _ ⟨a3, rfl, rfl⟩
      refine go_ ?_
      rw [← innNodes_len lv l ps]
      refine s_step (st_appO (a := b1) (len := (innNodes lv l ps).length) (cap := d1) (b := a3) (m := 1) (c := 1) (by repeat (first | with_reducible exact Sel.here | with_reducible apply Sel.there)) (by repeat (first | with_reducible exact SelR.here | with_reducible apply SelR.there)) (by rw [flat_one]; rfl)) ?_
      rintro _ _ ⟨a4, c4, rfl, rfl⟩
      refine s_nsnoc ⟨lv, [], partOf l (p, nn)⟩ (plcK a c p) (by repeat (first | with_reducible exact Sel.here | with_reducible apply Sel.there)) (by repeat (first | with_reducible exact Sel.here | with_reducible apply Sel.there)) (by repeat (first | with_reducible exact Sel.here | with_reducible apply Sel.there)) (by repeat (first | with_reducible exact Sel.here | with_reducible apply Sel.there)) (by repeat (first | with_reducible exact Sel.here | with_reducible apply Sel.there)) (by dsimp only; rw [hl]; rfl) ?_
      refine go_ ?_
      rw [show (innNodes lv l ps).length + 1 = (innNodes lv l (ps ++ [(p, nn)])).length by rw [innNodes_snoc]; simp, ← innNodes_snoc]
      exact s_entF (by repeat (first | exact Ent.nil | refine Ent.per (by repeat (first | with_reducible exact Sel.here | with_reducible apply Sel.there)) ?_ | refine Ent.cons (by repeat (first | with_reducible exact Sel.here | with_reducible apply Sel.there)) ?_)) (s_keep _ (next (p + nn, ps ++ [(p, nn)], a4, c4, uset us (innNodes lv l ps).length (plcK a c p)) (hp.next (by omega) n1 n2 (by omega) (by omega)) (by dsimp only; omega)))
  · have hpl2 : p < l.length := by
      rcases Nat.eq_zero_or_pos p with e | e
      · omega
      · have := hp.rest e; omega
    refine go_ ?_
    refine s_look (lk_slc (a := a) (len := l.length) (cap := c) p l.length (by omega) (by omega)) ?_
    refine s_partK lv (a := a) (c := c) (l := l) p (l.length - p) (by omega) (by repeat (first | with_reducible exact Sel.here | with_reducible apply Sel.there)) ?_
    have hl := partOf_len (l := l) (p := p) (n := l.length - p) (by omega)
    refine go_ ?_
    refine s_step (st_bs1 (sz := 3) (cells := [.int .i64 lv, .slice none 0 0, .slice (sladdr a 4 p c) (l.length - p) (c - p)]) rfl) ?_
    rintro _ _ ⟨a3, rfl, rfl⟩
    refine go_ ?_
    rw [← innNodes_len lv l ps]
    refine s_step (st_appO (a := b1) (len := (innNodes lv l ps).length) (cap := d1) (b := a3) (m := 1) (c := 1) (by repeat (first | with_reducible exact Sel.here | with_reducible apply Sel.there)) (by repeat (first | with_reducible exact SelR.here | with_reducible apply SelR.there)) (by rw [flat_one]; rfl)) ?_
    rintro _ _ ⟨a4, c4, rfl, rfl⟩
    refine s_nsnoc ⟨lv, [], partOf l (p, l.length - p)⟩ (plcK a c p) (by repeat (first | with_reducible exact Sel.here | with_reducible apply Sel.there)) (by repeat (first | with_reducible exact Sel.here | with_reducible apply Sel.there)) (by repeat (first | with_reducible exact Sel.here | with_reducible apply Sel.there)) (by repeat (first | with_reducible exact Sel.here | with_reducible apply Sel.there)) (by repeat (first | with_reducible exact Sel.here | with_reducible apply Sel.there)) (by dsimp only; rw [hl]; rfl) ?_
    refine go_ ?_
    rw [show (innNodes lv l ps).length + 1 = (innNodes lv l (ps ++ [(p, l.length - p)])).length by rw [innNodes_snoc]; simp, ← innNodes_snoc]
    exact s_ret1 (rs := [.tmp 6]) Tryz.func40 rfl (by intro j; refine RVS.tmp _ rfl ?_; exact RVS.nil) (⟨a4, c4, uset us (innNodes lv l ps).length (plcK a c p), ps ++ [(p, l.length - p)], hp.fin (by omega) (by omega) hpl2, rfl, rfl⟩) (by repeat (first | exact Ent.nil | refine Ent.per (by repeat (first | with_reducible exact Sel.here | with_reducible apply Sel.there)) ?_ | refine Ent.cons (by repeat (first | with_reducible exact Sel.here | with_reducible apply Sel.there)) ?_))
end Go.Proofs.YtgbbcpfnmkeijaaGreat
