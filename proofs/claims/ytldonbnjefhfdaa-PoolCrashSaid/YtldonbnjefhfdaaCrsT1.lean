/- The plain law of rows and trees: a scan of a tree is a scan of its row; what a key gets; what Put and Row make. -/
import Derived.Test.YtldonbnjefhfdaaCrsBB
import Derived.Test.YtldonbnjefhfdaaCamAR
import Derived.Test.YtldonbnjefhfdaaRows
namespace Go.Proofs.Ytldonbnjefhfdaa
open Go.Cam
set_option maxRecDepth 100000
theorem Key.irrefl (a : Key) : a.lt a = false := by
  cases h : a.lt a with
  | false => rfl
  | true => rw [Key.lt_iff] at h; omega
theorem Key.trans {a b c : Key} (h : a.lt b = true) (g : b.lt c = true) : a.lt c = true := by
  rw [Key.lt_iff] at *; omega
theorem Key.tot {a b : Key} (h : a.lt b = false) (g : b.lt a = false) : a = b := by
  have h' : ¬ (a.lt b = true) := by rw [h]; simp
  have g' : ¬ (b.lt a = true) := by rw [g]; simp
  rw [Key.lt_iff] at *
  obtain ⟨x, y, z⟩ := a; obtain ⟨u, v, w⟩ := b
  simp only [Key.mk.injEq]; dsimp only at *; omega
def Ris (l : List Item) : Prop := l.Pairwise fun a b => a.key.lt b.key = true
theorem Ris.app {a b : List Item} (h : Ris (a ++ b)) : Ris a ∧ Ris b ∧ ∀ x ∈ a, ∀ y ∈ b, x.key.lt y.key = true := List.pairwise_append.1 h
theorem Ris.cons {x : Item} {l : List Item} (h : Ris (x :: l)) : (∀ y ∈ l, x.key.lt y.key = true) ∧ Ris l := List.pairwise_cons.1 h
/-- the items of kids, one behind the other -/
abbrev catK (T : Int → List Item) (ks : List Kid) : List Item := ks.flatMap fun y => T y.addr
theorem getD_get {α : Type} [Inhabited α] {l : List α} {i : Nat} (h : i < l.length) : l.getD i default = l[i] := by simp [List.getD_eq_getElem?_getD, h]
theorem Ris.get {l : List Item} (h : Ris l) {i j : Nat} (hij : i < j) (hj : j < l.length) : (l.getD i default).key.lt (l.getD j default).key = true := by
  rw [getD_get (by omega), getD_get hj]; exact List.pairwise_iff_getElem.1 h i j (by omega) hj hij
def itemsT (g : Int → Option (Node × Plc)) : Nat → Int → List Item
  | 0, k => (nd g k).items
  | h + 1, k => catK (itemsT g h) (nd g k).kids
def WF (g : Int → Option (Node × Plc)) : Nat → Int → Prop
  | 0, k => (nd g k).level = 0 ∧ (nd g k).items ≠ []
  | h + 1, k => (nd g k).level = (h + 1 : Nat) ∧ (nd g k).kids ≠ [] ∧ ∀ y ∈ (nd g k).kids, WF g h y.addr ∧ ∃ x r, itemsT g h y.addr = x :: r ∧ y.key = x.key
theorem ne_of_lt {a b : Key} (h : a.lt b = true) : a ≠ b := fun e => by subst e; rw [Key.irrefl] at h; cases h
def insI (k : Key) (v : List Nat) : List Item → List Item
  | [] => [⟨k, v⟩]
  | x :: l => if k.lt x.key || decide (x.key = k) then ⟨k, v⟩ :: (x :: l).filter (fun y => !decide (y.key = k)) else x :: insI k v l
theorem iputL_done (k : Key) (v : List Nat) : ∀ l out, iputL k v l out true = (out ++ l.filter (fun y => !decide (y.key = k)), true)
  | [], out => by simp [iputL]
  | x :: l, out => by
    rw [iputL, Bool.true_or, iputL_done k v l]
    by_cases h : x.key = k
    · simp [iputC, h]
    · simp [iputC, h]
theorem iputL_ins (k : Key) (v : List Nat) : ∀ l out, (iputL k v l out false).1 ++ (if (iputL k v l out false).2 then [] else [⟨k, v⟩]) = out ++ insI k v l
  | [], out => by simp [iputL, insI]
  | x :: l, out => by
    rw [iputL, insI]
    cases hc : k.lt x.key || decide (x.key = k) with
    | true =>
      have e : iputC k x false = true := by unfold iputC; rw [hc]; rfl
      rw [e, Bool.false_or, iputL_done, if_pos rfl, if_pos rfl, if_pos rfl]
      by_cases h : x.key = k
      · simp [h]
      · simp [h]
    | false =>
      have e : iputC k x false = false := by unfold iputC; rw [hc]; rfl
      rw [e, Bool.false_or, iputL_ins k v l]
      rw [Bool.or_eq_false_iff] at hc
      have h : x.key ≠ k := of_decide_eq_false hc.2
      simp [h]
theorem iputF_ins (l : List Item) (k : Key) (v : List Nat) : iputF l k v = insI k v l := by
  have := iputL_ins k v l []
  rw [List.nil_append] at this; exact this
theorem insI_mem (k : Key) (v : List Nat) : ∀ l x, x ∈ insI k v l → x = ⟨k, v⟩ ∨ x ∈ l
  | [], x, h => .inl (List.mem_singleton.1 h)
  | y :: l, x, h => by
    rw [insI] at h
    split at h
    · rcases List.mem_cons.1 h with h | h
      · exact .inl h
      · exact .inr (List.mem_filter.1 h).1
    · rcases List.mem_cons.1 h with h | h
      · exact .inr (by rw [h]; exact List.mem_cons_self ..)
      · rcases insI_mem k v l x h with h | h
        · exact .inl h
        · exact .inr (List.mem_cons_of_mem _ h)
theorem insI_ris (k : Key) (v : List Nat) : ∀ l, Ris l → Ris (insI k v l)
  | [], _ => List.pairwise_singleton ..
  | y :: l, h => by
    obtain ⟨h1, h2⟩ := h.cons
    rw [insI]
    cases hc : k.lt y.key || decide (y.key = k) with
    | true =>
      rw [if_pos rfl]
      refine List.pairwise_cons.2 ⟨fun z hz => ?_, List.Pairwise.filter _ h⟩
      obtain ⟨hz1, hz2⟩ := List.mem_filter.1 hz
      rw [Bool.or_eq_true, decide_eq_true_eq] at hc
      rcases List.mem_cons.1 hz1 with rfl | hz1
      · rcases hc with hc | hc
        · exact hc
        · rw [hc] at hz2; simp at hz2
      · rcases hc with hc | hc
        · exact Key.trans hc (h1 z hz1)
        · rw [← hc]; exact h1 z hz1
    | false =>
      rw [if_neg (by simp)]
      rw [Bool.or_eq_false_iff, decide_eq_false_iff_not] at hc
      refine List.pairwise_cons.2 ⟨fun z hz => ?_, insI_ris k v l h2⟩
      rcases insI_mem k v l z hz with rfl | hz
      · cases e : y.key.lt k with
        | true => rfl
        | false => exact absurd (Key.tot e hc.1) hc.2
      · exact h1 z hz
def rowS (out : List Item) (x : Item) : List Item := if x.key.ok then iputF out x.key (x.val.take 28) else out
structure RowOk (l : List Item) : Prop where
  ris : Ris l
  ok : ∀ x ∈ l, x.key.ok = true ∧ x.val.length ≤ 28 ∧ Bys x.val
theorem RowOk.put {l : List Item} {x : Item} (h : RowOk l) (hb : Bys x.val) : RowOk (rowS l x) := by
  unfold rowS
  split
  · rename_i hk
    rw [iputF_ins]
    refine ⟨insI_ris _ _ _ h.ris, fun y hy => ?_⟩
    rcases insI_mem _ _ _ _ hy with rfl | hy
    · exact ⟨hk, by rw [List.length_take]; omega, hb.take 28⟩
    · exact h.ok y hy
  · exact h
end Go.Proofs.Ytldonbnjefhfdaa
/- The reference's rows: Row. -/
namespace Go.Proofs.Ytldonbnjefhfdaa
open Go.Cam
set_option maxRecDepth 100000
theorem BS.part {a : Option Addr} {c : Nat} (v : List Nat) (q : Nat) (hq : q ≤ v.length) (H M : Heap) (h : (SA none 1 (.slice (sladdr a 1 0 c) (q - 0) (c - 0)) (q - 0) (fun i => byR v (0 + i))).p H M) : (BS (.slice a (v.take q).length c) (v.take q)).p H M := by
  have e : (v.take q).length = q - 0 := by simp; omega
  rw [sladdr0] at h
  unfold BS
  rw [e]
  refine SA.cg _ (fun i hi => ?_) H M h
  have : i < q := by omega
  simp [byR, List.getD_eq_getElem?_getD, List.getElem?_take, this]
end Go.Proofs.Ytldonbnjefhfdaa
/- Rows of nodes; the reference's Leaves. -/
namespace Go.Proofs.Ytldonbnjefhfdaa
open Go.Cam
set_option maxRecDepth 100000
instance : Inhabited Node := ⟨⟨0, [], []⟩⟩
instance : Inhabited Plc := ⟨⟨none, 0, none, 0, fun _ => (none, 0)⟩⟩
section
variable {P : Program} {f : FuncId} {n : Nat} {R : Value → HP} {K : List It} {s : List (Nat × Value)} {As Bs Rs Ss Zs Ws : List HP}
end
def partOf {α : Type} (l : List α) (q : Nat × Nat) : List α := (l.drop q.1).take q.2
structure PIn {α : Type} (lo hi : Nat) (l : List α) (at_ : Nat) (ps : List (Nat × Nat)) : Prop where
  le : at_ ≤ l.length
  each : ∀ q ∈ ps, lo ≤ q.2 ∧ q.2 ≤ hi ∧ q.1 + q.2 ≤ l.length
  cat : ps.flatMap (partOf l) = l.take at_
  cnt : lo * ps.length ≤ at_
  rest : 0 < at_ → lo ≤ l.length - at_ ∧ hi < l.length
  nil : at_ = 0 → ps = []
structure PFin {α : Type} (lo hi : Nat) (l : List α) (ps : List (Nat × Nat)) : Prop where
  each : ∀ q ∈ ps, 1 ≤ q.2 ∧ q.2 ≤ hi ∧ q.1 + q.2 ≤ l.length ∧ (l.length ≤ hi → q.2 = l.length) ∧ (hi < l.length → lo ≤ q.2)
  cat : ps.flatMap (partOf l) = l
  one : l.length ≤ hi → ps.length ≤ 1
  cnt : hi < l.length → lo * ps.length ≤ l.length
  pos : 0 < l.length → 0 < ps.length
theorem PIn.zero {α : Type} (lo hi : Nat) (l : List α) : PIn lo hi l 0 [] := ⟨Nat.zero_le _, fun q h => (nomatch h), by simp, by simp, fun h => by omega, fun _ => rfl⟩
theorem PIn.next {α : Type} {lo hi : Nat} {l : List α} {p n : Nat} {ps : List (Nat × Nat)} (h : PIn lo hi l p ps) (h0 : 0 < lo) (h1 : lo ≤ n) (h2 : n ≤ hi) (h3 : p + n + lo ≤ l.length) (h4 : hi < l.length - p) : PIn lo hi l (p + n) (ps ++ [(p, n)]) where
  le := by omega
  each := fun q hq => by
    rcases List.mem_append.1 hq with hq | hq
    · exact h.each q hq
    · rw [List.mem_singleton] at hq; subst hq; exact ⟨h1, h2, by dsimp only; omega⟩
  cat := by rw [List.flatMap_append, h.cat, List.take_add]; simp [partOf]
  cnt := by have := h.cnt; rw [List.length_append, Nat.mul_add]; simp; omega
  rest := fun _ => ⟨by omega, by omega⟩
  nil := fun e => by omega
theorem PFin.zero {α : Type} (lo hi : Nat) (l : List α) (h : l.length = 0) : PFin lo hi l [] := by
  have : l = [] := List.eq_nil_of_length_eq_zero h
  subst this
  exact ⟨fun q h => (nomatch h), rfl, fun _ => Nat.zero_le _, fun _ => by simp, fun h => by simp at h⟩
section
variable {P : Program} {f : FuncId} {n : Nat} {R : Value → HP} {K : List It} {s : List (Nat × Value)} {As Bs Rs : List HP}
end
end Go.Proofs.Ytldonbnjefhfdaa
/- The reference's Inner. -/
namespace Go.Proofs.Ytldonbnjefhfdaa
open Go.Cam
set_option maxRecDepth 100000
section
variable {P : Program} {f : FuncId} {n : Nat} {R : Value → HP} {K : List It} {s : List (Nat × Value)} {As Bs Rs : List HP}
end
end Go.Proofs.Ytldonbnjefhfdaa
/- The plain law of grown trees: nodes that are laid down over nodes make a tree of the row. -/
namespace Go.Proofs.Ytldonbnjefhfdaa
open Go.Cam
set_option maxRecDepth 100000
def itemsX (g : Int → Option (Node × Plc)) : Nat → Node → List Item
  | 0, x => x.items
  | h + 1, x => catK (itemsT g h) x.kids
structure KidOk (σ : Ct) (g : Int → Option (Node × Plc)) (h : Nat) (y : Kid) : Prop where
  tr : Tr σ g h y.addr
  wf : WF g h y.addr
  fst : ∃ x r, itemsT g h y.addr = x :: r ∧ y.key = x.key
  ad : 1 ≤ y.addr ∧ y.addr ≤ 2047
structure Good (σ : Ct) (g : Int → Option (Node × Plc)) (h : Nat) (x : Node) : Prop where
  hs : x.small
  ok : nodeOk x = true
  lv : x.level = (h : Nat)
  leaf : h = 0 → x.items ≠ []
  kids : ∀ h', h = h' + 1 → x.kids ≠ [] ∧ ∀ y ∈ x.kids, KidOk σ g h' y
structure Ext (σ : Ct) (g : Int → Option (Node × Plc)) (σ' : Ct) (g' : Int → Option (Node × Plc)) : Prop where
  n : σ'.n = σ.n
  h : ∀ k x u, Held σ g k x u → Held σ' g' k x u
theorem nd_of {g : Int → Option (Node × Plc)} {k : Int} {x : Node} {u : Plc} (h : g k = some (x, u)) : nd g k = x := by unfold nd; rw [h]
theorem flatMap_cg {α β : Type} {f f' : α → List β} : ∀ {l : List α}, (∀ x ∈ l, f x = f' x) → l.flatMap f = l.flatMap f'
  | [], _ => rfl
  | x :: l, h => by rw [List.flatMap_cons, List.flatMap_cons, h x (List.mem_cons_self ..), flatMap_cg fun y hy => h y (List.mem_cons_of_mem _ hy)]
theorem Ext.tr {σ σ' : Ct} {g g' : Int → Option (Node × Plc)} (e : Ext σ g σ' g') : ∀ h k, Tr σ g h k → Tr σ' g' h k ∧ itemsT g' h k = itemsT g h k ∧ (WF g h k → WF g' h k)
  | 0, k, t => by
    obtain ⟨⟨u, hu⟩, t2⟩ := t
    have h2 := e.h _ _ _ hu
    have hn := nd_of h2.hg
    refine ⟨⟨⟨u, by rw [hn]; exact h2⟩, by rw [hn]; exact t2⟩, by rw [itemsT, itemsT, hn], fun w => by rw [WF, hn]; exact w⟩
  | h + 1, k, t => by
    obtain ⟨⟨u, hu⟩, t2, t3, t4⟩ := t
    have h2 := e.h _ _ _ hu
    have hn := nd_of h2.hg
    have hy : ∀ y ∈ (nd g k).kids, Tr σ g h y.addr := fun y hy => by
      obtain ⟨i, hi, e⟩ := List.mem_iff_getElem.1 hy
      have := t4 i hi; rwa [getD_get hi, e] at this
    refine ⟨⟨⟨u, by rw [hn]; exact h2⟩, by rw [hn]; exact t2, by rw [hn]; exact t3, fun i hi => ?_⟩, ?_, fun w => ?_⟩
    · rw [hn] at hi ⊢; exact (e.tr h _ (t4 i hi)).1
    · rw [itemsT, itemsT, hn]; exact flatMap_cg fun y hy' => (e.tr h _ (hy y hy')).2.1
    · obtain ⟨w1, w2, w3⟩ := w
      rw [WF, hn]
      refine ⟨w1, w2, fun y hy' => ⟨(e.tr h _ (hy y hy')).2.2 (w3 y hy').1, ?_⟩⟩
      rw [(e.tr h _ (hy y hy')).2.1]; exact (w3 y hy').2
theorem KidOk.ext {σ σ' : Ct} {g g' : Int → Option (Node × Plc)} (e : Ext σ g σ' g') {h : Nat} {y : Kid} (k : KidOk σ g h y) : KidOk σ' g' h y ∧ itemsT g' h y.addr = itemsT g h y.addr := by
  obtain ⟨h1, h2, h3⟩ := e.tr h _ k.tr
  exact ⟨⟨h1, h3 k.wf, by rw [h2]; exact k.fst, k.ad⟩, h2⟩
theorem Good.ext {σ σ' : Ct} {g g' : Int → Option (Node × Plc)} (e : Ext σ g σ' g') {h : Nat} {x : Node} (k : Good σ g h x) : Good σ' g' h x ∧ itemsX g' h x = itemsX g h x := by
  refine ⟨⟨k.hs, k.ok, k.lv, k.leaf, fun h' hh => ⟨(k.kids h' hh).1, fun y hy => (((k.kids h' hh).2 y hy).ext e).1⟩⟩, ?_⟩
  cases h with
  | zero => rfl
  | succ h => exact flatMap_cg fun y hy => (((k.kids h rfl).2 y hy).ext e).2
theorem Good.fst {σ : Ct} {g : Int → Option (Node × Plc)} {h : Nat} {x : Node} (k : Good σ g h x) : ∃ z r, itemsX g h x = z :: r ∧ (nkeys x).getD 0 default = z.key := by
  cases h with
  | zero =>
    have := k.leaf rfl
    cases hx : x.items with
    | nil => exact absurd hx this
    | cons z r => exact ⟨z, r, hx, by simp [nkeys, hx, List.getD_eq_getElem?_getD]⟩
  | succ h =>
    obtain ⟨h1, h2⟩ := k.kids h rfl
    have h3 := (nodeOk_kids k.ok (by rw [k.lv]; omega)).2.2
    have h4 : x.items = [] := List.eq_nil_of_length_eq_zero h3
    cases hx : x.kids with
    | nil => exact absurd hx h1
    | cons y ys =>
      obtain ⟨z, r, h5, h6⟩ := (h2 y (by rw [hx]; exact List.mem_cons_self ..)).fst
      refine ⟨z, r ++ catK (itemsT g h) ys, ?_, ?_⟩
      · show catK (itemsT g h) x.kids = _
        rw [hx]; show itemsT g h y.addr ++ _ = _; rw [h5]; rfl
      · rw [← h6]; simp [nkeys, h4, hx, List.getD_eq_getElem?_getD]
theorem firstFree_some {σ : Ct} : ∀ m i j, i ≤ j → j < i + m → σ.now j = 0 ∧ σ.done j = 0 → ∃ k, σ.firstFree m i = some k ∧ i ≤ k ∧ k ≤ j ∧ σ.now k = 0
  | 0, i, j, h1, h2, _ => by omega
  | m + 1, i, j, h1, h2, h3 => by
    rw [Ct.firstFree]
    by_cases h : σ.now i = 0 ∧ σ.done i = 0
    · exact ⟨i, by rw [if_pos h], Nat.le_refl _, h1, h.1⟩
    · rw [if_neg h]
      have hne : i ≠ j := fun e => by subst e; exact h h3
      obtain ⟨k, a1, a2, a3, a4⟩ := firstFree_some m (i + 1) j (by omega) (by omega) h3
      exact ⟨k, a1, by omega, a3, a4⟩
structure Fre (σ : Ct) (u : Nat) : Prop where
  n : σ.n = 256
  h : ∀ i, 8 + u ≤ i → i < 256 → σ.now i = 0 ∧ σ.done i = 0
theorem Fre.some {σ : Ct} {u : Nat} (h : Fre σ u) (hu : u < 248) : ∃ i, σ.free? = some i ∧ 8 ≤ i ∧ i ≤ 8 + u ∧ σ.now i = 0 := by
  have e : firstN σ.n = 8 := by rw [h.n]; rfl
  unfold Ct.free?
  rw [e, h.n]
  exact firstFree_some (256 - 8) 8 (8 + u) (by omega) (by omega) (h.h _ (Nat.le_refl _) (by omega))
theorem Fre.next {σ : Ct} {u i : Nat} (h : Fre σ u) (hi : i ≤ 8 + u) : Fre { σ with now := nset σ.now i 1 } (u + 1) := by
  refine ⟨h.n, fun j h1 h2 => ?_⟩
  show nset σ.now i 1 j = 0 ∧ _
  unfold nset; rw [if_neg (by omega)]; exact h.h j (by omega) h2
theorem Fre.new : Fre (Ct.new 256) 0 := ⟨rfl, fun _ _ _ => ⟨rfl, rfl⟩⟩
theorem Ris.keys {l : List Item} (h : Ris l) : (l.map Item.key).Pairwise fun a b => a.lt b = true := List.pairwise_map.2 h
end Go.Proofs.Ytldonbnjefhfdaa
/- The plain law of what a commit writes: how many blocks. -/
namespace Go.Proofs.Ytldonbnjefhfdaa
open Go.Cam
set_option maxRecDepth 100000
/-- the first so many sectors may be counted, the others are free -/
structure Fr (σ : Ct) (u : Nat) : Prop where
  h : ∀ j, firstN σ.n + u ≤ j → j < σ.n → σ.now j = 0 ∧ σ.done j = 0
theorem Fr.some {σ : Ct} {u : Nat} (h : Fr σ u) (hu : firstN σ.n + u < σ.n) : ∃ i, σ.free? = some i ∧ firstN σ.n ≤ i ∧ i ≤ firstN σ.n + u ∧ σ.now i = 0 := by
  unfold Ct.free?
  exact firstFree_some (σ.n - firstN σ.n) (firstN σ.n) (firstN σ.n + u) (by omega) (by omega) (h.h _ (Nat.le_refl _) hu)
theorem Fr.next {σ : Ct} {u i : Nat} (h : Fr σ u) (hi : i ≤ firstN σ.n + u) (v : Nat) : Fr { σ with now := nset σ.now i v } (u + 1) :=
  ⟨fun j h1 h2 => by
    have h1 : firstN σ.n + (u + 1) ≤ j := h1
    show nset σ.now i v j = 0 ∧ _
    unfold nset; rw [if_neg (by omega)]; exact h.h j (by omega) h2⟩
theorem Fr.next2 {σ : Ct} {u i : Nat} (h : Fr σ u) (hi : i ≤ firstN σ.n + u) (v v2 : Nat) : Fr { σ with now := nset (nset σ.now i v) i v2 } (u + 1) :=
  ⟨fun j h1 h2 => by
    have h1 : firstN σ.n + (u + 1) ≤ j := h1
    show nset (nset σ.now i v) i v2 j = 0 ∧ _
    unfold nset; rw [if_neg (by omega), if_neg (by omega)]; exact h.h j (by omega) h2⟩
theorem BmOk.put {σ : Ct} {g : Int → Option OB} (h : BmOk σ g) {i : Nat} (hi : i < σ.n) {o : OB} (h1 : o.kind = 5) (h2 : o.l.length ≤ 128) (h3 : Bys o.l) (v : Nat) : BmOk { σ with now := nset σ.now i v } (bset g i o) := by
  refine ⟨fun k hk => ?_, fun k o' hk => ?_⟩
  · unfold bset at hk
    by_cases e : k = (i : Int)
    · subst e; exact ⟨by omega, by show (i : Int) < (σ.n : Nat); omega⟩
    · rw [if_neg e] at hk; exact h.k k hk
  · unfold bset at hk
    by_cases e : k = (i : Int)
    · rw [if_pos e] at hk; cases hk; exact ⟨h1, h2, h3⟩
    · rw [if_neg e] at hk; exact h.o k o' hk
end Go.Proofs.Ytldonbnjefhfdaa
/- PoolSteps. -/
namespace Go.Proofs.Ytldonbnjefhfdaa
open Go.Cam
set_option maxRecDepth 100000
abbrev blR (w : Nat → Option Addr × Nat) (l : List (List Nat)) (i : Nat) : List Value := [.slice (w i).1 (l.getD i []).length (w i).2]
abbrev blF (w : Nat → Option Addr × Nat) (l : List (List Nat)) (i : Nat) : HP := BS (.slice (w i).1 (l.getD i []).length (w i).2) (l.getD i [])
theorem bls_of {H : Heap} {cs : List Value} (h : (Sh.slice 1 (.slice 1 (.int .u8))).ok H cs) : ∃ a c w, ∃ l : List (List Nat), cs = [.slice a l.length c] ∧ (∀ i, i < l.length → Bys (l.getD i [])) ∧ l.length < 9223372036854775808 ∧ ∀ M, (SA none 1 (.slice a l.length c) l.length (blR w l)).p H M ∧ (Fam l.length (blF w l)).p H M := by
  obtain ⟨a, len, cap, row, rfl, h1, h2, h3, h4⟩ := h
  have hm : maxLen = 9223372036854775807 := rfl
  haveI : Inhabited (List Nat × (Option Addr × Nat)) := ⟨([], (none, 0))⟩
  obtain ⟨xs, rfl, hxs⟩ := list_choose (α := List Nat × (Option Addr × Nat)) (φ := fun i x => row i = [.slice x.2.1 x.1.length x.2.2] ∧ Bys x.1 ∧ ∀ M, (BS (.slice x.2.1 x.1.length x.2.2) x.1).p H M) len fun i hi => by
    obtain ⟨a, c, l, e, h1, h2, h3⟩ := Sh.bytes (h4 i hi)
    exact ⟨(l, (a, c)), e, h1, h3⟩
  have hd : ∀ i, i < xs.length → (xs.map (·.1)).getD i [] = (xs.getD i default).1 := fun i hi => by simp [List.getD_eq_getElem?_getD, hi]
  refine ⟨a, cap, fun i => (xs.getD i default).2, xs.map (·.1), by simp, fun i hi => ?_, by simp; omega, fun M => ⟨?_, fun i hi => ?_⟩⟩
  · rw [List.length_map] at hi; rw [hd i hi]; exact (hxs i hi).2.1
  · rw [List.length_map]
    exact SA.cg _ (fun i hi => by rw [(hxs i hi).1]; unfold blR; rw [hd i hi]) H M (h3 M)
  · rw [List.length_map] at hi
    show (BS _ _).p H M
    rw [hd i hi]
    exact (hxs i hi).2.2 M
end Go.Proofs.Ytldonbnjefhfdaa
/- The plain law of two transactions. -/
namespace Go.Proofs.Ytldonbnjefhfdaa
open Go.Cam
set_option maxRecDepth 100000
/-- a transaction that has begun at some counts: what was laid down, and where -/
structure Tx (N : Nat) (σ0 : Ct) (u : Nat) (l : List (List Nat)) (ks : List Int) (σ : Ct) (g : Int → Option OB) : Prop where
  n : σ.n = N
  fr : Fr σ u
  c : ∀ j, σ.now j ≤ 1
  lo : ∀ j, σ.now j ≠ 0 → firstN N ≤ j ∧ j < N
  kp : ∀ j, σ0.now j ≠ 0 → σ.now j = σ0.now j
  gk : ∀ k : Int, g k ≠ none → ∃ j : Nat, k = (j : Int) ∧ σ.now j = 1 ∧ σ0.now j = 0
  go : ∀ k o, g k = some o → o.kind = 5 ∧ o.l.length ≤ 128 ∧ Bys o.l
  at_ : ∀ i, i < ks.length → i < l.length ∧ ∃ k : Nat, ks.getD i 0 = (k : Int) ∧ σ0.now k = 0 ∧ σ.now k = 1 ∧ ∃ a c, g (k : Int) = some ⟨5, (l.getD i []).take 128, a, c⟩
theorem Tx.begin {N : Nat} {σ0 : Ct} {u : Nat} {l : List (List Nat)} (hn : σ0.n = N) (fr : Fr σ0 u) (c : ∀ j, σ0.now j ≤ 1) (lo : ∀ j, σ0.now j ≠ 0 → firstN N ≤ j ∧ j < N) : Tx N σ0 u l [] σ0 (fun _ => none) :=
  ⟨hn, fr, c, lo, fun _ _ => rfl, fun _ h => absurd rfl h, fun _ _ h => (nomatch h), fun _ h => absurd h (Nat.not_lt_zero _)⟩
theorem Tx.put {N : Nat} {σ0 : Ct} {u : Nat} {l : List (List Nat)} {ks : List Int} {σ : Ct} {g : Int → Option OB} (h : Tx N σ0 u l ks σ g) {j : Nat} (j2 : firstN N ≤ j) (j3 : j ≤ firstN N + u) (j5 : j < N) (j4 : σ.now j = 0) (hi : ks.length < l.length) (hb : Bys ((l.getD ks.length []).take 128)) (a : Option Addr) (c : Nat) :
    Tx N σ0 (u + 1) l (ks ++ [(j : Int)]) { σ with now := nset σ.now j 1 } (bset g (j : Int) ⟨5, (l.getD ks.length []).take 128, a, c⟩) := by
  have h0 : σ0.now j = 0 := Classical.byContradiction fun e => by have := h.kp j e; omega
  have hset : ∀ q, q ≠ j → nset σ.now j 1 q = σ.now q := fun q e => by unfold nset; rw [if_neg e]
  have hself : nset σ.now j 1 j = 1 := by unfold nset; rw [if_pos rfl]
  refine ⟨h.n, h.fr.next (by rw [h.n]; exact j3) 1, fun q => ?_, fun q hq => ?_, fun q hq => ?_, fun k hk => ?_, fun k o hk => ?_, fun i hi2 => ?_⟩
  · show nset σ.now j 1 q ≤ 1
    unfold nset; split
    · decide
    · exact h.c q
  · have hq : nset σ.now j 1 q ≠ 0 := hq
    by_cases e : q = j
    · subst e; exact ⟨j2, j5⟩
    · rw [hset q e] at hq; exact h.lo q hq
  · show nset σ.now j 1 q = σ0.now q
    rw [hset q fun e => by subst e; exact hq h0]; exact h.kp q hq
  · unfold bset at hk
    by_cases e : k = (j : Int)
    · exact ⟨j, e, hself, h0⟩
    · rw [if_neg e] at hk
      obtain ⟨q, h1, h2, h3⟩ := h.gk k hk
      exact ⟨q, h1, by show nset σ.now j 1 q = 1; rw [hset q (by omega)]; exact h2, h3⟩
  · unfold bset at hk
    by_cases e : k = (j : Int)
    · rw [if_pos e] at hk; cases hk; exact ⟨rfl, by show ((l.getD ks.length []).take 128).length ≤ 128; rw [List.length_take]; omega, hb⟩
    · rw [if_neg e] at hk; exact h.go k o hk
  · rw [List.length_append, List.length_singleton] at hi2
    by_cases e : i < ks.length
    · obtain ⟨h1, k, h2, h3, h4, a', c', h5⟩ := h.at_ i e
      have hne : k ≠ j := fun e => by subst e; omega
      refine ⟨h1, k, by rw [List.getD_eq_getElem?_getD, List.getElem?_append_left e, ← List.getD_eq_getElem?_getD]; exact h2, h3, by show nset σ.now j 1 k = 1; rw [hset k hne]; exact h4, a', c', ?_⟩
      unfold bset; rw [if_neg (by omega)]; exact h5
    · have : i = ks.length := by omega
      subst this
      exact ⟨hi, j, by simp [List.getD_eq_getElem?_getD], h0, hself, a, c, by unfold bset; rw [if_pos rfl]⟩
theorem Tx.cmt {N : Nat} {σ0 : Ct} {u : Nat} {l : List (List Nat)} {ks : List Int} {σ : Ct} {g : Int → Option OB} (h : Tx N σ0 u l ks σ g) (h1 : 32 ≤ N) (h2 : N ≤ 2048) : Cmt σ g := by
  have hn := h.n
  refine ⟨by omega, by omega, ⟨fun k hk => ?_, h.go⟩, fun k hk => ?_, fun a => Nat.le_trans (h.c a) (by decide), fun a ha => by rw [hn]; exact (h.lo a ha).1⟩
  · obtain ⟨j, rfl, h3, _⟩ := h.gk k hk
    have := h.lo j (by omega)
    omega
  · obtain ⟨j, rfl, h3, _⟩ := h.gk k hk
    have := h.lo j (by omega)
    rw [hn]; omega
/-- what was committed is begun from -/
theorem Tx.next {N : Nat} {σ0 : Ct} {u : Nat} {l l' : List (List Nat)} {ks : List Int} {σ : Ct} {g : Int → Option OB} (h : Tx N σ0 u l ks σ g) : Tx N { σ with done := σ.now } u l' [] { σ with done := σ.now } (fun _ => none) :=
  Tx.begin h.n ⟨fun j h1 h2 => ⟨(h.fr.h j h1 h2).1, (h.fr.h j h1 h2).1⟩⟩ h.c h.lo
/-- data that is told by a disk -/
def OnDsk (N gn : Nat) (now : Nat → Nat) (S : Nat → List Nat) (ks : List Int) (l : List (List Nat)) : Prop := ∀ i, i < ks.length → i < l.length ∧ ∃ k : Nat, ks.getD i 0 = (k : Int) ∧ firstN N ≤ k ∧ k < N ∧ now k = 1 ∧ S k = sealB ⟨5, k, ((l.getD i []).take 128).length, 0, gn⟩ ((l.getD i []).take 128)
theorem Dr.puts_st : ∀ (ws : List (Nat × List Nat)) (σ : Dr), (σ.puts ws).1.steps ≤ σ.steps + ws.length ∧ (σ.puts ws).1.n = σ.n
  | [], σ => ⟨Nat.le_refl _, rfl⟩
  | x :: ws, σ => by
    obtain ⟨h1, h2⟩ := σ.write_n x.1 x.2
    rw [Dr.puts]
    split
    · obtain ⟨h3, h4⟩ := Dr.puts_st ws (σ.write x.1 x.2).1
      exact ⟨by rw [List.length_cons]; omega, h4.trans h1⟩
    · exact ⟨by rw [List.length_cons]; dsimp only; omega, h1⟩
theorem Dr.commit_st (σd : Dr) (σ : Ct) (g : Int → Option OB) (gn : Nat) : (σd.commit σ g gn).1.steps ≤ σd.steps + σ.n + areaN σ.n + 3 := by
  have h1 := putsW_len σ g gn (keysN (bmap g) σ.n)
  have h2 := keysN_len (bmap g) σ.n
  obtain ⟨h3, _⟩ := Dr.puts_st (putsW σ g gn (keysN (bmap g) σ.n)) σd
  unfold Dr.commit
  split
  · unfold Dr.flip
    obtain ⟨_, h4⟩ := Dr.writes_n (areaW σ σ.n gn (areaN σ.n)) (σd.puts (putsW σ g gn (keysN (bmap g) σ.n))).1
    rw [areaW_len] at h4
    split
    · obtain ⟨_, h5⟩ := Dr.writes_n [(gn % 2, sealB ⟨1, gn % 2, 0, 0, gn⟩ (supB σ.n 8))] ((σd.puts (putsW σ g gn (keysN (bmap g) σ.n))).1.writes (areaW σ σ.n gn (areaN σ.n))).1
      rw [List.length_singleton] at h5
      omega
    · dsimp only; omega
  · dsimp only; omega
/-- all of two transactions: the disk that crashed within the second commit is mounted -/
theorem two_tx {N : Nat} (hN1 : 32 ≤ N) (hN2 : N ≤ 63) {σd : Dr} (hon : σd.on) (hdn : σd.n = N) (hsup : IsSup N (1 % 2) (σd.lastS (1 % 2)) (some 1)) {l0 l1 : List (List Nat)} {ks0 ks1 : List Int} {σ0 σ1 σ2 : Ct} {u0 u1 : Nat} {g1 g2 : Int → Option OB} (h1 : Tx N σ0 u0 l0 ks0 σ1 g1)
    (h2 : Tx N { σ1 with done := σ1.now } u1 l1 ks1 σ2 g2) (s : Nat) (keep : List Int) {τ : Dr} (hτ : τ = ((Dr.commit { (σd.commit σ1 g1 2).1 with fuse := s } σ2 g2 3).1.crash keep)) :
    τ.n = N ∧ τ.on ∧ ((∃ now : Nat → Nat, (Dr.commit { (σd.commit σ1 g1 2).1 with fuse := s } σ2 g2 3).2 = false ∧ Mnt τ.lastS N 2 (fun i => σ1.bodyN i 118) ∧ now = σ1.get ∧ OnDsk N 2 now τ.lastS ks0 l0 ∧ ∀ i, i < ks1.length → ∃ k : Nat, ks1.getD i 0 = (k : Int) ∧ k < N ∧ now k = 0) ∨
      (∃ now : Nat → Nat, Mnt τ.lastS N 3 (fun i => σ2.bodyN i 118) ∧ now = σ2.get ∧ OnDsk N 2 now τ.lastS ks0 l0 ∧ OnDsk N 3 now τ.lastS ks1 l1)) := by
  have c1 := h1.cmt hN1 (by omega)
  have c2 := h2.cmt hN1 (by omega)
  have hn1 := h1.n
  have hn2 := h2.n
  obtain ⟨m1, m2, m3, m4⟩ := commit_mnt hon c1 (by omega) 1 (by decide) (by decide) (by rw [hn1]; exact hsup)
  obtain ⟨o1, o2, o3, _, _, o6⟩ := Dr.on_commit hon σ1 g1 2
  rw [hn1] at m1 m2
  rw [show (1 : Nat) + 1 = 2 from rfl] at m1 m2 m3 m4
  obtain ⟨d1, d2, d3⟩ := crash_mnt (σd := { (σd.commit σ1 g1 2).1 with fuse := s }) o6 c2 (by show (σd.commit σ1 g1 2).1.n = σ2.n; rw [o3]; omega) 2 (by decide) (by decide) (by rw [hn2]; exact m2) (by rw [hn2]; exact m1) keep
  rw [show (2 : Nat) + 1 = 3 from rfl, ← hτ] at d1 d2 d3
  rw [hn2] at d1 d2 d3
  have hon' : τ.on := by rw [hτ]; exact (Dr.crash_spec _ keep).2.2.1
  have hd0 : ∀ now : Nat → Nat, (∀ j, σ1.now j ≠ 0 → j < N → now j = σ1.now j) → OnDsk N 2 now τ.lastS ks0 l0 := fun now hnow i hi => by
    obtain ⟨a1, k, a2, a3, a4, a, c, a5⟩ := h1.at_ i hi
    obtain ⟨b1, b2⟩ := h1.lo k (by omega)
    refine ⟨a1, k, a2, b1, b2, by rw [hnow k (by omega) b2]; exact a4, ?_⟩
    have hg : g2 k = none := Classical.byContradiction fun e => by
      obtain ⟨j, e1, _, e2⟩ := h2.gk _ e
      have : j = k := by omega
      subst this
      have e2 : σ1.now j = 0 := e2
      omega
    rw [d3 k b1 b2 (.inl hg)]
    have := m3 (k : Int) _ a5 (by rw [Int.toNat_natCast]; omega)
    rw [Int.toNat_natCast] at this
    exact this
  refine ⟨d1, hon', ?_⟩
  rcases d2 with ⟨d2, d4⟩ | ⟨d2, d4⟩
  · refine .inl ⟨σ1.get, d2, d4, rfl, hd0 _ fun j _ hj => by unfold Ct.get; rw [if_pos (by omega)], fun i hi => ?_⟩
    obtain ⟨a1, k, a2, a3, a4, _⟩ := h2.at_ i hi
    obtain ⟨b1, b2⟩ := h2.lo k (by omega)
    exact ⟨k, a2, b2, by unfold Ct.get; rw [if_pos (by omega)]; exact a3⟩
  · refine .inr ⟨σ2.get, d2, rfl, hd0 _ fun j hj hj2 => by unfold Ct.get; rw [if_pos (by omega)]; exact h2.kp j hj, fun i hi => ?_⟩
    obtain ⟨a1, k, a2, a3, a4, a, c, a5⟩ := h2.at_ i hi
    obtain ⟨b1, b2⟩ := h2.lo k (by omega)
    refine ⟨a1, k, a2, b1, b2, by unfold Ct.get; rw [if_pos (by omega)]; exact a4, ?_⟩
    have := d4 (k : Int) _ a5 (by rw [Int.toNat_natCast]; omega)
    rw [Int.toNat_natCast] at this
    exact this
end Go.Proofs.Ytldonbnjefhfdaa
/- What the tie of PoolCrash needs. -/
namespace Go.Proofs.Ytldonbnjefhfdaa
open Go.Cam
set_option maxRecDepth 100000
theorem Try.own : ownKnob Try.prog.godebug = none := by kernel_rfl
theorem Try.laidOut : laidOutB Try.prog = true := by kernel_rfl
def twoSh : Sh := (Sh.slice 1 (.slice 1 (.int .u8))).rep 2
def offSh : Sh := .cat (.int .i64) (.cat (.slice 1 (.int .i64)) .emp)
theorem two_of {H : Heap} {cs : List Value} (h : twoSh.ok H cs) : ∃ a c w l a' c' w' l', cs.toArray = #[.slice a (List.length l) c, .slice a' (List.length l') c'] ∧ (∀ i, i < l.length → Bys (l.getD i [])) ∧ (∀ i, i < l'.length → Bys (l'.getD i [])) ∧ l.length < 9223372036854775808 ∧ l'.length < 9223372036854775808 ∧
    ∀ M, (SA none 1 (.slice a l.length c) l.length (blR w l)).p H M ∧ (Fam l.length (blF w l)).p H M ∧ (SA none 1 (.slice a' l'.length c') l'.length (blR w' l')).p H M ∧ (Fam l'.length (blF w' l')).p H M := by
  obtain ⟨_, _, rfl, h0, _, _, rfl, h1, rfl⟩ := h
  obtain ⟨a, c, w, l, rfl, h2, h3, h4⟩ := bls_of h0
  obtain ⟨a', c', w', l', rfl, h5, h6, h7⟩ := bls_of h1
  exact ⟨a, c, w, l, a', c', w', l', rfl, h2, h5, h3, h6, fun M => ⟨(h4 M).1, (h4 M).2, (h7 M).1, (h7 M).2⟩⟩
theorem off_of {H : Heap} {cs : List Value} (h : offSh.ok H cs) : ∃ st a c l, cs.toArray = #[.int .i64 st, .slice a (List.length l) c] ∧ (-9223372036854775808 ≤ st ∧ st ≤ 9223372036854775807) ∧ KeepOk l ∧ l.length < 9223372036854775808 ∧ ∀ M, (SA none 1 (.slice a l.length c) l.length (pathR l)).p H M := by
  obtain ⟨_, _, rfl, ⟨st, rfl, hw⟩, _, _, rfl, h1, rfl⟩ := h
  obtain ⟨a, c, l, rfl, h2, h3, h4⟩ := Sh.ints h1
  exact ⟨st, a, c, l, rfl, wf_i64 hw, h2, h3, h4⟩
end Go.Proofs.Ytldonbnjefhfdaa
