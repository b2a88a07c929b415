/- The plain law of rows and trees: a scan of a tree is a scan of its row; what a key gets; what Put and Row make. -/
import Derived.Test.YtgbbcpfnmkeijaaGreatGrtBB
namespace Go.Proofs.YtgbbcpfnmkeijaaGreat
open Go.Cam
set_option maxRecDepth 100000
theorem Key.irrefl (a : Key) : a.lt a = false := by
  cases h : a.lt a with
  | false => rfl
  | true => rw [Key.lt_iff] at h; omega
theorem Key.trans {a b c : Key} (h : a.lt b = true) (g : b.lt c = true) : a.lt c = true := by
  rw [Key.lt_iff] at *; omega
theorem Key.asymm {a b : Key} (h : a.lt b = true) : b.lt a = false := by
  cases g : b.lt a with
  | false => rfl
  | true => rw [Key.lt_iff] at *; omega
theorem Key.lt_le {a b c : Key} (h : a.lt b = true) (g : c.lt b = false) : a.lt c = true := by
  have g' : ¬ (c.lt b = true) := by rw [g]; simp
  rw [Key.lt_iff] at *; omega
theorem Key.tot {a b : Key} (h : a.lt b = false) (g : b.lt a = false) : a = b := by
  have h' : ¬ (a.lt b = true) := by rw [h]; simp
  have g' : ¬ (b.lt a = true) := by rw [g]; simp
  rw [Key.lt_iff] at *
  obtain ⟨x, y, z⟩ := a; obtain ⟨u, v, w⟩ := b
  simp only [Key.mk.injEq]; dsimp only at *; omega
def Ris (l : List Item) : Prop := l.Pairwise fun a b => a.key.lt b.key = true
theorem Ris.app {a b : List Item} (h : Ris (a ++ b)) : Ris a ∧ Ris b ∧ ∀ x ∈ a, ∀ y ∈ b, x.key.lt y.key = true := List.pairwise_append.1 h
theorem Ris.cons {x : Item} {l : List Item} (h : Ris (x :: l)) : (∀ y ∈ l, x.key.lt y.key = true) ∧ Ris l := List.pairwise_cons.1 h
/-- what a scan adds -/
def pick (fr to : Key) (most : Int) (l out : List Item) : List Item := out ++ (l.filter fun x => rscanP fr to x.key).take (most - (out.length : Int)).toNat
theorem pick_nil (fr to : Key) (most : Int) (out : List Item) : pick fr to most [] out = out := by simp [pick]
theorem pick_app (fr to : Key) (most : Int) (a b out : List Item) : pick fr to most (a ++ b) out = pick fr to most b (pick fr to most a out) := by
  unfold pick
  rw [List.filter_append, List.take_append, List.append_assoc]
  congr 2
  rw [List.length_append, List.length_take]
  by_cases h : (most - (out.length : Int)).toNat ≤ (a.filter fun x => rscanP fr to x.key).length
  · rw [show (most - (out.length : Int)).toNat - (a.filter fun x => rscanP fr to x.key).length = 0 by omega, show (most - ((out.length + min (most - (out.length : Int)).toNat (a.filter fun x => rscanP fr to x.key).length : Nat) : Int)).toNat = 0 by omega]
  · congr 1; omega
theorem pick_none {fr to : Key} {most : Int} {l out : List Item} (h : ∀ x ∈ l, rscanP fr to x.key = false) : pick fr to most l out = out := by
  have : l.filter (fun x => rscanP fr to x.key) = [] := List.filter_eq_nil_iff.2 fun x hx => by rw [h x hx]; simp
  unfold pick; rw [this]; simp
theorem pick_full {fr to : Key} {most : Int} {l out : List Item} (h : most ≤ (out.length : Int)) : pick fr to most l out = out := by
  unfold pick; rw [show (most - (out.length : Int)).toNat = 0 by omega]; simp
theorem pick_one {fr to : Key} {most : Int} {x : Item} {out : List Item} (h : rscanP fr to x.key = true) (h2 : (out.length : Int) < most) : pick fr to most [x] out = out ++ [x] := by
  unfold pick
  obtain ⟨m, hm⟩ : ∃ m, (most - (out.length : Int)).toNat = m + 1 := ⟨(most - (out.length : Int)).toNat - 1, by omega⟩
  rw [hm]; simp [h]
theorem P_of {fr to k : Key} (h : k.lt fr = false) (g : to.lt k = false) : rscanP fr to k = true := by simp [rscanP, h, g]
theorem P_hi {fr to k : Key} (h : to.lt k = true) : rscanP fr to k = false := by simp [rscanP, h]
theorem P_lo {fr to k : Key} (h : k.lt fr = true) : rscanP fr to k = false := by simp [rscanP, h]
theorem scanItems_pick (fr to : Key) (most : Int) : ∀ l out, Ris l → (∀ x ∈ l, x.key.lt fr = false) → scanItems to most l out = pick fr to most l out
  | [], out, _, _ => by rw [pick_nil]; rfl
  | x :: l, out, hr, hf => by
    obtain ⟨h1, h2⟩ := hr.cons
    rw [scanItems]
    cases hs : scanStop to most x.key out with
    | true =>
      rw [if_pos rfl]
      unfold scanStop at hs
      rw [Bool.or_eq_true, decide_eq_true_eq] at hs
      rcases hs with h | h
      · rw [pick_none]
        intro y hy
        rcases List.mem_cons.1 hy with rfl | hy
        · exact P_hi h
        · exact P_hi (Key.trans h (h1 y hy))
      · rw [pick_full (by omega)]
    | false =>
      rw [if_neg (by simp)]
      unfold scanStop at hs
      rw [Bool.or_eq_false_iff, decide_eq_false_iff_not] at hs
      rw [scanItems_pick fr to most l _ h2 fun y hy => hf y (List.mem_cons_of_mem _ hy), show x :: l = [x] ++ l from rfl, pick_app, pick_one (P_of (hf x (List.mem_cons_self ..)) hs.1) (by omega)]
/-- the items of kids, one behind the other -/
abbrev catK (T : Int → List Item) (ks : List Kid) : List Item := ks.flatMap fun y => T y.addr
theorem scanKids_pick (fr to : Key) (most : Int) (T : Int → List Item) (rec : Int → List Item → List Item) : ∀ ks out, (∀ y ∈ ks, ∀ out, rec y.addr out = pick fr to most (T y.addr) out) → (∀ y ∈ ks, ∃ x r, T y.addr = x :: r ∧ y.key = x.key) → Ris (catK T ks) → scanKids to most rec ks out = pick fr to most (catK T ks) out
  | [], out, _, _, _ => by rw [show catK T [] = [] from rfl, pick_nil]; rfl
  | y :: ks, out, hrec, hk, hr => by
    have e : catK T (y :: ks) = T y.addr ++ catK T ks := rfl
    rw [scanKids]
    cases hs : scanStop to most y.key out with
    | true =>
      rw [if_pos rfl]
      unfold scanStop at hs
      rw [Bool.or_eq_true, decide_eq_true_eq] at hs
      rcases hs with h | h
      · rw [pick_none]
        intro z hz
        obtain ⟨x, r, h1, h2⟩ := hk y (List.mem_cons_self ..)
        rw [e, h1, List.cons_append] at hr hz
        rw [h2] at h
        rcases List.mem_cons.1 hz with rfl | hz
        · exact P_hi h
        · exact P_hi (Key.trans h (hr.cons.1 z hz))
      · rw [pick_full (by omega)]
    | false =>
      rw [if_neg (by simp), hrec y (List.mem_cons_self ..), e, pick_app]
      rw [e] at hr
      exact scanKids_pick fr to most T rec ks _ (fun y hy => hrec y (List.mem_cons_of_mem _ hy)) (fun y hy => hk y (List.mem_cons_of_mem _ hy)) hr.app.2.1
theorem seekN_spec (p : Nat → Bool) : ∀ m i, i ≤ seekN p m i ∧ (∀ j, i ≤ j → j < seekN p m i → p j = true) ∧ (seekN p m i < i + m → p (seekN p m i) = false)
  | 0, i => ⟨Nat.le_refl _, fun j h1 h2 => by simp only [seekN] at h2; omega, fun h => by simp only [seekN] at h; omega⟩
  | m + 1, i => by
    unfold seekN
    cases hp : p i with
    | false => rw [if_neg (by simp)]; exact ⟨Nat.le_refl _, fun j h1 h2 => by omega, fun _ => hp⟩
    | true =>
      rw [if_pos rfl]
      obtain ⟨h1, h2, h3⟩ := seekN_spec p m (i + 1)
      refine ⟨by omega, fun j hj1 hj2 => ?_, fun h => h3 (by omega)⟩
      by_cases e : j = i
      · subst e; exact hp
      · exact h2 j (by omega) hj2
theorem getD_get {α : Type} [Inhabited α] {l : List α} {i : Nat} (h : i < l.length) : l.getD i default = l[i] := by simp [List.getD_eq_getElem?_getD, h]
theorem mem_drop_i {α : Type} [Inhabited α] {l : List α} {s : Nat} {x : α} (h : x ∈ l.drop s) : ∃ j, s ≤ j ∧ j < l.length ∧ x = l.getD j default := by
  obtain ⟨i, hi, e⟩ := List.mem_iff_getElem.1 h
  rw [List.length_drop] at hi
  exact ⟨s + i, by omega, by omega, by rw [← e, getD_get (by omega), List.getElem_drop]⟩
theorem mem_take_i {α : Type} [Inhabited α] {l : List α} {s : Nat} {x : α} (h : x ∈ l.take s) : ∃ j, j < s ∧ j < l.length ∧ x = l.getD j default := by
  obtain ⟨i, hi, e⟩ := List.mem_iff_getElem.1 h
  rw [List.length_take] at hi
  exact ⟨i, by omega, by omega, by rw [← e, getD_get (by omega), List.getElem_take]⟩
theorem Ris.get {l : List Item} (h : Ris l) {i j : Nat} (hij : i < j) (hj : j < l.length) : (l.getD i default).key.lt (l.getD j default).key = true := by
  rw [getD_get (by omega), getD_get hj]; exact List.pairwise_iff_getElem.1 h i j (by omega) hj hij
def itemsT (g : Int → Option (Node × Plc)) : Nat → Int → List Item
  | 0, k => (nd g k).items
  | h + 1, k => catK (itemsT g h) (nd g k).kids
def WF (g : Int → Option (Node × Plc)) : Nat → Int → Prop
  | 0, k => (nd g k).level = 0 ∧ (nd g k).items ≠ []
  | h + 1, k => (nd g k).level = (h + 1 : Nat) ∧ (nd g k).kids ≠ [] ∧ ∀ y ∈ (nd g k).kids, WF g h y.addr ∧ ∃ x r, itemsT g h y.addr = x :: r ∧ y.key = x.key
/-- the first item of a kid -/
theorem kid_lo {T : Int → List Item} {ks : List Kid} (hr : Ris (catK T ks)) {s : Nat} (hs : s < ks.length) (hk : ∃ x r, T (ks.getD s default).addr = x :: r ∧ (ks.getD s default).key = x.key) :
    (∀ z ∈ catK T (ks.take s), z.key.lt (ks.getD s default).key = true) ∧ (∀ z ∈ T (ks.getD s default).addr, z.key.lt (ks.getD s default).key = false) ∧ Ris (T (ks.getD s default).addr) := by
  obtain ⟨x, r, h1, h2⟩ := hk
  have e : catK T ks = catK T (ks.take s) ++ (T (ks.getD s default).addr ++ catK T (ks.drop (s + 1))) := by
    conv => lhs; rw [← List.take_append_drop s ks, List.drop_eq_getElem_cons hs, ← getD_get hs]
    simp [catK]
  rw [e] at hr
  obtain ⟨a1, a2, a3⟩ := hr.app
  obtain ⟨b1, b2, b3⟩ := a2.app
  refine ⟨fun z hz => ?_, fun z hz => ?_, b1⟩
  · rw [h2]; exact a3 z hz x (by rw [h1]; simp)
  · rw [h1] at hz b1
    rw [h2]
    rcases List.mem_cons.1 hz with rfl | hz
    · exact Key.irrefl _
    · exact Key.asymm (b1.cons.1 z hz)
theorem catK_split (T : Int → List Item) (ks : List Kid) (s : Nat) : catK T ks = catK T (ks.take s) ++ catK T (ks.drop s) := by
  unfold catK
  rw [← List.flatMap_append, List.take_append_drop]
theorem mem_catK {T : Int → List Item} {ks : List Kid} {z : Item} (h : z ∈ catK T ks) : ∃ y ∈ ks, z ∈ T y.addr := by
  simpa [catK] using h
theorem catK_mem {T : Int → List Item} {ks : List Kid} {z : Item} {y : Kid} (hy : y ∈ ks) (h : z ∈ T y.addr) : z ∈ catK T ks := by
  simp only [catK, List.mem_flatMap]; exact ⟨y, hy, h⟩
theorem getD_mem {α : Type} [Inhabited α] {l : List α} {i : Nat} (h : i < l.length) : l.getD i default ∈ l := by rw [getD_get h]; exact List.getElem_mem h
/-- where a key leads: all items of the kids ahead are below, all of those behind above -/
theorem seek_kids {g : Int → Option (Node × Plc)} {T : Int → List Item} {x : Node} (key : Key) (h0 : x.level ≠ 0) (hn : x.kids ≠ []) (hr : Ris (catK T x.kids)) (hk : ∀ y ∈ x.kids, ∃ z r, T y.addr = z :: r ∧ y.key = z.key) :
    seekX x key < x.kids.length ∧ (∀ z ∈ catK T (x.kids.take (seekX x key)), z.key.lt key = true) ∧ (∀ j, seekX x key < j → j < x.kids.length → ∀ z ∈ T (x.kids.getD j default).addr, key.lt z.key = true) := by
  have hpos : 0 < x.kids.length := List.length_pos_iff.2 hn
  obtain ⟨h1, h2, h3⟩ := seekN_spec (fun i => !(key.lt (x.kids.getD i default).key)) x.kids.length 0
  have hle := seekN_le (fun i => !(key.lt (x.kids.getD i default).key)) x.kids.length 0
  have e : seekX x key = seekN (fun i => !(key.lt (x.kids.getD i default).key)) x.kids.length 0 - 1 := by unfold seekX; rw [if_neg h0]
  generalize seekN (fun i => !(key.lt (x.kids.getD i default).key)) x.kids.length 0 = z at *
  rw [e]
  refine ⟨by omega, fun w hw => ?_, fun j hj1 hj2 w hw => ?_⟩
  · by_cases hz : z = 0
    · subst hz; simp [catK] at hw
    · have := h2 (z - 1) (by omega) (by omega)
      have h4 := (kid_lo hr (s := z - 1) (by omega) (hk _ (getD_mem (by omega)))).1 w hw
      simp at this
      exact Key.lt_le h4 (by simpa [List.getD_eq_getElem?_getD] using this)
  · have hzl : z < x.kids.length := by omega
    have := h3 (by omega)
    simp only [Bool.not_eq_false'] at this
    have h5 := (kid_lo hr hj2 (hk _ (getD_mem hj2))).2.1 w hw
    by_cases hjz : j = z
    · subst hjz; exact Key.lt_le this h5
    · obtain ⟨u, r, hu1, hu2⟩ := hk _ (getD_mem hzl)
      have h6 := (kid_lo hr hj2 (hk _ (getD_mem hj2))).1 u (catK_mem (y := x.kids.getD z default) (by rw [getD_get hzl]; exact List.mem_take_iff_getElem.2 ⟨z, by omega, rfl⟩) (by rw [hu1]; simp))
      rw [← hu2] at h6
      exact Key.lt_le (Key.trans this h6) h5
theorem scan_pick (g : Int → Option (Node × Plc)) (fr to : Key) (most : Int) : ∀ h k out, WF g h k → Ris (itemsT g h k) → scanN g fr to most h k out = pick fr to most (itemsT g h k) out
  | 0, k, out, w, hr => by
    obtain ⟨w0, w1⟩ := w
    rw [itemsT] at *
    rw [scanN]
    obtain ⟨h1, h2, h3⟩ := seekN_spec (fun i => ((nd g k).items.getD i default).key.lt fr) (nd g k).items.length 0
    have e : seekX (nd g k) fr = seekN (fun i => ((nd g k).items.getD i default).key.lt fr) (nd g k).items.length 0 := by unfold seekX; rw [if_pos w0]
    rw [e]
    generalize seekN (fun i => ((nd g k).items.getD i default).key.lt fr) (nd g k).items.length 0 = s at *
    revert hr h1 h2 h3; generalize (nd g k).items = l
    intro hr h1 h2 h3
    conv => rhs; rw [← List.take_append_drop s l]
    rw [pick_app, pick_none (l := l.take s)]
    · refine scanItems_pick fr to most _ _ (hr.sublist (List.drop_sublist _ _)) fun x hx => ?_
      obtain ⟨j, hj1, hj2, rfl⟩ := mem_drop_i hx
      have h4 := h3 (by omega)
      by_cases e : s = j
      · subst e; exact h4
      · cases h5 : (l.getD j default).key.lt fr with
        | false => rfl
        | true => rw [← h4]; exact (Key.trans (hr.get (by omega) hj2) h5).symm
    · intro x hx
      obtain ⟨j, hj1, hj2, rfl⟩ := mem_take_i hx
      exact P_lo (h2 j (by omega) hj1)
  | h + 1, k, out, w, hr => by
    obtain ⟨w0, w1, w2⟩ := w
    rw [itemsT] at *
    rw [scanN]
    obtain ⟨s1, s2, s3⟩ := seek_kids (g := g) (T := itemsT g h) fr (by rw [w0]; omega) w1 hr fun y hy => (w2 y hy).2
    rw [catK_split (itemsT g h) (nd g k).kids (seekX (nd g k) fr), pick_app, pick_none (l := catK _ (List.take _ _)) fun x hx => P_lo (s2 x hx)]
    have hsub : ∀ y ∈ (nd g k).kids.drop (seekX (nd g k) fr), y ∈ (nd g k).kids := fun y hy => List.mem_of_mem_drop hy
    refine scanKids_pick fr to most (itemsT g h) _ _ _ (fun y hy out => ?_) (fun y hy => (w2 y (hsub y hy)).2) (by rw [catK_split (itemsT g h) (nd g k).kids (seekX (nd g k) fr)] at hr; exact hr.app.2.1)
    refine scan_pick g fr to most h y.addr out (w2 y (hsub y hy)).1 ?_
    obtain ⟨i, hi, e⟩ := List.mem_iff_getElem.1 (hsub y hy)
    have := (kid_lo hr hi (by rw [getD_get hi, e]; exact (w2 y (hsub y hy)).2)).2.2
    rwa [getD_get hi, e] at this
/-- the item of a key -/
def getT (l : List Item) (k : Key) : Option Item := l.find? fun x => decide (x.key = k)
theorem getT_none {l : List Item} {k : Key} (h : ∀ x ∈ l, x.key ≠ k) : getT l k = none := List.find?_eq_none.2 fun x hx => by simpa using h x hx
theorem getT_app_r {a b : List Item} {k : Key} (h : ∀ x ∈ a, x.key ≠ k) : getT (a ++ b) k = getT b k := by
  unfold getT at *; rw [List.find?_append, show List.find? _ a = none from getT_none h]; rfl
theorem getT_app_l {a b : List Item} {k : Key} (h : ∀ x ∈ b, x.key ≠ k) : getT (a ++ b) k = getT a k := by
  unfold getT at *; rw [List.find?_append, show List.find? _ b = none from getT_none h]; simp
theorem ne_of_lt {a b : Key} (h : a.lt b = true) : a ≠ b := fun e => by subst e; rw [Key.irrefl] at h; cases h
theorem getT_leaf {x : Node} {key : Key} (h0 : x.level = 0) (hr : Ris x.items) : getT x.items key = if seekHit x key then some (x.items.getD (seekX x key) default) else none := by
  obtain ⟨h1, h2, h3⟩ := seekN_spec (fun i => (x.items.getD i default).key.lt key) x.items.length 0
  have hle := seekN_le (fun i => (x.items.getD i default).key.lt key) x.items.length 0
  have e : seekX x key = seekN (fun i => (x.items.getD i default).key.lt key) x.items.length 0 := by unfold seekX; rw [if_pos h0]
  unfold seekHit; rw [if_pos h0, e]
  generalize seekN (fun i => (x.items.getD i default).key.lt key) x.items.length 0 = s at *
  revert hr h1 h2 h3 hle; generalize x.items = l
  intro hr h1 h2 h3 hle
  have ht : ∀ x ∈ l.take s, x.key ≠ key := fun y hy => by
    obtain ⟨j, hj1, hj2, rfl⟩ := mem_take_i hy
    exact ne_of_lt (h2 j (by omega) hj1)
  conv => lhs; rw [← List.take_append_drop s l]
  rw [getT_app_r ht]
  by_cases hs : s < l.length
  · rw [List.drop_eq_getElem_cons hs, ← getD_get hs]
    have hb : ∀ x ∈ l.drop (s + 1), x.key ≠ key := fun y hy e => by
      obtain ⟨j, hj1, hj2, rfl⟩ := mem_drop_i hy
      have h4 := h3 (by omega)
      have h5 := hr.get (show s < j by omega) hj2
      rw [e, h4] at h5; cases h5
    rw [show (l.getD s default :: l.drop (s + 1)) = [l.getD s default] ++ l.drop (s + 1) from rfl, getT_app_l hb]
    by_cases hk : (l.getD s default).key = key
    · rw [decide_eq_true hs, decide_eq_true hk]; unfold getT; rw [List.find?_cons, decide_eq_true hk]; rfl
    · rw [decide_eq_true hs, decide_eq_false hk]; unfold getT; rw [List.find?_cons, decide_eq_false hk]; rfl
  · rw [decide_eq_false hs, List.drop_eq_nil_of_le (by omega)]; rfl
theorem getT_tree (g : Int → Option (Node × Plc)) (key : Key) : ∀ h k, WF g h k → Ris (itemsT g h k) → getT (itemsT g h k) key = if seekHit (nd g (leafN g key h k)) key then some ((nd g (leafN g key h k)).items.getD (seekX (nd g (leafN g key h k)) key) default) else none
  | 0, k, w, hr => getT_leaf w.1 hr
  | h + 1, k, w, hr => by
    obtain ⟨w0, w1, w2⟩ := w
    rw [itemsT] at *
    rw [leafN]
    obtain ⟨s1, s2, s3⟩ := seek_kids (g := g) (T := itemsT g h) key (by rw [w0]; omega) w1 hr fun y hy => (w2 y hy).2
    have hm := getD_mem s1
    have h5 := (kid_lo hr s1 (w2 _ hm).2).2.2
    rw [show kidN g key k = ((nd g k).kids.getD (seekX (nd g k) key) default).addr from rfl, ← getT_tree g key h _ (w2 _ hm).1 h5, catK_split (itemsT g h) (nd g k).kids (seekX (nd g k) key), getT_app_r fun x hx => ne_of_lt (s2 x hx), List.drop_eq_getElem_cons s1, ← getD_get s1]
    show getT (itemsT g h _ ++ catK (itemsT g h) _) key = _
    refine getT_app_l fun z hz e => ?_
    obtain ⟨y, hy, hz2⟩ := mem_catK hz
    obtain ⟨j, hj1, hj2, rfl⟩ := mem_drop_i hy
    have := s3 j (by omega) hj2 z hz2
    rw [e, Key.irrefl] at this; cases this
def insI (k : Key) (v : List Nat) : List Item → List Item
  | [] => [⟨k, v⟩]
  | x :: l => if k.lt x.key || decide (x.key = k) then ⟨k, v⟩ :: (x :: l).filter (fun y => !decide (y.key = k)) else x :: insI k v l
theorem iputL_done (k : Key) (v : List Nat) : ∀ l out, iputL k v l out true = (out ++ l.filter (fun y => !decide (y.key = k)), true)
  | [], out => by simp [iputL]
  | x :: l, out => by
    rw [iputL, Bool.true_or, iputL_done k v l]
    by_cases h : x.key = k
    · simp [iputC, h]
    · simp [iputC, h]
theorem iputL_ins (k : Key) (v : List Nat) : ∀ l out, (iputL k v l out false).1 ++ (if (iputL k v l out false).2 then [] else [⟨k, v⟩]) = out ++ insI k v l
  | [], out => by simp [iputL, insI]
  | x :: l, out => by
    rw [iputL, insI]
    cases hc : k.lt x.key || decide (x.key = k) with
    | true =>
      have e : iputC k x false = true := by unfold iputC; rw [hc]; rfl
      rw [e, Bool.false_or, iputL_done, if_pos rfl, if_pos rfl, if_pos rfl]
      by_cases h : x.key = k
      · simp [h]
      · simp [h]
    | false =>
      have e : iputC k x false = false := by unfold iputC; rw [hc]; rfl
      rw [e, Bool.false_or, iputL_ins k v l]
      rw [Bool.or_eq_false_iff] at hc
      have h : x.key ≠ k := of_decide_eq_false hc.2
      simp [h]
theorem iputF_ins (l : List Item) (k : Key) (v : List Nat) : iputF l k v = insI k v l := by
  have := iputL_ins k v l []
  rw [List.nil_append] at this; exact this
theorem insI_mem (k : Key) (v : List Nat) : ∀ l x, x ∈ insI k v l → x = ⟨k, v⟩ ∨ x ∈ l
  | [], x, h => .inl (List.mem_singleton.1 h)
  | y :: l, x, h => by
    rw [insI] at h
    split at h
    · rcases List.mem_cons.1 h with h | h
      · exact .inl h
      · exact .inr (List.mem_filter.1 h).1
    · rcases List.mem_cons.1 h with h | h
      · exact .inr (by rw [h]; exact List.mem_cons_self ..)
      · rcases insI_mem k v l x h with h | h
        · exact .inl h
        · exact .inr (List.mem_cons_of_mem _ h)
theorem insI_len (k : Key) (v : List Nat) : ∀ l, (insI k v l).length ≤ l.length + 1
  | [] => Nat.le_refl _
  | y :: l => by
    rw [insI]; split
    · have := List.length_filter_le (fun y => !decide (y.key = k)) (y :: l)
      rw [List.length_cons]; omega
    · have := insI_len k v l
      rw [List.length_cons, List.length_cons]; omega
theorem insI_ris (k : Key) (v : List Nat) : ∀ l, Ris l → Ris (insI k v l)
  | [], _ => List.pairwise_singleton ..
  | y :: l, h => by
    obtain ⟨h1, h2⟩ := h.cons
    rw [insI]
    cases hc : k.lt y.key || decide (y.key = k) with
    | true =>
      rw [if_pos rfl]
      refine List.pairwise_cons.2 ⟨fun z hz => ?_, List.Pairwise.filter _ h⟩
      obtain ⟨hz1, hz2⟩ := List.mem_filter.1 hz
      rw [Bool.or_eq_true, decide_eq_true_eq] at hc
      rcases List.mem_cons.1 hz1 with rfl | hz1
      · rcases hc with hc | hc
        · exact hc
        · rw [hc] at hz2; simp at hz2
      · rcases hc with hc | hc
        · exact Key.trans hc (h1 z hz1)
        · rw [← hc]; exact h1 z hz1
    | false =>
      rw [if_neg (by simp)]
      rw [Bool.or_eq_false_iff, decide_eq_false_iff_not] at hc
      refine List.pairwise_cons.2 ⟨fun z hz => ?_, insI_ris k v l h2⟩
      rcases insI_mem k v l z hz with rfl | hz
      · cases e : y.key.lt k with
        | true => rfl
        | false => exact absurd (Key.tot e hc.1) hc.2
      · exact h1 z hz
def rowS (out : List Item) (x : Item) : List Item := if x.key.ok then iputF out x.key (x.val.take 28) else out
def rowL (l : List Item) (most : Nat) : List Item := (l.take most).foldl rowS []
theorem rowS_len (out : List Item) (x : Item) : (rowS out x).length ≤ out.length + 1 := by
  unfold rowS; split
  · rw [iputF_ins]; exact insI_len ..
  · omega
structure RowOk (l : List Item) : Prop where
  ris : Ris l
  ok : ∀ x ∈ l, x.key.ok = true ∧ x.val.length ≤ 28 ∧ Bys x.val
theorem RowOk.put {l : List Item} {x : Item} (h : RowOk l) (hb : Bys x.val) : RowOk (rowS l x) := by
  unfold rowS
  split
  · rename_i hk
    rw [iputF_ins]
    refine ⟨insI_ris _ _ _ h.ris, fun y hy => ?_⟩
    rcases insI_mem _ _ _ _ hy with rfl | hy
    · exact ⟨hk, by rw [List.length_take]; omega, hb.take 28⟩
    · exact h.ok y hy
  · exact h
theorem foldl_rowOk : ∀ (l out : List Item), RowOk out → (∀ x ∈ l, Bys x.val) → RowOk (l.foldl rowS out) ∧ (l.foldl rowS out).length ≤ out.length + l.length
  | [], out, h, _ => ⟨h, Nat.le_refl _⟩
  | x :: l, out, h, hb => by
    obtain ⟨h1, h2⟩ := foldl_rowOk l (rowS out x) (h.put (hb x (List.mem_cons_self ..))) fun y hy => hb y (List.mem_cons_of_mem _ hy)
    have := rowS_len out x
    exact ⟨h1, by rw [List.foldl_cons, List.length_cons]; omega⟩
theorem rowL_ok (l : List Item) (most : Nat) (hb : ∀ x ∈ l, Bys x.val) : RowOk (rowL l most) ∧ (rowL l most).length ≤ most := by
  obtain ⟨h1, h2⟩ := foldl_rowOk (l.take most) [] ⟨List.Pairwise.nil, fun x hx => nomatch hx⟩ fun x hx => hb x (List.mem_of_mem_take hx)
  refine ⟨h1, Nat.le_trans h2 ?_⟩
  rw [List.length_take]; simp; omega
end Go.Proofs.YtgbbcpfnmkeijaaGreat
/- The reference's rows: Row. -/
namespace Go.Proofs.YtgbbcpfnmkeijaaGreat
open Go.Cam
set_option maxRecDepth 100000
theorem BS.part {a : Option Addr} {c : Nat} (v : List Nat) (q : Nat) (hq : q ≤ v.length) (H M : Heap) (h : (SA none 1 (.slice (sladdr a 1 0 c) (q - 0) (c - 0)) (q - 0) (fun i => byR v (0 + i))).p H M) : (BS (.slice a (v.take q).length c) (v.take q)).p H M := by
  have e : (v.take q).length = q - 0 := by simp; omega
  rw [sladdr0] at h
  unfold BS
  rw [e]
  refine SA.cg _ (fun i hi => ?_) H M h
  have : i < q := by omega
  simp [byR, List.getD_eq_getElem?_getD, List.getElem?_take, this]
set_option maxHeartbeats 8000000 in
theorem row_c {A : HP} {a : Option Addr} {c : Nat} {w : Nat → Option Addr × Nat} (l : List Item) (most : Nat) [Rd A 4 (.slice a l.length c) l.length (itemRow w l)] (hm : most < 100000) (hn : l.length < 9223372036854775808) : Ctr Tryz.prog 14 [.slice a l.length c, .int .i64 most] [A, IFam w l]
    (fun r Bs => ∃ a2 c2 w2, r = .slice a2 (rowL l most).length c2 ∧ Bs = [IRow a2 c2 w2 (rowL l most), IFam w2 (rowL l most)]) := by
  refine s_enter 47 [(0, _), (1, _)] (fun F => [_, _, F]) Tryz.func14 fun F => ?_
  refine go_ ?_
  refine s_bs0 (sz := 4) (row := itemRow (fun _ => (none, 0)) []) (fun a0 => ?_)
  refine s_open (B := IRow a0 0 (fun _ => (none, 0)) []) (SO.of) ?_
  refine s_fam0 (F := itemFam (fun _ => (none, 0)) []) ?_
  refine s_open (B := IFam (fun _ => (none, 0)) []) (fun _ _ q => q) ?_
  refine go_ ?_
  refine s_loop (fun q : Nat × List Item × Option Addr × Nat × (Nat → Option Addr × Nat) => [(0, .slice a l.length c), (1, .int .i64 most), (5, .slice q.2.2.1 q.2.1.length q.2.2.2.1), (6, .int .i64 q.1)])
    (fun q => [A, IFam w l, IRow q.2.2.1 q.2.2.2.1 q.2.2.2.2 q.2.1, IFam q.2.2.2.2 q.2.1, F])
    (fun q => q.1 ≤ most ∧ q.2.1.length ≤ q.1 ∧ ((l.take most).drop q.1).foldl rowS q.2.1 = rowL l most) (fun q => most - q.1) (0, [], a0, 0, fun _ => (none, 0)) ⟨Nat.zero_le _, Nat.le_refl _, rfl⟩ (by repeat (first | exact Ent.nil | refine Ent.per (by repeat (first | with_reducible exact Sel.here | with_reducible apply Sel.there)) ?_ | refine Ent.cons (by repeat (first | with_reducible exact Sel.here | with_reducible apply Sel.there)) ?_)) ?_
  rintro ⟨i, o, b, d, wo⟩ ⟨hi, ho, hq⟩ next
  dsimp only at hi ho hq next ⊢
  refine go_ ?_
  cases h1 : decide ((i : Int) < (l.length : Int)) with
  | false =>
    have h1' := of_decide_eq_false h1
    rw [List.drop_eq_nil_of_le (by rw [List.length_take]; omega)] at hq
    have hq : o = rowL l most := hq
    rw [← hq]
    refine go_ ?_
    exact s_ret1 (rs := [.tmp 4]) Tryz.func14 rfl (by intro j; refine RVS.tmp _ rfl ?_; exact RVS.nil) (⟨b, d, wo, rfl, rfl⟩) (by repeat (first | exact Ent.nil | refine Ent.per (by repeat (first | with_reducible exact Sel.here | with_reducible apply Sel.there)) ?_ | refine Ent.cons (by repeat (first | with_reducible exact Sel.here | with_reducible apply Sel.there)) ?_))
  | true =>
    have h1' := of_decide_eq_true h1
    refine go_ ?_
    refine s_if (fun h2 => ?_) (fun h2 => ?_)
    · have hi2 : i < l.length := by omega
      have hi3 : i < (l.take most).length := by rw [List.length_take]; omega
      have hx : l.getD i default = (l.take most)[i] := by simp [List.getD_eq_getElem?_getD, hi2]
      rw [List.drop_eq_getElem_cons hi3, ← hx, List.foldl_cons] at hq
      have hlen := rowS_len o (l.getD i default)
      refine go_ ?_
      refine s_look (lk_ldeN (sz := 4) (fo := 0) (n := l.length) (i := i) (v := .slice a l.length c) (vs := (l.getD i default).key.row) (s := (by repeat (first | with_reducible exact SelR.here | with_reducible apply SelR.there)))) ?_
      refine go_ ?_
      refine s_call (sp := (by repeat (first | exact Split.nil | apply Split.perx (by repeat (first | with_reducible exact Sel.here | with_reducible apply Sel.there)) (by infer_instance) | apply Split.cons (by repeat (first | with_reducible exact Sel.here | with_reducible apply Sel.there))))) (hs := rmay_c (l.getD i default).key) (h := ?_)
      rintro v Bs ⟨rfl, rfl⟩
      refine go_ ?_
      refine s_get i (F := itemFam w l) (m := l.length) (by repeat (first | with_reducible exact Sel.here | with_reducible apply Sel.there)) hi2 ?_
      refine s_open (B := BS (.slice (w i).1 (l.getD i default).val.length (w i).2) (l.getD i default).val) (fun _ _ q => q) ?_
      refine s_know (a := BS (.slice (w i).1 (l.getD i default).val.length (w i).2) (l.getD i default).val) (by repeat (first | with_reducible exact Sel.here | with_reducible apply Sel.there)) (fun H M q => SA.cap H M q) fun hcap => ?_
      apply s_join (α := Nat) (fun q => [(0, .slice a l.length c), (1, .int .i64 most), (5, .slice b o.length d), (6, .int .i64 i), (37, .bool (l.getD i default).key.ok), (8, .slice (w i).1 ((l.getD i default).val.take 28).length q)])
        (fun q => [BS (.slice (w i).1 ((l.getD i default).val.take 28).length q) ((l.getD i default).val.take 28), A, IFam w l, IRow b d wo o, IFam wo o, F]) (fun _ => True)
      case h =>
        intro K
        refine s_if (fun h3 => ?_) (fun h3 => ?_)
        · refine go_ ?_
          refine s_look (lk_slc (a := (w i).1) (len := (l.getD i default).val.length) (cap := (w i).2) 0 28 (by omega) (by omega)) ?_
          refine s_part 0 28 (by omega) (by omega) (a := (w i).1) (m := (l.getD i default).val.length) (cap := (w i).2) (by repeat (first | with_reducible exact Sel.here | with_reducible apply Sel.there)) ?_
          refine s_open (BS.part (l.getD i default).val 28 (by omega)) ?_
          refine go_ ?_
          rw [sladdr0, show (28 - 0 : Nat) = ((l.getD i default).val.take 28).length by rw [List.length_take]; omega]
          exact s_entF (by repeat (first | exact Ent.nil | refine Ent.per (by repeat (first | with_reducible exact Sel.here | with_reducible apply Sel.there)) ?_ | refine Ent.cons (by repeat (first | with_reducible exact Sel.here | with_reducible apply Sel.there)) ?_)) (s_keep _ (K _ trivial))
        · refine go_ ?_
          have e : (l.getD i default).val.take 28 = (l.getD i default).val := List.take_of_length_le (by omega)
          rw [e] at K
          exact s_entF (by repeat (first | exact Ent.nil | refine Ent.per (by repeat (first | with_reducible exact Sel.here | with_reducible apply Sel.there)) ?_ | refine Ent.cons (by repeat (first | with_reducible exact Sel.here | with_reducible apply Sel.there)) ?_)) (s_keep _ (K _ trivial))
      case K =>
        intro q _
        have hvl : ((l.getD i default).val.take 28).length ≤ 28 := by simp; omega
        cases hok : (l.getD i default).key.ok with
        | false =>
          have e : rowS o (l.getD i default) = o := by unfold rowS; rw [hok]; rfl
          rw [e] at hq
          refine go_ ?_
          exact s_entF (by repeat (first | exact Ent.nil | refine Ent.per (by repeat (first | with_reducible exact Sel.here | with_reducible apply Sel.there)) ?_ | refine Ent.cons (by repeat (first | with_reducible exact Sel.here | with_reducible apply Sel.there)) ?_)) (s_keep _ (next (i + 1, o, b, d, wo) ⟨by dsimp only; omega, by dsimp only; omega, hq⟩ (by dsimp only; omega)))
        | true =>
          have e : rowS o (l.getD i default) = iputF o (l.getD i default).key ((l.getD i default).val.take 28) := by unfold rowS; rw [hok]; rfl
          rw [e] at hq hlen
          refine go_ ?_
          refine s_look (lk_ldeN (sz := 4) (fo := 0) (n := l.length) (i := i) (v := .slice a l.length c) (vs := (l.getD i default).key.row) (s := (by repeat (first | with_reducible exact SelR.here | with_reducible apply SelR.there)))) ?_
          refine go_ ?_
          refine s_call (sp := (by repeat (first | exact Split.nil | apply Split.perx (by repeat (first | with_reducible exact Sel.here | with_reducible apply Sel.there)) (by infer_instance) | apply Split.cons (by repeat (first | with_reducible exact Sel.here | with_reducible apply Sel.there))))) (hs := rput_c (A := IRow b d wo o) (a := b) (c := d) (w := wo) (va := (w i).1) (vc := q) o (l.getD i default).key ((l.getD i default).val.take 28) (by omega) (by omega)) (h := ?_)
          rintro v Bs ⟨a2, c2, w2, rfl, rfl⟩
          refine go_ ?_
          exact s_entF (by repeat (first | exact Ent.nil | refine Ent.per (by repeat (first | with_reducible exact Sel.here | with_reducible apply Sel.there)) ?_ | refine Ent.cons (by repeat (first | with_reducible exact Sel.here | with_reducible apply Sel.there)) ?_)) (s_keep _ (next (i + 1, iputF o (l.getD i default).key ((l.getD i default).val.take 28), a2, c2, w2) ⟨by dsimp only; omega, by dsimp only; omega, hq⟩ (by dsimp only; omega)))
    · rw [List.drop_eq_nil_of_le (by rw [List.length_take]; omega)] at hq
      have hq : o = rowL l most := hq
      rw [← hq]
      refine go_ ?_
      exact s_ret1 (rs := [.tmp 4]) Tryz.func14 rfl (by intro j; refine RVS.tmp _ rfl ?_; exact RVS.nil) (⟨b, d, wo, rfl, rfl⟩) (by repeat (first | exact Ent.nil | refine Ent.per (by repeat (first | with_reducible exact Sel.here | with_reducible apply Sel.there)) ?_ | refine Ent.cons (by repeat (first | with_reducible exact Sel.here | with_reducible apply Sel.there)) ?_))
end Go.Proofs.YtgbbcpfnmkeijaaGreat
