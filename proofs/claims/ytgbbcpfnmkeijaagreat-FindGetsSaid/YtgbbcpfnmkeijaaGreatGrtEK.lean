/- FindRows. -/
import Derived.Test.YtgbbcpfnmkeijaaGreatGrtSh
import Derived.Test.YtgbbcpfnmkeijaaGreatGrtEJ
namespace Go.Proofs.YtgbbcpfnmkeijaaGreat
open Go.Cam
set_option maxRecDepth 100000
theorem Key.lt_true_or (a b : Key) : a.lt b = true ∨ b.lt a = true ∨ a = b := by
  cases h : a.lt b with
  | true => exact .inl rfl
  | false =>
    cases g : b.lt a with
    | true => exact .inr (.inl rfl)
    | false => exact .inr (.inr (Key.tot h g))
/-- between a key and the next one there is none -/
theorem next_lt {k n x : Key} (hk : k.ok = true) (hx : x.ok = true) (hn : k.next = some n) : (!(x.lt n)) = k.lt x := by
  rw [Key.ok_iff] at hk hx
  have key : x.lt n = true ↔ ¬ k.lt x = true := by
    unfold Key.next at hn
    obtain ⟨a, b, c⟩ := k
    obtain ⟨d, e, f⟩ := x
    dsimp only at hn hk hx
    split at hn
    · cases hn
      rw [wrap_id (by omega) (by omega), Key.lt_iff, Key.lt_iff]; dsimp only; omega
    · split at hn
      · cases hn
        rw [wrap_id (by omega) (by omega), Key.lt_iff, Key.lt_iff]; dsimp only; omega
      · split at hn
        · cases hn
          rw [wrap_id (by omega) (by omega), Key.lt_iff, Key.lt_iff]; dsimp only; omega
        · cases hn
  cases h1 : x.lt n with
  | true =>
    have := key.1 h1
    cases h2 : k.lt x with
    | true => exact absurd h2 this
    | false => rfl
  | false =>
    cases h2 : k.lt x with
    | true => rfl
    | false => rw [key.2 (by rw [h2]; simp)] at h1; cases h1
theorem next_none {k x : Key} (hk : k.ok = true) (hx : x.ok = true) (hn : k.next = none) : k.lt x = false := by
  rw [Key.ok_iff] at hk hx
  unfold Key.next at hn
  cases h : k.lt x with
  | false => rfl
  | true =>
    rw [Key.lt_iff] at h
    split at hn
    · cases hn
    · split at hn
      · cases hn
      · split at hn
        · cases hn
        · omega
theorem next_ok {k n : Key} (hk : k.ok = true) (hn : k.next = some n) : n.ok = true := by
  rw [Key.ok_iff] at hk ⊢
  unfold Key.next at hn
  split at hn
  · cases hn; rw [wrap_id (by omega) (by omega)]; dsimp only; omega
  · split at hn
    · cases hn; rw [wrap_id (by omega) (by omega)]; dsimp only; omega
    · split at hn
      · cases hn; rw [wrap_id (by omega) (by omega)]; dsimp only; omega
      · cases hn
theorem P_from {fr k : Key} (h : k.ok = true) : rscanP fr ⟨2147483647, 255, 2147483647⟩ k = !(k.lt fr) := by
  have := P_all h
  unfold rscanP at *
  cases e : Key.lt ⟨2147483647, 255, 2147483647⟩ k with
  | true => rw [e] at this; simp at this
  | false => simp
theorem P_to {to k : Key} (h : k.ok = true) : rscanP ⟨0, 0, 0⟩ to k = !(to.lt k) := by
  have := P_all h
  unfold rscanP at *
  cases e : k.lt ⟨0, 0, 0⟩ with
  | true => rw [e] at this; simp at this
  | false => simp
theorem filter_split {p : Item → Bool} : ∀ {l : List Item}, (∀ i j, i < j → j < l.length → p (l.getD i default) = true → p (l.getD j default) = true) → l.filter (fun x => !(p x)) ++ l.filter p = l
  | [], _ => rfl
  | x :: l, h => by
    have ih := filter_split (p := p) (l := l) fun i j hij hj hp => by
      have := h (i + 1) (j + 1) (by omega) (by rw [List.length_cons]; omega) (by simpa using hp)
      simpa using this
    cases hx : p x with
    | false => rw [List.filter_cons_of_pos (by simp [hx]), List.filter_cons_of_neg (by simp [hx]), List.cons_append, ih]
    | true =>
      have hall : ∀ y ∈ l, p y = true := fun y hy => by
        obtain ⟨i, hi, e⟩ := List.mem_iff_getElem.1 hy
        have := h 0 (i + 1) (by omega) (by rw [List.length_cons]; omega) (by simpa using hx)
        rw [List.getD_cons_succ, getD_get hi, e] at this; exact this
      rw [List.filter_cons_of_neg (by simp [hx]), List.filter_cons_of_pos hx, List.filter_eq_nil_iff.2 (fun y hy => by simp [hall y hy]), List.filter_eq_self.2 hall]; rfl
theorem two_scans {l : List Item} {k n : Key} (h : RowOk l) (hl : l.length ≤ 150) (hk : k.ok = true) (hn : k.next = some n) :
    pick ⟨0, 0, 0⟩ k 1000 l [] ++ pick n ⟨2147483647, 255, 2147483647⟩ 1000 l [] = l := by
  have e1 : pick ⟨0, 0, 0⟩ k 1000 l [] = l.filter (fun x => !(k.lt x.key)) := by
    unfold pick
    rw [List.nil_append, List.filter_congr (q := fun x : Item => !(k.lt x.key)) fun x hx => P_to (h.ok x hx).1]
    exact List.take_of_length_le (Nat.le_trans (List.length_filter_le _ _) (by simp; omega))
  have e2 : pick n ⟨2147483647, 255, 2147483647⟩ 1000 l [] = l.filter (fun x => k.lt x.key) := by
    unfold pick
    rw [List.nil_append, List.filter_congr (q := fun x : Item => k.lt x.key) fun x hx => by rw [P_from (h.ok x hx).1, next_lt hk (h.ok x hx).1 hn]]
    exact List.take_of_length_le (Nat.le_trans (List.length_filter_le _ _) (by simp; omega))
  rw [e1, e2]
  exact filter_split (p := fun x => k.lt x.key) fun i j hij hj hp => Key.trans hp (h.ris.get hij hj)
theorem getT_self {l : List Item} (h : Ris l) {i : Nat} (hi : i < l.length) : getT l (l.getD i default).key = some (l.getD i default) := by
  conv => lhs; arg 1; rw [← List.take_append_drop i l, List.drop_eq_getElem_cons hi, ← getD_get hi]
  rw [getT_app_r fun y hy => by
    obtain ⟨j, hj1, hj2, rfl⟩ := mem_take_i hy
    exact ne_of_lt (h.get hj1 hi)]
  unfold getT
  rw [List.find?_cons, decide_eq_true rfl]
/-- two rows, one behind the other -/
def wcat (n : Nat) (w1 w2 : Nat → Option Addr × Nat) (i : Nat) : Option Addr × Nat := if i < n then w1 i else w2 (i - n)
theorem itemRow_cat (w1 w2 : Nat → Option Addr × Nat) (a b : List Item) (i : Nat) (hi : i < a.length + b.length) : rcat a.length (itemRow w1 a) (itemRow w2 b) i = itemRow (wcat a.length w1 w2) (a ++ b) i := by
  unfold rcat itemRow wcat
  by_cases h : i < a.length
  · rw [if_pos h, if_pos h, List.getD_eq_getElem?_getD (l := a ++ b), List.getElem?_append_left h, ← List.getD_eq_getElem?_getD]
  · rw [if_neg h, if_neg h, List.getD_eq_getElem?_getD (l := a ++ b), List.getElem?_append_right (by omega), ← List.getD_eq_getElem?_getD]
theorem s_famcat {P : Program} {f : FuncId} {n : Nat} {R : Value → HP} {K : List It} {s : List (Nat × Value)} {As Bs Rs : List HP} {w1 w2 : Nat → Option Addr × Nat} {a b : List Item} (e1 : Sel (IFam w1 a) As Bs) (e2 : Sel (IFam w2 b) As Rs)
    (h : RunS P f n R K s (IFam (wcat a.length w1 w2) (a ++ b) :: As)) : RunS P f n R K s As := .mk fun H M q => by
  have b1 := e1.hold q
  have b2 := e2.hold q
  refine h H M (per_add (M0 := M) (fun i hi => ?_) q)
  rw [List.length_append] at hi
  show (itemFam (wcat a.length w1 w2) (a ++ b) i).p H M
  unfold itemFam wcat
  by_cases h : i < a.length
  · rw [if_pos h, List.getD_eq_getElem?_getD, List.getElem?_append_left h, ← List.getD_eq_getElem?_getD]; exact b1 i h
  · rw [if_neg h, List.getD_eq_getElem?_getD, List.getElem?_append_right (by omega), ← List.getD_eq_getElem?_getD]; exact b2 (i - a.length) (by omega)
end Go.Proofs.YtgbbcpfnmkeijaaGreat
/- FindSame. -/
namespace Go.Proofs.YtgbbcpfnmkeijaaGreat
open Go.Cam
set_option maxRecDepth 100000
theorem keys_of {H : Heap} {cs : List Value} (h : (Sh.slice 3 keySh).ok H cs) : ∃ a c, ∃ l : List Key, cs = [.slice a l.length c] ∧ l.length < 9223372036854775808 ∧ ∀ M, (SA none 3 (.slice a l.length c) l.length (keyR l)).p H M := by
  obtain ⟨a, len, cap, row, rfl, h1, h2, h3, h4⟩ := h
  have hm : maxLen = 9223372036854775807 := rfl
  obtain ⟨l, rfl, hl⟩ := list_choose (α := Key) (φ := fun i k => row i = k.row) len fun i hi => by
    obtain ⟨k, hk, _⟩ := key_of (h4 i hi); exact ⟨k, hk⟩
  exact ⟨a, cap, l, rfl, by omega, fun M => SA.cg _ (fun i hi => hl i hi) H M (h3 M)⟩
def gv (l : List Item) (k : Key) : List Nat := match getT l k with | some x => x.val | none => []
def ge (l : List Item) (k : Key) : Int := match getT l k with | some _ => 0 | none => 10
theorem tgetU_c (p : Nat) (z : PoZ) {σ : Ct} {g : Int → Option (Node × Plc)} {root : Int} {l : List Item} (key : Key) (ht : TreeOf σ g root l) (hr : Ris l) : Ctr Tryz.prog 17 [.pointer (some ⟨p, 0, none⟩), .int .i64 root, key.v] [Po p z σ g]
    (fun v Bs => ∃ a c, v = .tuple #[.slice a (gv l key).length c, .int .i64 (ge l key)] ∧ Bs = [Po p z σ g, BS (.slice a (gv l key).length c) (gv l key)]) := by
  refine Ctr.post (tget_c p z key ht hr) fun v Bs q => ?_
  rcases q with ⟨h1, rfl, rfl⟩ | ⟨x, a, c, h1, rfl, rfl⟩
  · have e1 : gv l key = [] := by unfold gv; rw [h1]
    have e2 : ge l key = 10 := by unfold ge; rw [h1]
    rw [e1, e2]
    refine ⟨_, ⟨none, 0, rfl, rfl⟩, fun H M q => ?_⟩
    refine star_mono (fun H M _ => sat_per1 (fun M => ?_) (Bs := []) (M := M) trivial) q
    exact ⟨none, 0, rfl, Nat.le_refl _, fun i h => absurd h (Nat.not_lt_zero _), fun h => absurd h (Nat.not_lt_zero _)⟩
  · have e1 : gv l key = x.val := by unfold gv; rw [h1]
    have e2 : ge l key = 0 := by unfold ge; rw [h1]
    rw [e1, e2]
    exact ⟨_, ⟨a, c, rfl, rfl⟩, fun H M q => q⟩
end Go.Proofs.YtgbbcpfnmkeijaaGreat
/- FindGets. -/
namespace Go.Proofs.YtgbbcpfnmkeijaaGreat
open Go.Cam
set_option maxRecDepth 100000
/-- a pool and its disk -/
def Pd.parts (p : Nat) (z : PoZ) (σ : Ct) (G : Int → Option Bk) (σd : Dr) (_ : Unit) : List HP := [PL p z σ G, DrA z.b σd]
abbrev Pd (p : Nat) (z : PoZ) (σ : Ct) (G : Int → Option Bk) (σd : Dr) : HP := EX (fun _ : Unit => True) (Pd.parts p z σ G σd)
theorem pd_nd (p : Nat) (z : PoZ) {σ : Ct} {G : Int → Option Bk} {σd : Dr} {D : Nat → DK} (h : DskOk σ G σd D) : NdC (Pd p z σ G σd) p (rdK σ G D) := fun k => by
  refine Ctr.post ((pnodeK_c p z σ G σd D h k).pre (Bs := [Pd p z σ G σd]) fun H M q => ?_) fun v Bs q => ?_
  · obtain ⟨_, _, hs⟩ := star_fst q
    exact hs
  · rcases q with ⟨x, u, h1, h2, h3, rfl⟩ | ⟨e, h1, h2, h3, rfl⟩
    · exact ⟨_, .inl ⟨x, u, h1, h2, h3, rfl⟩, fun H M q => star_monoL (fun H M q => EX.mk () trivial H M q) (star_mono (fun _ _ => id) (Sat.part (As := [PL p z σ G, DrA z.b σd]) (Fs := [Nd1 x u, Nd2 x u, Nd3 x u]) q))⟩
    · exact ⟨_, .inr ⟨e, h1, h2, h3, rfl⟩, fun H M q => star_monoL (fun H M q => EX.mk () trivial H M q) (Sat.part (As := [PL p z σ G, DrA z.b σd]) (Fs := []) q)⟩
/-- nodes alone as a pool of both -/
theorem s_poPL {P : Program} {f : FuncId} {n : Nat} {R : Value → HP} {K : List It} {s : List (Nat × Value)} {As Bs : List HP} {p : Nat} {z : PoZ} {σ : Ct} {g : Int → Option (Node × Plc)} (u : Sel (Po p z σ g) As Bs) (h : RunS P f n R K s (PL p z σ (bkG g) :: Bs)) : RunS P f n R K s As := .mk fun H M q => by
  have h0 := u.sat q
  refine h H M (star_monoL (fun H M hp => ?_) h0)
  obtain ⟨_, _, hs⟩ := hp
  have e : kmap (fun k => (g k).map fun q => (Bk.nd q.1, (⟨q.2, none, 0⟩ : Pc))) = gmap g := by
    funext k; show ((g k).map _).map _ = (g k).map _; cases g k <;> rfl
  refine ⟨fun k => (g k).map fun q => (Bk.nd q.1, ⟨q.2, none, 0⟩), fun k => by show (g k).map _ = ((g k).map _).map _; cases g k <;> rfl, ?_⟩
  unfold PL.parts
  rw [e]
  refine star_mono (fun H M hs => ?_) hs
  refine star_mono (fun H M hs => ?_) hs
  refine star_mono (fun H M hs => ?_) hs
  refine star_monoL (fun H M hn => ?_) hs
  intro k b q hk
  replace hk : (g k).map (fun q => (Bk.nd q.1, (⟨q.2, none, 0⟩ : Pc))) = some (b, q) := hk
  cases hg : g k with
  | none => rw [hg] at hk; cases hk
  | some y =>
    rw [hg] at hk; cases hk
    exact hn k y.1 y.2 hg
theorem s_pdP {P : Program} {f : FuncId} {n : Nat} {R : Value → HP} {K : List It} {s : List (Nat × Value)} {As Bs Rs : List HP} {p : Nat} {z : PoZ} {σ : Ct} {G : Int → Option Bk} {σd : Dr} (u1 : Sel (PL p z σ G) As Bs) (u2 : Sel (DrA z.b σd) Bs Rs) (h : RunS P f n R K s (Pd p z σ G σd :: Rs)) : RunS P f n R K s As :=
  s_cls (φ := fun _ : Unit => True) (X := Pd.parts p z σ G σd) () trivial (Split.cons u1 (Split.cons u2 Split.nil)) h
/-- the right answers -/
abbrev GetsAs (rd : Int → Except Nat Node) (root : Int) (l : List Item) : Prop := ∀ key, getR rd key root = match getT l key with
    | some x => .ok x.val
    | none => .error 10
theorem ggetU_c {PP : HP} {p : Nat} {rd : Int → Except Nat Node} (hR : NdC PP p rd) {root : Int} {l : List Item} (hG : GetsAs rd root l) (key : Key) : Ctr Tryz.prog 17 [.pointer (some ⟨p, 0, none⟩), .int .i64 root, key.v] [PP]
    (fun v Bs => ∃ a c, v = .tuple #[.slice a (gv l key).length c, .int .i64 (ge l key)] ∧ Bs = [PP, BS (.slice a (gv l key).length c) (gv l key)]) := by
  refine Ctr.post (gget_c hR root key) fun v Bs q => ?_
  rw [hG key] at q
  cases h1 : getT l key with
  | some x =>
    rw [h1] at q
    have e1 : gv l key = x.val := by unfold gv; rw [h1]
    have e2 : ge l key = 0 := by unfold ge; rw [h1]
    rw [e1, e2]
    rcases q with ⟨b, a, c, h2, rfl, rfl⟩ | ⟨e, h2, _⟩
    · cases h2; exact ⟨_, ⟨a, c, rfl, rfl⟩, fun _ _ q => q⟩
    · cases h2
  | none =>
    rw [h1] at q
    have e1 : gv l key = [] := by unfold gv; rw [h1]
    have e2 : ge l key = 10 := by unfold ge; rw [h1]
    rw [e1, e2]
    rcases q with ⟨b, a, c, h2, _⟩ | ⟨e, h2, _, rfl, rfl⟩
    · cases h2
    · cases h2
      refine ⟨_, ⟨none, 0, rfl, rfl⟩, fun H M q => ?_⟩
      refine star_mono (fun H M _ => sat_per1 (fun M => ?_) (Bs := []) (M := M) trivial) q
      exact ⟨none, 0, rfl, Nat.le_refl _, fun i h => absurd h (Nat.not_lt_zero _), fun h => absurd h (Nat.not_lt_zero _)⟩
theorem rgetU_c {A : HP} {a : Option Addr} {c : Nat} {w : Nat → Option Addr × Nat} (l : List Item) (k : Key) [Rd A 4 (.slice a l.length c) l.length (itemRow w l)] (hn : l.length < 1000000) : Ctr Tryz.prog 18 [.slice a l.length c, k.v] [A, Fam l.length (itemFam w l)]
    (fun v Bs => ∃ a2 c2, v = .tuple #[.slice a2 (gv l k).length c2, .int .i64 (ge l k)] ∧ Bs = [A, BS (.slice a2 (gv l k).length c2) (gv l k)]) := by
  refine Ctr.post (rget_c (A := A) (a := a) (c := c) (w := w) l k hn) fun v Bs q => ?_
  have hr := getT_row l k
  rcases q with ⟨h1, rfl, rfl⟩ | ⟨h1, a2, c2, rfl, rfl⟩
  · rw [if_neg (by omega)] at hr
    have e1 : gv l k = [] := by unfold gv; rw [hr]
    have e2 : ge l k = 10 := by unfold ge; rw [hr]
    rw [e1, e2]
    refine ⟨_, ⟨none, 0, rfl, rfl⟩, fun H M q => ?_⟩
    refine star_mono (fun H M _ => sat_per1 (fun M => ?_) (Bs := []) (M := M) trivial) q
    exact ⟨none, 0, rfl, Nat.le_refl _, fun i h => absurd h (Nat.not_lt_zero _), fun h => absurd h (Nat.not_lt_zero _)⟩
  · rw [if_pos h1] at hr
    have e1 : gv l k = (l.getD (rgetI l k) default).val := by unfold gv; rw [hr]
    have e2 : ge l k = 0 := by unfold ge; rw [hr]
    rw [e1, e2]
    exact ⟨_, ⟨a2, c2, rfl, rfl⟩, fun _ _ q => q⟩
set_option maxHeartbeats 16000000 in
theorem gets_c (x : Wrld) (hx : x.ok) {kb : Option Addr} {kc : Nat} (ks : List Key) (hkn : ks.length < 9223372036854775808) (cm : Bool) :
    Ctr Tryz.prog 4 [x.v, .slice kb ks.length kc, .bool cm] [x.A, IFam x.w x.l, x.C, SA none 3 (.slice kb ks.length kc) ks.length (keyR ks)] (fun v Bs => v = .bool true ∧ Bs = []) := by
  obtain ⟨hro, hrl⟩ := rowL_ok x.l 150 hx.b
  have hon0 : (Dr.new 256).on := ⟨rfl, by show (-1 : Int) < 0; decide⟩
  obtain ⟨f1, f2, f3, f4⟩ := Dr.fmt_mnt hon0 (by decide) (by decide)
  have f5 := fmt_sup hon0 (by decide) (by decide)
  have f2' : (Dr.new 256).fmt.n = 256 := f2
  have f4' : (Dr.new 256).fmt.steps ≤ 200 := by have : (Dr.new 256).steps = 0 := rfl; omega
  generalize hσd : (Dr.new 256).fmt = σd at *
  refine s_enter 113 [(0, _), (1, _), (2, _)] (fun F => [_, _, _, _, F]) Tryz.func4 fun F => ?_
  refine go_ ?_
  refine s_box fun r3 => ?_
  refine go_ ?_
  refine s_call (sp := (by repeat (first | exact Split.nil | apply Split.perx (by repeat (first | with_reducible exact Sel.here | with_reducible apply Sel.there)) (by infer_instance) | apply Split.cons (by repeat (first | with_reducible exact Sel.here | with_reducible apply Sel.there))))) (hs := shown_c) (h := ?_)
  rintro v Bs ⟨rfl, rfl⟩
  refine go_ ?_
  refine s_call (sp := (by repeat (first | exact Split.nil | apply Split.perx (by repeat (first | with_reducible exact Sel.here | with_reducible apply Sel.there)) (by infer_instance) | apply Split.cons (by repeat (first | with_reducible exact Sel.here | with_reducible apply Sel.there))))) (hs := row_c (A := x.A) (a := x.a) (c := x.c) (w := x.w) x.l 150 (by decide) hx.n) (h := ?_)
  rintro v Bs ⟨a2, c2, w2, rfl, rfl⟩
  generalize hL : rowL x.l 150 = L at *
  refine go_ ?_
  refine s_fzO (e := 51) (v := .slice a2 L.length c2) (by repeat (first | with_reducible exact Sel.here | with_reducible apply Sel.there)) ?_
  refine s_call (sp := (by repeat (first | exact Split.nil | apply Split.perx (by repeat (first | with_reducible exact Sel.here | with_reducible apply Sel.there)) (by infer_instance) | apply Split.cons (by repeat (first | with_reducible exact Sel.here | with_reducible apply Sel.there))))) (hs := grown_I Inv Inv.new (C := x.C) (la := a2) (lc := c2) (w := w2) (b := x.b) (d := x.d) L x.cs hro hrl hx.m hx.r (fun σ g i y u h hI hg hy h1 h2 _ _ => hI.lay u ⟨hg.ok, fun t ht => (hro.ok t (hy t ht)).2.2⟩ h1 h2)) (h := ?_)
  rintro v Bs ⟨p, z, σ, g, root, rfl, ht, hz1, hz2, hn, hI, rfl⟩
  rw [hσd]
  refine go_ ?_
  refine s_poPL (g := g) (by repeat (first | with_reducible exact Sel.here | with_reducible apply Sel.there)) ?_
  apply s_join (α := HP × (Int → Except Nat Node)) (fun q => [(8, .slice a2 L.length c2), (1, .slice kb ks.length kc), (9, .pointer (some ⟨p, 0, none⟩)), (11, .int .i64 root), (12, .int .i64 0)])
    (fun q => [q.1, SA none 3 (.slice kb ks.length kc) ks.length (keyR ks), SA none 4 (.slice a2 L.length c2) L.length (itemRow w2 L), IFam w2 L, F]) (fun q => NdC q.1 p q.2 ∧ GetsAs q.2 root L)
  case h =>
    intro K
    cases cm with
    | false =>
      refine go_ ?_
      refine s_pdP (σ := σ) (by repeat (first | with_reducible exact Sel.here | with_reducible apply Sel.there)) (by repeat (first | with_reducible exact Sel.here | with_reducible apply Sel.there)) ?_
      exact s_entF (by repeat (first | exact Ent.nil | refine Ent.per (by repeat (first | with_reducible exact Sel.here | with_reducible apply Sel.there)) ?_ | refine Ent.cons (by repeat (first | with_reducible exact Sel.here | with_reducible apply Sel.there)) ?_)) (s_keep _ (K (Pd p z σ (bkG g) σd, rdK σ (bkG g) (dkOf g)) ⟨pd_nd p z (hI.open_ hn (dkOf g) f2' f1.1 (by omega)), fun key => getR_tree (agr_open (dkOf g)) ht hro.ris key⟩))
    | true =>
      refine go_ ?_
      refine s_call (sp := (by repeat (first | exact Split.nil | apply Split.perx (by repeat (first | with_reducible exact Sel.here | with_reducible apply Sel.there)) (by infer_instance) | apply Split.cons (by repeat (first | with_reducible exact Sel.here | with_reducible apply Sel.there))))) (hs := pcommitK_c p z σ (bkG g) σd (by omega) (by omega) (by omega) (by omega) (by omega) (by omega) (hI.bk hn)) (h := ?_)
      have hd := hI.disk hn f1 f2' (by omega) 1 (by decide) (by decide) (by rw [hn]; exact f5)
      rw [hz1]
      rintro v Bs (⟨_, rfl, rfl⟩ | ⟨hf, _⟩)
      · refine go_ ?_
        refine s_pdP (p := p) (z := { z with gen := 1 + 1 }) (σ := { σ with done := σ.now }) (by repeat (first | with_reducible exact Sel.here | with_reducible apply Sel.there)) (by repeat (first | with_reducible exact Sel.here | with_reducible apply Sel.there)) ?_
        exact s_entF (by repeat (first | exact Ent.nil | refine Ent.per (by repeat (first | with_reducible exact Sel.here | with_reducible apply Sel.there)) ?_ | refine Ent.cons (by repeat (first | with_reducible exact Sel.here | with_reducible apply Sel.there)) ?_)) (s_keep _ (K (Pd p { z with gen := 1 + 1 } { σ with done := σ.now } (fun _ => none) (σd.commitK σ (bkG g) (1 + 1)).1, rdK { σ with done := σ.now } (fun _ => none) (dkOf g)) ⟨pd_nd p _ hd, fun key => getR_tree (agr_disk rfl rfl) ht hro.ris key⟩))
      · rw [(Dr.on_commitK f1 σ (bkG g) (1 + 1)).1] at hf; cases hf
  case K =>
    rintro ⟨PP, rd⟩ ⟨hR, hG⟩
    dsimp only at hR hG ⊢
    refine s_loop (fun i : Nat => [(8, .slice a2 L.length c2), (1, .slice kb ks.length kc), (9, .pointer (some ⟨p, 0, none⟩)), (11, .int .i64 root), (12, .int .i64 i)])
      (fun _ => [PP, SA none 3 (.slice kb ks.length kc) ks.length (keyR ks), SA none 4 (.slice a2 L.length c2) L.length (itemRow w2 L), IFam w2 L, F]) (fun i => i ≤ L.length) (fun i => L.length - i) 0 (Nat.zero_le _) (by repeat (first | exact Ent.nil | refine Ent.per (by repeat (first | with_reducible exact Sel.here | with_reducible apply Sel.there)) ?_ | refine Ent.cons (by repeat (first | with_reducible exact Sel.here | with_reducible apply Sel.there)) ?_)) ?_
    intro i hi next
    refine go_ ?_
    refine s_if (fun h => ?_) (fun h => ?_)
    · have hi2 : i < L.length := by omega
      refine go_ ?_
      refine s_look (lk_ldeN (sz := 4) (fo := 0) (n := L.length) (i := i) (v := .slice a2 L.length c2) (vs := (L.getD i default).key.row) (s := (by repeat (first | with_reducible exact SelR.here | with_reducible apply SelR.there)))) ?_
      refine go_ ?_
      refine s_call (sp := (by repeat (first | exact Split.nil | apply Split.perx (by repeat (first | with_reducible exact Sel.here | with_reducible apply Sel.there)) (by infer_instance) | apply Split.cons (by repeat (first | with_reducible exact Sel.here | with_reducible apply Sel.there))))) (hs := ggetU_c hR hG (L.getD i default).key) (h := ?_)
      have hself := getT_self hro.ris hi2
      rw [show gv L (L.getD i default).key = (L.getD i default).val by unfold gv; rw [hself], show ge L (L.getD i default).key = 0 by unfold ge; rw [hself]]
      rintro v Bs ⟨a8, c8, rfl, rfl⟩
      refine go_ ?_
      refine s_get i (F := itemFam w2 L) (m := L.length) (by repeat (first | with_reducible exact Sel.here | with_reducible apply Sel.there)) hi2 ?_
      refine s_open (B := BS (.slice (w2 i).1 (L.getD i default).val.length (w2 i).2) (L.getD i default).val) (fun _ _ q => q) ?_
      refine s_drawN 0 [.q 0, .q 1, .q 2, .q 3, .q 4, .q 5, .q 6, .q 7, .q 8, .q 9, .q 10, .q 11, .q 12] ?_
      refine do_ ?_
      refine d_look rfl (lk_b2s (a := a8) (c := c8) (m := (L.getD i default).val.length) (s := (L.getD i default).val) (by repeat (first | with_reducible exact SelR.here | with_reducible apply SelR.there)) rfl) ?_
      refine do_ ?_
      refine d_look rfl (lk_b2s (a := (w2 i).1) (c := (w2 i).2) (m := (L.getD i default).val.length) (s := (L.getD i default).val) (by repeat (first | with_reducible exact SelR.here | with_reducible apply SelR.there)) rfl) ?_
      refine do_ ?_
      rw [show (!((strB (L.getD i default).val).toList == (strB (L.getD i default).val).toList)) = false by simp]
      refine do_ ?_
      refine go_ ?_
      exact s_entF (by repeat (first | exact Ent.nil | refine Ent.per (by repeat (first | with_reducible exact Sel.here | with_reducible apply Sel.there)) ?_ | refine Ent.cons (by repeat (first | with_reducible exact Sel.here | with_reducible apply Sel.there)) ?_)) (s_keep _ (next (i + 1) (by omega) (by omega)))
    · refine go_ ?_
      refine s_loop (fun i : Nat => [(8, .slice a2 L.length c2), (1, .slice kb ks.length kc), (9, .pointer (some ⟨p, 0, none⟩)), (11, .int .i64 root), (15, .int .i64 i)])
        (fun _ => [PP, SA none 3 (.slice kb ks.length kc) ks.length (keyR ks), SA none 4 (.slice a2 L.length c2) L.length (itemRow w2 L), IFam w2 L, F]) (fun i => i ≤ 20) (fun i => 20 - i) 0 (Nat.zero_le _) (by repeat (first | exact Ent.nil | refine Ent.per (by repeat (first | with_reducible exact Sel.here | with_reducible apply Sel.there)) ?_ | refine Ent.cons (by repeat (first | with_reducible exact Sel.here | with_reducible apply Sel.there)) ?_)) ?_
      intro j hj next2
      refine go_ ?_
      cases h1 : decide ((j : Int) < (ks.length : Int)) with
      | false =>
        refine go_ ?_
        exact s_ret1 (rs := [.tmp 6]) Tryz.func4 rfl (by intro j; refine RVS.tmp _ rfl ?_; exact RVS.nil) (⟨rfl, rfl⟩) (by repeat (first | exact Ent.nil | refine Ent.per (by repeat (first | with_reducible exact Sel.here | with_reducible apply Sel.there)) ?_ | refine Ent.cons (by repeat (first | with_reducible exact Sel.here | with_reducible apply Sel.there)) ?_))
      | true =>
        have h1' := of_decide_eq_true h1
        refine go_ ?_
        refine s_if (fun h2 => ?_) (fun h2 => ?_)
        · have hj2 : j < ks.length := by omega
          refine go_ ?_
          refine s_call (sp := (by repeat (first | exact Split.nil | apply Split.perx (by repeat (first | with_reducible exact Sel.here | with_reducible apply Sel.there)) (by infer_instance) | apply Split.cons (by repeat (first | with_reducible exact Sel.here | with_reducible apply Sel.there))))) (hs := ggetU_c hR hG (ks.getD j default)) (h := ?_)
          rintro v Bs ⟨a8, c8, rfl, rfl⟩
          refine go_ ?_
          refine s_call (sp := (by repeat (first | exact Split.nil | apply Split.perx (by repeat (first | with_reducible exact Sel.here | with_reducible apply Sel.there)) (by infer_instance) | apply Split.cons (by repeat (first | with_reducible exact Sel.here | with_reducible apply Sel.there))))) (hs := rgetU_c (A := SA none 4 (.slice a2 L.length c2) L.length (itemRow w2 L)) (a := a2) (c := c2) (w := w2) L (ks.getD j default) (by omega)) (h := ?_)
          rintro v Bs ⟨a9, c9, rfl, rfl⟩
          refine go_ ?_
          generalize gv L (ks.getD j default) = V at *
          generalize ge L (ks.getD j default) = E at *
          refine s_look (lk_b2s (a := a8) (c := c8) (m := V.length) (s := V) (by repeat (first | with_reducible exact SelR.here | with_reducible apply SelR.there)) rfl) ?_
          refine go_ ?_
          refine s_look (lk_b2s (a := a9) (c := c9) (m := V.length) (s := V) (by repeat (first | with_reducible exact SelR.here | with_reducible apply SelR.there)) rfl) ?_
          refine go_ ?_
          rw [show (!((strB V).toList == (strB V).toList)) = false by simp]
          refine go_ ?_
          rw [show (E != E) = false by simp]
          refine go_ ?_
          exact s_entF (by repeat (first | exact Ent.nil | refine Ent.per (by repeat (first | with_reducible exact Sel.here | with_reducible apply Sel.there)) ?_ | refine Ent.cons (by repeat (first | with_reducible exact Sel.here | with_reducible apply Sel.there)) ?_)) (s_keep _ (next2 (j + 1) (by omega) (by omega)))
        · refine go_ ?_
          exact s_ret1 (rs := [.tmp 6]) Tryz.func4 rfl (by intro j; refine RVS.tmp _ rfl ?_; exact RVS.nil) (⟨rfl, rfl⟩) (by repeat (first | exact Ent.nil | refine Ent.per (by repeat (first | with_reducible exact Sel.here | with_reducible apply Sel.there)) ?_ | refine Ent.cons (by repeat (first | with_reducible exact Sel.here | with_reducible apply Sel.there)) ?_))
end Go.Proofs.YtgbbcpfnmkeijaaGreat
