/- Arrays that are cut into slices, over assertions. -/
import Derived.Test.YtmlddafbenfilaaDoorCamAC
import Derived.OpenShut
namespace Go.Cam
section
variable {P : Program} {f : FuncId} {n : Nat} {R : Value → HP} {k : List It} {l : List (Nat × Value)} {As Bs : List HP} {d : Nat} {oty : TypeId} {pos : String} {af : Array Edge} {g : Option (Nat × Bool)}
/-- a block of one's own may be only read from now on: as a slice -/
theorem s_fzo {sz m c off b : Nat} {cs : Array Value} {ty : TypeId} {fr : Nat × Nat} {row : Nat → List Value} (u : Sel (.own b (.cells cs ty fr)) As Bs) (hr : ∀ i, i < m → (row i).length = sz) (hm : m ≤ c) (hl : off + m * sz ≤ cs.size)
    (hx : cs.extract off (off + m * sz) = (flat m row).toArray) (h : RunS P f n R k l (SA none sz (.slice (some ⟨b, off, none⟩) m c) m row :: Bs)) : RunS P f n R k l As := .mk fun H M s => by
  have hs := u.sat s
  intro j w0 w a bb cs' k' hk hh ha hf hn
  obtain ⟨g1, g2⟩ := own_freeze (b := b) (o := .cells cs ty fr) (X := Sat Bs) hh.d hs
  exact h _ _ (per_add (M0 := M) ⟨_, _, rfl, hm, hr, fun _ => ⟨b, off, cs, ty, fr, rfl, upd_same _ _ _, hl, hx⟩⟩ g2) j w0 w a bb cs' k' hk (g1 _ _ hh) ha hf hn
theorem fdiv_pow (a m : Nat) : (a : Int).fdiv (2 ^ m) = ((a / 2 ^ m : Nat) : Int) := by
  have h2 : ((2 : Int) ^ m) = ((2 ^ m : Nat) : Int) := by simp
  rw [h2, Int.fdiv_eq_ediv_of_nonneg _ (Int.natCast_nonneg _), Int.natCast_ediv]
theorem wrap_u8 (a : Nat) : IntKind.u8.wrap (a : Int) = ((a % 256 : Nat) : Int) := by
  simp only [IntKind.wrap, IntKind.signed, IntKind.bits]
  simp
end
end Go.Cam
/- Maps by whole numbers, over assertions. -/
namespace Go.Cam
section
variable {P : Program} {H M : Heap}
def hq {α : Type} (P : Program) (e : Sem α) (H M : Heap) (a : α) : Prop := ∀ w0 w, Has w0 w H M → e.run P w = .ok a w
theorem hq_bind {α β : Type} {e : Sem α} {f : α → Sem β} {a : α} {b : β} (h : hq P e H M a) (h2 : hq P (f a) H M b) : hq P (e >>= f) H M b := fun w0 w hh => by
  rw [hm_run_bind _ _ _ (h w0 w hh)]; exact h2 w0 w hh
theorem hq_pure {α : Type} {a : α} : hq P (pure a) H M a := fun _ _ _ => rfl
theorem hq_cst {α : Type} {e : Sem α} {a : α} (h : cst P e = some a) : hq P e H M a := fun _ w _ => cst_run e h w
end
/-- entries of a map by whole numbers -/
structure WFM (es : List MapEntry) (ck : Nat) (g : Int → Option Value) : Prop where
  key : ∀ e ∈ es, ∃ k, e.key = .int .i64 k ∧ g k = some e.val
  all : ∀ k v, g k = some v → ∃ e ∈ es, e.key = .int .i64 k
  kd : es.Pairwise (fun a b => a.key ≠ b.key)
  bd : es.Pairwise (fun a b => a.born ≠ b.born)
  bl : ∀ e ∈ es, e.born < ck
/-- a map of one's own: what it has -/
def MG (r : Nat) (g : Int → Option Value) : HP := ⟨fun _ M => ∃ es ck, M r = some (.map es ck) ∧ WFM es.toList ck g, fun _ h2 ⟨es, ck, h3, h4⟩ => ⟨es, ck, h2 _ _ h3, h4⟩⟩
section
variable {P : Program} {f : FuncId} {n : Nat} {R : Value → HP} {k : List It} {l : List (Nat × Value)} {As Bs : List HP} {all : Array Oper} {rest : List Oper} {d : Nat} {dd : Option Nat} {oty : TypeId} {pos : String} {af : Array Edge} {g : Option (Nat × Bool)}
def mset (gm : Int → Option Value) (k : Int) (v : Option Value) : Int → Option Value := fun q => if q = k then v else gm q
theorem WFM.push {es : List MapEntry} {ck : Nat} {gm : Int → Option Value} (h : WFM es ck gm) {k : Int} (v : Value) (hk : gm k = none) : WFM (es ++ [⟨.int .i64 k, v, ck⟩]) (ck + 1) (mset gm k (some v)) where
  key e he := by
    rcases List.mem_append.1 he with he | he
    · obtain ⟨k2, h1, h2⟩ := h.key e he
      exact ⟨k2, h1, by unfold mset; rw [if_neg fun e => by subst e; rw [hk] at h2; cases h2]; exact h2⟩
    · rw [List.mem_singleton] at he; subst he; exact ⟨k, rfl, by simp [mset]⟩
  all k2 v2 h2 := by
    unfold mset at h2
    split at h2
    · rename_i e; subst e; exact ⟨_, List.mem_append_right _ (List.mem_singleton.2 rfl), rfl⟩
    · obtain ⟨e, he, hk2⟩ := h.all _ _ h2; exact ⟨e, List.mem_append_left _ he, hk2⟩
  kd := by
    refine List.pairwise_append.2 ⟨h.kd, List.pairwise_singleton .., fun a ha b hb => ?_⟩
    rw [List.mem_singleton] at hb; subst hb
    obtain ⟨k2, h1, h2⟩ := h.key a ha
    rw [h1]; intro e; cases e; rw [hk] at h2; cases h2
  bd := by
    refine List.pairwise_append.2 ⟨h.bd, List.pairwise_singleton .., fun a ha b hb => ?_⟩
    rw [List.mem_singleton] at hb; subst hb
    have := h.bl a ha
    show a.born ≠ ck; omega
  bl e he := by
    rcases List.mem_append.1 he with he | he
    · have := h.bl e he; omega
    · rw [List.mem_singleton] at he; subst he; exact Nat.lt_succ_self _
theorem pw_set {r : MapEntry → MapEntry → Prop} (hr : ∀ a a' b, r a b → a'.key = a.key → a'.born = a.born → r a' b) (hr2 : ∀ a b b', r a b → b'.key = b.key → b'.born = b.born → r a b') {e' e : MapEntry} (h1 : e'.key = e.key) (h2 : e'.born = e.born) :
    ∀ {es : List MapEntry} {j : Nat}, es[j]? = some e → es.Pairwise r → (es.set j e').Pairwise r
  | [], _, h, _ => by simp at h
  | a :: es, 0, h, hp => by
    simp at h; subst h
    rw [List.set_cons_zero]
    rw [List.pairwise_cons] at hp ⊢
    exact ⟨fun b hb => hr _ _ _ (hp.1 b hb) h1 h2, hp.2⟩
  | a :: es, j + 1, h, hp => by
    rw [List.getElem?_cons_succ] at h
    rw [List.set_cons_succ]
    rw [List.pairwise_cons] at hp ⊢
    refine ⟨fun b hb => ?_, pw_set hr hr2 h1 h2 h hp.2⟩
    rcases List.mem_or_eq_of_mem_set hb with hb | rfl
    · exact hp.1 b hb
    · exact hr2 _ _ _ (hp.1 e (List.mem_of_getElem? h)) h1 h2
theorem WFM.put {es : List MapEntry} {ck : Nat} {gm : Int → Option Value} (h : WFM es ck gm) {k : Int} (v : Value) {j : Nat} {e : MapEntry} (hj : es[j]? = some e) (hk : e.key = .int .i64 k) : WFM (es.set j { e with key := .int .i64 k, val := v }) ck (mset gm k (some v)) where
  key x hx := by
    rcases List.mem_or_eq_of_mem_set hx with hx2 | rfl
    · obtain ⟨k2, h1, h2⟩ := h.key x hx2
      refine ⟨k2, h1, ?_⟩
      unfold mset
      split
      · rename_i e2; subst e2
        obtain ⟨i, hi⟩ := List.getElem?_of_mem hx
        rw [List.getElem?_set] at hi
        have hlt : j < es.length := by rcases Nat.lt_or_ge j es.length with h1 | h1; exact h1; rw [List.getElem?_eq_none h1] at hj; cases hj
        by_cases e3 : j = i
        · subst e3; rw [if_pos rfl, if_pos hlt] at hi; cases hi; rfl
        · have hne := e3
          rw [if_neg e3] at hi
          exfalso
          have hxe : x.key = e.key := by rw [h1, hk]
          have hp := h.kd
          rw [List.pairwise_iff_getElem] at hp
          have hil : i < es.length := by rcases Nat.lt_or_ge i es.length with h1 | h1; exact h1; rw [List.getElem?_eq_none h1] at hi; cases hi
          have e1 : es[j] = e := by rw [List.getElem?_eq_getElem hlt] at hj; exact Option.some.inj hj
          have e4 : es[i] = x := by rw [List.getElem?_eq_getElem hil] at hi; exact Option.some.inj hi
          rcases Nat.lt_or_gt_of_ne hne with hl | hl
          · exact hp j i hlt hil hl (by rw [e1, e4, hxe])
          · exact hp i j hil hlt hl (by rw [e1, e4, hxe])
      · exact h2
    · exact ⟨k, rfl, by simp [mset]⟩
  all k2 v2 h2 := by
    have hlt : j < es.length := by rcases Nat.lt_or_ge j es.length with h1 | h1; exact h1; rw [List.getElem?_eq_none h1] at hj; cases hj
    unfold mset at h2
    split at h2
    · rename_i e2; subst e2; exact ⟨_, List.mem_set hlt _, rfl⟩
    · rename_i hne
      obtain ⟨x, hx, hk2⟩ := h.all _ _ h2
      obtain ⟨i, hi⟩ := List.getElem?_of_mem hx
      refine ⟨x, List.mem_of_getElem? (i := i) ?_, hk2⟩
      rw [List.getElem?_set, if_neg]
      · exact hi
      · intro e2; subst e2; rw [hj] at hi; cases hi; rw [hk] at hk2; cases hk2; exact hne rfl
  kd := pw_set (e := e) (e' := { e with key := .int .i64 k, val := v }) (fun a a' b h h1 _ => by rw [h1]; exact h) (fun a b b' h h1 _ => by rw [h1]; exact h) hk.symm rfl hj h.kd
  bd := pw_set (e := e) (e' := { e with key := .int .i64 k, val := v }) (fun a a' b h _ h1 => by rw [h1]; exact h) (fun a b b' h _ h1 => by rw [h1]; exact h) hk.symm rfl hj h.bd
  bl x hx := by
    rcases List.mem_or_eq_of_mem_set hx with hx | rfl
    · exact h.bl x hx
    · exact h.bl e (List.mem_of_getElem? hj)
end
end Go.Cam
/- Maps, gone through; over assertions. -/
namespace Go.Cam
/-- a map that is being gone through: S are the keys that were told, the last one first; n how many are left -/
def MIt (ri rm : Nat) (g : Int → Option Value) (S : List Int) (n : Nat) : HP :=
  ⟨fun _ M => ∃ es ck seen, ∃ xs : List MapEntry, M rm = some (.map es ck) ∧ M ri = some (.mapIter (some rm) ck seen ck) ∧ ri ≠ rm ∧ WFM es.toList ck g ∧ (∀ x ∈ xs, x ∈ es.toList) ∧ xs.Pairwise (fun (a b : MapEntry) => a.born ≠ b.born) ∧ xs.map (·.key) = S.map (Value.int .i64) ∧ seen.toList = (xs.map (·.born)).reverse ∧ n + xs.length = es.toList.length,
   fun _ h2 ⟨es, ck, seen, xs, h3, h4, r⟩ => ⟨es, ck, seen, xs, h2 _ _ h3, h2 _ _ h4, r⟩⟩
theorem MIt.out {ri rm : Nat} {g : Int → Option Value} {S : List Int} {n : Nat} (H M : Heap) (h : (MIt ri rm g S n).p H M) : (MG rm g).p H M := by
  obtain ⟨es, ck, _, _, h1, _, _, h2, _⟩ := h; exact ⟨es, ck, h1, h2⟩
section
variable {P : Program} {f : FuncId} {n : Nat} {R : Value → HP} {k : List It} {l : List (Nat × Value)} {As Bs : List HP} {all : Array Oper} {rest : List Oper} {d : Nat} {dd : Option Nat} {oty : TypeId} {pos : String} {af : Array Edge} {g : Option (Nat × Bool)}
end
end Go.Cam
/- Slices of one's own: elements that are stored; slices that may be nothing; parts with three bounds; arrays out of slices; copies. -/
namespace Go.Cam
/-- a slice of one's own, or of no elements -/
def SO (e sz : Nat) (v : Value) (n : Nat) (row : Nat → List Value) : HP := ⟨fun _ M => SlO M e sz v n row ∨ (n = 0 ∧ ∃ a, v = .slice a 0 0), fun _ hl h => h.imp (fun ⟨h1, h2, h3, h4⟩ => ⟨h1, h2, h3.frame fun c o _ h => hl c o h, h4⟩) id⟩
theorem SO.own {e sz : Nat} {v : Value} {n : Nat} {row : Nat → List Value} (hn : 0 < n) (H M : Heap) (h : (SO e sz v n row).p H M) : (SA (some e) sz v n row).p H M := by
  rcases h with h | ⟨h, _⟩
  · exact h
  · omega
instance {e sz v n row} : Rd (SO e sz v n row) sz v n row := ⟨fun H M h => by
  rcases h with h | ⟨rfl, a, rfl⟩
  · exact SA.rd (m := some e) (H := H) h
  · exact ⟨a, 0, rfl, Nat.le_refl _, fun i hi => by omega, fun h => by omega⟩⟩
theorem SO.cg {e sz : Nat} {v : Value} {n : Nat} {row : Nat → List Value} (row' : Nat → List Value) (he : ∀ i, i < n → row i = row' i) (H M : Heap) (h : (SO e sz v n row).p H M) : (SO e sz v n row').p H M := by
  rcases h with h | h
  · exact .inl (SA.cg (m := some e) row' he H M h)
  · exact .inr h
theorem SO.val {e sz : Nat} {v : Value} {n : Nat} {row : Nat → List Value} (H M : Heap) (h : (SO e sz v n row).p H M) : ∃ a c, v = .slice a n c ∧ n ≤ c := by
  obtain ⟨a, c, h1, h2, _⟩ := Rd.h (A := SO e sz v n row) (v := v) (sz := sz) (n := n) (row := row) H M h; exact ⟨a, c, h1, h2⟩
theorem SO.cap {e sz : Nat} {a : Option Addr} {n c : Nat} {row : Nat → List Value} (H M : Heap) (h : (SO e sz (.slice a n c) n row).p H M) : n ≤ c := by
  obtain ⟨_, _, e, h2⟩ := SO.val H M h; cases e; exact h2
section
variable {P : Program} {f : FuncId} {n : Nat} {R : Value → HP} {k : List It} {l : List (Nat × Value)} {As Bs : List HP} {all : Array Oper} {rest : List Oper} {d : Nat} {dd : Option Nat} {oty : TypeId} {pos : String} {af : Array Edge} {g : Option (Nat × Bool)}
end
end Go.Cam
/- Blocks of bytes; copies; arrays out of slices; bytes as a string; many assertions at once. -/
namespace Go.Cam
abbrev bcl (l : List Nat) : List Value := l.map fun (c : Nat) => .int .u8 (c : Int)
/-- bytes, as a slice's row -/
abbrev byR (l : List Nat) (i : Nat) : List Value := [.int .u8 ((l.getD i 0 : Nat) : Int)]
def Bys (l : List Nat) : Prop := ∀ c, c ∈ l → c < 256
theorem Bys.drop {l : List Nat} (h : Bys l) (n : Nat) : Bys (l.drop n) := fun c hc => h c (List.mem_of_mem_drop hc)
theorem Bys.take {l : List Nat} (h : Bys l) (n : Nat) : Bys (l.take n) := fun c hc => h c (List.mem_of_mem_take hc)
theorem Bys.app {l m : List Nat} (h : Bys l) (h2 : Bys m) : Bys (l ++ m) := fun c hc => (List.mem_append.1 hc).elim (h c) (h2 c)
theorem Bys.nil : Bys [] := fun c hc => (nomatch hc)
theorem flat_byR' (l : List Nat) : flat l.length (byR l) = bcl l := by
  unfold flat
  apply List.ext_getElem?
  intro i
  have : ∀ (n : Nat) (f : Nat → Value), (List.range n).flatMap (fun i => [f i]) = (List.range n).map f := fun n f => by
    induction List.range n with
    | nil => rfl
    | cons x xs ih => rw [List.flatMap_cons, ih]; rfl
  show ((List.range l.length).flatMap fun i => [Value.int .u8 ((l.getD i 0 : Nat) : Int)])[i]? = _
  rw [this]
  by_cases h : i < l.length
  · simp [bcl, h, List.getD_eq_getElem?_getD]
  · simp [bcl, h]
theorem bcl_one (l : List Nat) : (bcl l).all one = true := by
  rw [List.all_eq_true]; intro u hu; obtain ⟨c, _, rfl⟩ := List.mem_map.1 hu; rfl
instance {l : List Nat} : Cel (.agg (bcl l).toArray) (bcl l) := ⟨rfl, bcl_one l⟩
theorem SA.full {e sz n : Nat} {a : Option Addr} {row : Nat → List Value} (h0 : 0 < n) {H M : Heap} (h : (SA (some e) sz (.slice a n n) n row).p H M) : ∃ r, a = some ⟨r, 0, none⟩ ∧ (HP.own r (.cells (flat n row).toArray e (0, 0))).p H M := by
  obtain ⟨h1, h2, hown, _⟩ := h
  rcases hown with ⟨h1, _⟩ | ⟨b, ln, cp, cs, e1, h3, h4, h5, h6, h7⟩
  · cases h1; omega
  · cases e1
    refine ⟨b, rfl, ?_⟩
    have : cs = (flat n row).toArray := by
      apply Array.ext'
      rw [← h7, List.take_of_length_le]
      simp [h3, h4]
    rw [← this]; exact h6
theorem setL_list (l vs : List Value) (off : Nat) (h : off + vs.length ≤ l.length) : setL l.toArray off vs = (l.take off ++ vs ++ l.drop (off + vs.length)).toArray := by
  apply Array.ext_getElem?
  intro i
  by_cases hi : i < l.length
  · rw [setL_get _ _ _ _ (by simpa using hi)]
    simp only [List.getElem?_toArray]
    by_cases h1 : off ≤ i ∧ i < off + vs.length
    · rw [if_pos h1, List.getElem?_append_left (by simp; omega), List.getElem?_append_right (by simp; omega)]
      congr 1; simp; omega
    · rw [if_neg h1]
      by_cases h2 : i < off
      · rw [List.getElem?_append_left (by simp; omega), List.getElem?_append_left (by simp; omega), List.getElem?_take, if_pos h2]
      · rw [List.getElem?_append_right (by simp; omega), List.getElem?_drop]
        congr 1; simp; omega
  · rw [Array.getElem?_eq_none (by rw [setL_size]; simp; omega), Array.getElem?_eq_none (by simp; omega)]
section
variable {P : Program} {f : FuncId} {n : Nat} {R : Value → HP} {k : List It} {l : List (Nat × Value)} {As Bs : List HP} {all : Array Oper} {rest : List Oper} {d : Nat} {dd : Option Nat} {oty : TypeId} {pos : String} {af : Array Edge} {g : Option (Nat × Bool)}
theorem s_full {e sz m : Nat} {a : Option Addr} {row : Nat → List Value} (u : Sel (SA (some e) sz (.slice a m m) m row) As Bs) (h0 : 0 < m) (h : ∀ r, a = some ⟨r, 0, none⟩ → RunS P f n R k l (.own r (.cells (flat m row).toArray e (0, 0)) :: Bs)) : RunS P f n R k l As := .mk fun H M s => by
  obtain ⟨M1, M2, a1, a2, dj, hA, hB⟩ := u.sat s
  obtain ⟨r, h1, h2⟩ := SA.full h0 hA
  exact h r h1 H M ⟨M1, M2, a1, a2, dj, h2, hB⟩
theorem execOp_copy (e : Nat → Value) {d : Option Nat} {pos : String} {af : Array Edge} {g : Option (Nat × Bool)} {t t2 : TypeId} {p q : Operand} : execOp (ev e) ⟨d, .call ⟨.builtin .copy, #[p, q], #[t, t2]⟩, oty, pos, af, g⟩ = (Builtin.copy_ #[t, t2] oty #[ev e p, ev e q] >>= fun v => pure (Next.value v)) := by
  show (resolve (ev e) ⟨.builtin .copy, #[p, q], #[t, t2]⟩ oty >>= fun d => invoke d.target d.args) = _
  have : #[p, q].map (ev e) = #[ev e p, ev e q] := by simp
  unfold resolve
  dsimp only
  rw [this]; rfl
theorem hm_copy {t t2 el sz b off n' c' m c : Nat} {u : Option Addr} {ty : TypeId} {cs : Array Value} {row : Nat → List Value} [sc : SC P t el] [hs : SZ P el sz] {H M : Heap} {K : Value → Heap → Heap → Prop} (hb : M b = some (.cells cs ty (0, 0))) (hr : SlK (Kn H M) sz (.slice u m c) m row) (h1 : (flat m row).all one = true)
    (hl : off + min m n' * sz ≤ cs.size) (hk : K (.int .i64 (min m n' : Nat)) H (upd M b (.cells (setL cs off (flat (min m n') row)) ty (0, 0)))) : hm P (Builtin.copy_ #[t, t2] oty #[.slice (some ⟨b, off, none⟩) n' c', .slice u m c]) H M K := by
  unfold Builtin.copy_
  simp only [List.getElem?_toArray, List.getElem?_cons_zero, List.getElem?_cons_succ]
  refine hm_bind (hm_cst sc.h ?_)
  dsimp only
  refine hm_bind (hm_cst (a := m) rfl ?_)
  refine hm_bind (hm_cst hs.h ?_)
  obtain ⟨base, cap, e, _, hrl, h3⟩ := hr
  cases e
  have hmin : Nat.min m n' = min m n' := rfl
  rw [hmin]
  generalize hm' : min m n' = m' at hl hk
  have hle : m' ≤ m := by omega
  have hfl : (flat m' row).length = m' * sz := flat_len fun i hi => hrl i (by omega)
  have hfin : ∀ (cells : Array Value), cells = (flat m' row).toArray → hm P (do storeCells ⟨b, off, none⟩ cells.toList; pure (goInt m')) H M K := fun cells hc => by
    subst hc
    refine hm_bind (hm_storeCells hb (by rw [hfl]; exact hl) ?_ (hm_pure hk))
    rw [List.all_eq_true] at *
    intro v hv
    refine h1 v ?_
    obtain ⟨i, hi, hv2⟩ := List.mem_flatMap.1 hv
    exact List.mem_flatMap.2 ⟨i, List.mem_range.2 (by have := List.mem_range.1 hi; omega), hv2⟩
  rcases Nat.eq_zero_or_pos m with h0 | h0
  · have : m' = 0 := by omega
    subst this
    have hc : cst P (Builtin.firstCells sz 0 (.slice u m c)) = some #[] := by
      cases u with
      | none => rfl
      | some a => show cst P (loadCells a (0 * sz)) = _; rw [Nat.zero_mul]; rfl
    exact hm_bind (hm_cst hc (hfin _ rfl))
  · obtain ⟨bx, ox, cx, tx, fx, rfl, kx, hsx, hx⟩ := h3 h0
    refine hm_bind ?_
    show hm P (loadCells ⟨bx, ox, none⟩ (m' * sz)) H M _
    have hle2 : m' * sz ≤ m * sz := Nat.mul_le_mul_right _ hle
    refine hm_loadCells kx (by omega) (hfin _ ?_)
    apply Array.ext'
    have := congrArg Array.toList hx
    rw [Array.toList_extract, List.extract_eq_take_drop, Nat.add_sub_cancel_left] at this ⊢
    dsimp only at this ⊢
    have e2 := congrArg (List.take (m' * sz)) this
    rw [List.take_take, Nat.min_eq_left hle2] at e2
    rw [e2]
    obtain ⟨w, rfl⟩ : ∃ w, m = m' + w := ⟨m - m', by omega⟩
    rw [flat_add, List.take_left' hfl]
def strB (l : List Nat) : ByteArray := ⟨(l.map UInt8.ofNat).toArray⟩
theorem Sat.perm {As Bs : List HP} (h : As.Perm Bs) : ∀ {H M : Heap}, (Sat As).p H M → (Sat Bs).p H M := by
  induction h with
  | nil => exact fun h => h
  | cons x _ ih => exact fun h => star_mono (fun _ _ => ih) h
  | swap x y l => exact fun h => star_swap h
  | trans _ _ ih1 ih2 => exact fun h => ih2 (ih1 h)
def All (ks : List Int) (F : Int → HP) : HP := Sat (ks.map F)
theorem All.perm {ks ks' : List Int} {F : Int → HP} (h : ks.Perm ks') (H M : Heap) (q : (All ks F).p H M) : (All ks' F).p H M := Sat.perm (h.map F) q
theorem All.cons {k : Int} {ks : List Int} {F : Int → HP} (H M : Heap) (q : (All (k :: ks) F).p H M) : ((F k).star (All ks F)).p H M := q
theorem All.cg {F G : Int → HP} : ∀ {ks : List Int}, (∀ k ∈ ks, ∀ H M, (F k).p H M → (G k).p H M) → ∀ H M, (All ks F).p H M → (All ks G).p H M
  | [], _, _, _, q => q
  | k :: ks, h, H, M, q => star_monoL (h k (List.mem_cons_self ..)) (star_mono (fun H M q => All.cg (ks := ks) (fun k hk => h k (List.mem_cons_of_mem _ hk)) H M q) q)
theorem All.take {k : Int} {ks : List Int} {F : Int → HP} (hk : k ∈ ks) (H M : Heap) (q : (All ks F).p H M) : ((F k).star (All (ks.erase k) F)).p H M := All.perm (List.perm_cons_erase hk) H M q
end
end Go.Cam
/- What may be seen otherwise between two steps: frozen slices. -/
namespace Go.Cam
theorem sat1 {F : HP} {H M : Heap} (h : F.p H M) : (Sat [F]).p H M := ⟨M, fun _ => none, Le.refl _, (fun _ _ h => nomatch h), fun _ => .inr rfl, h, trivial⟩
/-- what holds may be seen otherwise, whatever stands beside it -/
def View (Bs Cs : List HP) : Prop := ∀ (F : HP) w0 w H M, Has w0 w H M → ((Sat Bs).star F).p H M → ∃ H' M', Has w0 w H' M' ∧ ((Sat Cs).star F).p H' M'
theorem View.refl (Bs : List HP) : View Bs Bs := fun _ _ _ H M hh q => ⟨H, M, hh, q⟩
theorem View.trans {A B C : List HP} (h : View A B) (g : View B C) : View A C := fun F w0 w H M hh q => by
  obtain ⟨H1, M1, h1, q1⟩ := h F w0 w H M hh q
  exact g F w0 w H1 M1 h1 q1
theorem View.imp {A B : List HP} (h : ∀ H M, (Sat A).p H M → (Sat B).p H M) : View A B := fun F w0 w H M hh q => ⟨H, M, hh, star_monoL h q⟩
theorem star_assoc {A B C : HP} {H M : Heap} (h : ((A.star B).star C).p H M) : (A.star (B.star C)).p H M := by
  have h1 := star_comm h
  have h2 := star_swap h1
  exact star_mono (fun _ _ q => star_comm q) h2
theorem star_assoc' {A B C : HP} {H M : Heap} (h : (A.star (B.star C)).p H M) : ((A.star B).star C).p H M := by
  have h1 : (A.star (C.star B)).p H M := star_mono (fun _ _ q => star_comm q) h
  exact star_comm (star_swap h1)
theorem View.cons {a : HP} {A B : List HP} (h : View A B) : View (a :: A) (a :: B) := fun F w0 w H M hh q => by
  obtain ⟨H1, M1, h1, q1⟩ := h (a.star F) w0 w H M hh (star_swap (star_assoc q))
  exact ⟨H1, M1, h1, star_assoc' (star_swap q1)⟩
theorem View.head {a b : HP} {A : List HP} (h : View [a] [b]) : View (a :: A) (b :: A) := fun F w0 w H M hh q => by
  have q1 : ((Sat [a]).star ((Sat A).star F)).p H M := star_monoL (fun H M h => sat1 h) (star_assoc q)
  obtain ⟨H1, M1, h1, q2⟩ := h _ w0 w H M hh q1
  exact ⟨H1, M1, h1, star_assoc' (star_monoL (fun H M h => star_fst h) q2)⟩
theorem Ctr.view {P : Program} {f : FuncId} {args : List Value} {As : List HP} {Q Q' : Value → List HP → Prop} (h : Ctr P f args As Q) (hv : ∀ v Bs, Q v Bs → ∃ Cs, Q' v Cs ∧ View Bs Cs) : Ctr P f args As Q' := fun F H M s w0 w hh => by
  refine (h F H M s w0 w hh).mono fun e w2 ⟨r, H', M', he, h2, Bs, hq, hb⟩ => ?_
  obtain ⟨Cs, hq', hw⟩ := hv r Bs hq
  obtain ⟨H3, M3, h3, h4⟩ := hw F w0 w2 H' M' h2 (star_mono (fun _ _ => sat_one) (Sat.part hb))
  exact ⟨r, H3, M3, he, h3, Cs, hq', Sat.join h4⟩
/-- what the contract does not ask for stays beside it -/
theorem Ctr.frame {P : Program} {f : FuncId} {args : List Value} {As : List HP} {Q : Value → List HP → Prop} (h : Ctr P f args As Q) (X : List HP) : Ctr P f args (As ++ X) (fun v Bs => ∃ Cs, Q v Cs ∧ Bs = Cs ++ X) := fun F H M s => by
  have s1 : (Sat (As ++ [Sat (X ++ [F])])).p H M := by
    rw [List.append_assoc] at s
    exact Sat.join (Sat.part s)
  refine fun w0 w hh => (h (Sat (X ++ [F])) H M s1 w0 w hh).mono fun e w2 ⟨r, H', M', he, h2, Bs, hq, hb⟩ => ⟨r, H', M', he, h2, Bs ++ X, ⟨Bs, hq, rfl⟩, ?_⟩
  rw [List.append_assoc]; exact Sat.app hb
section
variable {P : Program} {l : List (Nat × Value)} {As : List HP} {d : Nat} {oty : TypeId} {pos : String} {af : Array Edge} {g : Option (Nat × Bool)}
/-- a part of a slice, told as one likes -/
theorem lk_slv (p q : Nat) {t : TypeId} {x : Operand} {lo hi : Option Operand} {a : Option Addr} {len cap el sz : Nat} (v : Value) [SC P t el] [SZ P el sz]
    (hx : ∀ j, ev (mk l j) x = .slice a len cap := by intro j; rfl) (hl : p ≤ q := by omega) (hh : q ≤ cap := by omega) (hlo : ∀ j, loB (mk l j) lo p := by intro j; first | rfl | exact ⟨_, rfl⟩) (hhi : ∀ j, hiB (mk l j) hi len q := by intro j; first | rfl | exact ⟨_, rfl⟩) (he : Value.slice (sladdr a sz p cap) (q - p) (cap - p) = v := by rfl) :
    LookS P ⟨some d, .slice t x lo hi none, oty, pos, af, g⟩ l As v := by
  rw [← he]; exact lk_slc p q hl hh hx hlo hhi
end
end Go.Cam
/- Assertions that hide what they are made of. -/
namespace Go.Cam
def EX {α : Type} (φ : α → Prop) (X : α → List HP) : HP := ⟨fun H M => ∃ x, φ x ∧ (Sat (X x)).p H M, fun h1 h2 ⟨x, h, q⟩ => ⟨x, h, (Sat (X x)).mono h1 h2 q⟩⟩
theorem EX.mk {α : Type} {φ : α → Prop} {X : α → List HP} (x : α) (h : φ x) (H M : Heap) (q : (Sat (X x)).p H M) : (EX φ X).p H M := ⟨x, h, q⟩
theorem Sat.pushL {As Bs : List HP} {H M : Heap} (q : ((Sat As).star (Sat Bs)).p H M) : (Sat (As ++ Bs)).p H M := Sat.app (Sat.join q)
section
variable {P : Program} {f : FuncId} {n : Nat} {R : Value → HP} {k : List It} {l : List (Nat × Value)} {As Bs Rs Zs : List HP} {all : Array Oper} {rest os : List Oper} {d : Nat} {dd : Option Nat} {oty : TypeId} {pos : String} {af : Array Edge} {g : Option (Nat × Bool)}
theorem s_opn {α : Type} {φ : α → Prop} {X : α → List HP} (u : Sel (EX φ X) As Bs) (h : ∀ x, φ x → RunS P f n R k l (X x ++ Bs)) : RunS P f n R k l As := .mk fun H M s => by
  obtain ⟨M1, M2, a1, a2, d, ⟨x, hφ, hA⟩, hB⟩ := u.sat s
  exact h x hφ H M (Sat.pushL ⟨M1, M2, a1, a2, d, hA, hB⟩)
theorem s_cls {α : Type} {φ : α → Prop} {X : α → List HP} (x : α) (hφ : φ x) (sp : Split As (X x) Rs) (h : RunS P f n R k l (EX φ X :: Rs)) : RunS P f n R k l As := .mk fun H M s => by
  have h1 := sp.sat s
  have h2 : ((Sat (X x)).star (Sat Rs)).p H M := star_mono (fun _ _ => sat_one) (Sat.part h1)
  exact h H M (star_monoL (C := EX φ X) (fun H M q => ⟨x, hφ, q⟩) h2)
/-- a slice of one element is written out -/
theorem st_bs1 {t e sz bytes : Nat} {x : Operand} {v z : Value} {cells : List Value} [sl : SL P t e sz bytes] [zv : ZV P e z] (hn : cells.length = sz) (hx : ∀ j, ev (mk l j) x = v := by intro j; rfl) (hc : Cel v cells := by infer_instance) (hm : sz ≤ 16777216 := by decide) :
    StepL P ⟨dd, .buildSlice t 1 #[(0, x)], oty, pos, af, g⟩ l As (fun v Bs => ∃ a, v = .slice a 1 1 ∧ Bs = SA (some e) sz (.slice a 1 1) 1 (fun _ => cells) :: As) := .mk fun j Fs H M s => by
  have hsz : 0 < sz := by obtain ⟨_, _, _, _, _, _, _, _, _, h⟩ := sl.h; exact h
  haveI : OneL cells := ⟨hc.o⟩
  have e0 : v.cells.size = sz := by have := hc.h; rw [← hn, ← this]; simp
  have hf : ∀ j, fillG (fun i => some (i * sz, sz)) (tab (1 * sz) fun i => z.cells[i % z.cells.size]!) ([(0, x)].map fun x => (x.1, ev (mk l j) x.2)) = some cells.toArray := fun j => by
    simp only [List.map_cons, List.map_nil, hx j]
    simp only [fillG, Nat.zero_mul, Nat.one_mul]
    rw [if_neg (by simp [e0, tab_size]), hc.h, setL_whole (by rw [tab_size, hn])]
  have h1 := st_bs (P := P) (l := l) (As := As) (dd := dd) (oty := oty) (pos := pos) (af := af) (g := g) (t := t) (len := 1) (ps := [(0, x)]) (cells := cells) hf (by omega) (by omega) (by rw [Nat.one_mul, hn]; simp)
  refine hmc_mono (h1.h j Fs H M s) fun v H' M' ⟨Bs, ⟨a, hv, hb⟩, hq⟩ => ⟨_, ⟨a, hv, rfl⟩, ?_⟩
  subst hb
  refine star_monoL (fun H M q => ?_) hq
  exact SA_cg1 (fun i hi => by
    have : i = 0 := by omega
    subst this; rw [← hn]; exact rowsOf_one cells) q
end
/-- a stronger end of a contract -/
theorem Ctr.post {P : Program} {f : FuncId} {args : List Value} {As : List HP} {Q Q' : Value → List HP → Prop} (h : Ctr P f args As Q) (hq : ∀ v Bs, Q v Bs → ∃ Cs, Q' v Cs ∧ ∀ H M, (Sat Bs).p H M → (Sat Cs).p H M) : Ctr P f args As Q' :=
  h.view fun v Bs q => by obtain ⟨Cs, h1, h2⟩ := hq v Bs q; exact ⟨Cs, h1, View.imp h2⟩
end Go.Cam
/- Families of assertions that are only read; slices of slices of bytes. -/
namespace Go.Cam
def Fam (n : Nat) (F : Nat → HP) : HP := ⟨fun H M => ∀ i, i < n → (F i).p H M, fun h1 h2 h i hi => (F i).mono h1 h2 (h i hi)⟩
instance {n : Nat} {F : Nat → HP} [hp : ∀ i, Per (F i)] : Per (Fam n F) := ⟨fun h i hi => (hp i).h (h i hi)⟩
theorem Fam.get {n : Nat} {F : Nat → HP} {i : Nat} (hi : i < n) (H M : Heap) (h : (Fam n F).p H M) : (F i).p H M := h i hi
section
variable {P : Program} {f : FuncId} {n : Nat} {R : Value → HP} {k : List It} {l : List (Nat × Value)} {As Bs Rs Zs : List HP}
theorem s_fam0 {F : Nat → HP} (h : RunS P f n R k l (Fam 0 F :: As)) : RunS P f n R k l As := .mk fun H M s => h H M ⟨fun _ => none, M, (fun _ _ h => nomatch h), Le.refl _, fun _ => .inl rfl, fun i hi => by omega, s⟩
theorem s_famS {m : Nat} {F : Nat → HP} [hp : ∀ i, Per (F i)] (u : Sel (Fam m F) As Bs) (u2 : Sel (F m) Bs Rs) (h : RunS P f n R k l (Fam (m + 1) F :: Rs)) : RunS P f n R k l As := .mk fun H M s => by
  have h1 := u.hold s
  have h2 := star_snd (u.sat s)
  have h3 := u2.hold h2
  refine h H M (per_add (M0 := M) (fun i hi => ?_) (star_snd (u2.sat h2)))
  by_cases e : i = m
  · subst e; exact h3
  · exact h1 i (by omega)
theorem Fam.cg {m : Nat} {F : Nat → HP} (G : Nat → HP) (hc : ∀ i, i < m → ∀ H M, (F i).p H M → (G i).p H M) (H M : Heap) (h : (Fam m F).p H M) : (Fam m G).p H M := fun i hi => hc i hi H M (h i hi)
/-- something that holds is forgotten -/
theorem s_drop {a : HP} (u : Sel a As Bs) (h : RunS P f n R k l Bs) : RunS P f n R k l As := .mk fun H M s => h H M (star_snd (u.sat s))
theorem strB_snoc (l : List Nat) (c : Nat) : strB (l ++ [c]) = (strB l).push (UInt8.ofNat c) := by
  unfold strB
  apply ByteArray.ext
  show _ = ((l.map UInt8.ofNat).toArray).push (UInt8.ofNat c)
  simp
theorem hq_b2s {H M : Heap} {n c : Nat} {a : Option Addr} {s : List Nat} (hr : SlK (Kn H M) 1 (.slice a n c) n (byR s)) (hl : s.length = n) : hq P (Conv.bytesToString (.slice a n c)) H M (.string (strB s)) := by
  obtain ⟨base, cap, e, _, _, h3⟩ := hr
  cases e
  cases a with
  | none =>
    have : n = 0 := by
      rcases Nat.eq_zero_or_pos n with h | h
      · exact h
      · obtain ⟨_, _, _, _, _, h4, _⟩ := h3 h; cases h4
    subst this
    have : s = [] := List.eq_nil_of_length_eq_zero hl
    subst this
    exact hq_pure
  | some a =>
    unfold Conv.bytesToString
    dsimp only
    have hload : hq P (loadCells a n) H M (bcl s).toArray := by
      rcases Nat.eq_zero_or_pos n with h | h
      · subst h
        have : s = [] := List.eq_nil_of_length_eq_zero hl
        subst this
        exact hq_cst rfl
      · obtain ⟨bx, ox, cx, tx, fx, e, kx, hsx, hxx⟩ := h3 h
        cases e
        intro w0 w hh
        have h4 := loadCells_known (P := P) (off := ox) hh kx n 0 #[] (by omega)
        simp only [Nat.add_zero, Array.empty_append] at h4
        rw [Nat.mul_one] at hxx
        rw [hxx] at h4
        have : flat n (byR s) = bcl s := by rw [← hl]; exact flat_byR' s
        rw [this] at h4
        exact h4
    refine hq_bind hload ?_
    have hloop : ∀ (r d : List Nat), s = d ++ r → hq P (forIn (bcl r) (strB d) (fun c (s : ByteArray) => match c with
        | .int .u8 n => (pure (ForInStep.yield (s.push (UInt8.ofNat n.toNat))) : Sem _)
        | _ => stuck "bytesToString: byte expected")) H M (strB s) := by
      intro r
      induction r with
      | nil => intro d e; rw [List.append_nil] at e; subst e; exact hq_pure
      | cons x r ih =>
        intro d e
        have := ih (d ++ [x]) (by rw [e]; simp)
        rw [strB_snoc] at this
        show hq P (forIn (.int .u8 (x : Int) :: bcl r) _ _) H M _
        rw [List.forIn_cons]
        exact hq_bind hq_pure this
    have h5 := hloop s [] rfl
    rw [List.forIn_toArray]
    refine hq_bind (a := strB s) ?_ hq_pure
    exact h5
end
section
variable {P : Program} {f : FuncId} {n : Nat} {R : Value → HP} {k : List It} {l : List (Nat × Value)} {As Bs Rs Zs : List HP}
class U8T (P : Program) (e : Nat) : Prop where
  h : cst P (underlying e) = some (.int .u8)
/-- bytes as a text -/
theorem lk_b2s {d : Nat} {oty : TypeId} {pos : String} {af : Array Edge} {g : Option (Nat × Bool)} {t t2 e m c : Nat} {x : Operand} {a : Option Addr} {s : List Nat} [sc : SC P t e] [sy : STY P t2] [u8 : U8T P e] (hr : SelR As 1 (.slice a m c) m (byR s)) (hl : s.length = m) (hx : ∀ j, ev (mk l j) x = .slice a m c := by intro j; rfl) :
    LookS P ⟨some d, .convert t t2 x, oty, pos, af, g⟩ l As (.string (strB s)) := .mk fun j H M q => by
  refine qt_exec (s := convert t t2 (ev (mk l j) x)) (by unfold execOp; rfl) ?_
  rw [hx j]
  unfold convert
  refine hq_bind (hq_cst sc.h) (hq_bind (hq_cst sy.h) ?_)
  dsimp only
  refine hq_bind (hq_cst u8.h) ?_
  exact hq_b2s (hr.rd q) hl
/-- a function that tells nothing comes to its end -/
theorem s_end {fn : Func} {Q : Value → List HP → Prop} {F : HP} (hf : P.funcs[f]? = some fn) (hq : Q (.tuple #[]) Bs) (he : Ent As (Bs ++ [F])) (hr : ∀ j, cst P (resE fn (mk l j)) = some (.tuple #[]) := by intro j; rfl) :
    RunS P f n (post Q F) [] l As := .mk fun _ _ s => run_end hf (fun j _ w _ => cst_run _ (hr j) w) ⟨Bs, hq, he.sat s⟩
end
theorem SlK.pure {K : Nat → Obj → Prop} {sz : Nat} {a : Option Addr} {n c : Nat} {row : Nat → List Value} (h : SlK K sz (.slice a n c) n row) : n ≤ c ∧ (a = none → n = 0) := by
  obtain ⟨b, cap, e, hc, _, h3⟩ := h
  cases e
  refine ⟨hc, fun ha => ?_⟩
  rcases Nat.eq_zero_or_pos n with h | h
  · exact h
  · obtain ⟨_, _, _, _, _, e, _⟩ := h3 h; rw [ha] at e; cases e
theorem rd_pure {A : HP} {sz : Nat} {a : Option Addr} {n c : Nat} {row : Nat → List Value} [r : Rd A sz (.slice a n c) n row] (H M : Heap) (h : A.p H M) : n ≤ c ∧ (a = none → n = 0) := (r.h H M h).pure
end Go.Cam
/- The address of an element, where only the slice itself is known to be there. -/
namespace Go.Cam
section
variable {P : Program} {l : List (Nat × Value)} {As Bs : List HP} {d : Nat} {oty : TypeId} {pos : String} {af : Array Edge} {g : Option (Nat × Bool)}
end
end Go.Cam
/- An empty slice is written out, as a step. -/
namespace Go.Cam
section
variable {P : Program} {l : List (Nat × Value)} {As : List HP} {dd : Option Nat} {oty : TypeId} {pos : String} {af : Array Edge} {g : Option (Nat × Bool)}
/-- a text that is written out, as bytes: its row is marked -/
theorem st_cvb {t e : TypeId} {b m c : Nat} {x : Operand} {cs : Array Value} {ty : TypeId} {As' : List HP} [sc : SC P t e] [u8 : U8T P e] (u : Upd (.own b (.cells cs ty (0, 0))) (.own b (.cells cs ty (cs.size, cs.size + 1))) As As')
    (hx : ∀ j, ev (mk l j) x = .slice (some ⟨b, 0, none⟩) m c := by intro j; rfl) :
    StepL P ⟨dd, .convert t t x, oty, pos, af, g⟩ l As (fun v Bs => v = .slice (some ⟨b, 0, none⟩) m c ∧ Bs = As') := .mk fun j Fs H M q => by
  obtain ⟨Cs, s1, s2⟩ := (u.app Fs).sels
  obtain ⟨hb, hq⟩ := own_write (o' := .cells cs ty (cs.size, cs.size + 1)) (s1.sat q)
  refine hmc_of_hm ?_
  show hm P (convert t t (ev (mk l j) x) >>= fun v => pure (Next.value v)) H M _
  rw [hx j]
  refine hm_bind (fun w0 w hh => ?_)
  have h1 := hh.m b _ hb
  have hsh : w.shape? b = some (ty, cs.size) := by unfold World.shape?; rw [h1]
  refine ⟨.slice (some ⟨b, 0, none⟩) m c, w.freeze ⟨b, cs.size, none⟩ 1, H, upd M b (.cells cs ty (cs.size, cs.size + 1)), ?_, ?_, hm_pure ⟨_, .inl rfl, _, ⟨rfl, rfl⟩, s2.back hq⟩⟩
  · simp [convert, cst_run _ sc.h w, cst_run _ u8.h w, markStringish, hsh]
  · have := hh.modify hb (fun o => match o with | .cells c elem (lo, hi) => .cells c elem (if lo == hi then (cs.size, cs.size + 1) else (min lo cs.size, max hi (cs.size + 1))) | o => o)
    exact this
end
end Go.Cam
/- What was handed in, of any depth: structs, arrays and slices, one in the other. -/
namespace Go.Cam
open Go.ChangeShapes Go.WideShapes Go.Deep
inductive Sh where
  | int (k : IntKind)
  | str
  | bool
  | emp
  | cat (a b : Sh)
  | slice (sz : Nat) (s : Sh)
def Sh.w : Sh → Nat
  | .emp => 0
  | .cat a b => a.w + b.w
  | _ => 1
def Sh.ok (H : Heap) : Sh → List Value → Prop
  | .int k, cs => ∃ n, cs = [.int k n] ∧ (Lit.int k n).wf = true
  | .str, cs => ∃ s : ByteArray, cs = [.string s] ∧ s.size ≤ maxLen
  | .bool, cs => ∃ b, cs = [.bool b]
  | .emp, cs => cs = []
  | .cat a b, cs => ∃ x y, cs = x ++ y ∧ a.ok H x ∧ b.ok H y
  | .slice sz s, cs => ∃ a len cap row, cs = [.slice a len cap] ∧ len ≤ cap ∧ cap ≤ maxLen ∧ (∀ M, (SA none sz (.slice a len cap) len row).p H M) ∧ ∀ i, i < len → s.ok H (row i)
def Sh.rep (s : Sh) : Nat → Sh
  | 0 => .emp
  | n + 1 => .cat s (s.rep n)
/-- a type's shape -/
def shF (P : Program) (rec : TypeId → Option Sh) : List Field → Nat → Option Sh
  | [], _ => some .emp
  | f :: r, off => if f.offset = off then (rec f.type).bind fun s => if s.w = P.cellsOf f.type then (shF P rec r (off + P.cellsOf f.type)).map fun s' => .cat s s' else none else none
def shT (P : Program) : Nat → TypeId → Option Sh
  | 0, _ => none
  | d + 1, t => match P.underlying t with
    | some (.int k) => some (.int k)
    | some .string => some .str
    | some .bool => some .bool
    | some (.struct fs) => (shF P (shT P d) fs.toList 0).bind fun s => if s.w = P.cellsOf t then some s else none
    | some (.array n e) => (shT P d e).bind fun s => if s.w = P.cellsOf e ∧ n * s.w = P.cellsOf t then some (s.rep n) else none
    | some (.slice e) => (shT P d e).bind fun s => if s.w = P.cellsOf e ∧ 0 < s.w then some (.slice s.w s) else none
    | _ => none
section
variable {H : Type} {enc : TypeId × Value → H} {P : Program} {w : World} {base : Nat} {held : Bool}
theorem sl_sa {a : Addr} {len cap sz : Nat} {ch : Nat → List Value} (h0 : 0 < sz) (hc : len ≤ cap) (hi : ∀ i, i < len → w.cells? base (a.add (i * sz)) sz = some (ch i)) : ∀ M, (SA none sz (.slice (some a) len cap) len ch).p (fun b => w.heap[b]?) M := fun M => by
  have hlen : ∀ i, i < len → (ch i).length = sz := fun i hi2 => (World.cells?_some (hi i hi2)).2.1
  refine ⟨some a, cap, rfl, hc, hlen, fun hn => ?_⟩
  obtain ⟨b, off, spot⟩ := a
  have hfirst := (World.cells?_some (hi 0 hn)).2.2 0 h0
  rw [List.getElem?_eq_getElem (by rw [hlen 0 hn]; exact h0)] at hfirst
  have hspot : spot = none := by
    have := World.cell?_spot hfirst
    simpa [Addr.add] using this
  subst hspot
  have hcell : ∀ i, i < len → ∀ q, q < sz → w.cell? ⟨b, off + i * sz + q, none⟩ = (ch i)[q]? := fun i hi2 q hq => by
    have := (World.cells?_some (hi i hi2)).2.2 q hq
    rwa [addr_add, addr_add] at this
  have hf0 := hcell 0 hn 0 h0
  rw [List.getElem?_eq_getElem (by rw [hlen 0 hn]; exact h0)] at hf0
  obtain ⟨c, ty, fr, hb, _⟩ := cell_in hf0
  have hall : ∀ i, i < len → ∀ q, q < sz → c[off + i * sz + q]? = (ch i)[q]? := fun i hi2 q hq => by
    have h3 := hcell i hi2 q hq
    have hl := hlen i hi2
    rw [List.getElem?_eq_getElem (by omega)] at h3 ⊢
    obtain ⟨c', ty', fr', hb', hc'⟩ := cell_in h3
    rw [hb] at hb'; cases hb'; exact hc'
  have hsize : ∀ i, i < len → off + i * sz + sz ≤ c.size := fun i hi2 => by
    have := hall i hi2 (sz - 1) (by omega)
    have hl := hlen i hi2
    rw [List.getElem?_eq_getElem (by omega)] at this
    have := (Array.getElem?_eq_some_iff.1 this).1
    omega
  refine ⟨b, off, c, ty, fr, rfl, hb, ?_, extract_rows fun i hi2 => ⟨?_, hsize i hi2⟩⟩
  · obtain ⟨k, rfl⟩ : ∃ k, len = k + 1 := ⟨len - 1, by omega⟩
    have := hsize k (by omega)
    rw [Nat.add_mul, Nat.one_mul]; omega
  · apply Array.ext'
    apply List.ext_getElem?
    intro q
    rw [Array.toList_extract, List.extract_eq_take_drop, List.getElem?_take]
    by_cases hq : q < sz
    · rw [if_pos (by omega), List.getElem?_drop]
      have := hall i hi2 q hq
      simpa using this
    · rw [if_neg (by omega)]
      exact (List.getElem?_eq_none (by rw [hlen i hi2]; omega)).symm
end
/-- assertions that need no block of their own, of a world where all is held -/
theorem sat_per1 {A : HP} {H : Heap} (h : ∀ M, A.p H M) {Bs : List HP} {M : Heap} (q : (Sat Bs).p H M) : (Sat (A :: Bs)).p H M := ⟨fun _ => none, M, (fun _ _ h => nomatch h), Le.refl _, fun _ => .inl rfl, h _, q⟩
/-- a row out of what is known of each of its elements -/
theorem list_choose {α : Type} [Inhabited α] {φ : Nat → α → Prop} : ∀ (n : Nat), (∀ i, i < n → ∃ x, φ i x) → ∃ l : List α, l.length = n ∧ ∀ i, i < n → φ i (l.getD i default)
  | 0, _ => ⟨[], rfl, fun i h => absurd h (Nat.not_lt_zero _)⟩
  | n + 1, h => by
    obtain ⟨l, h1, h2⟩ := list_choose n fun i hi => h i (by omega)
    obtain ⟨x, hx⟩ := h n (by omega)
    refine ⟨l ++ [x], by simp [h1], fun i hi => ?_⟩
    by_cases e : i < n
    · rw [List.getD_eq_getElem?_getD, List.getElem?_append_left (by omega), ← List.getD_eq_getElem?_getD]; exact h2 i e
    · have : i = n := by omega
      subst this
      rw [List.getD_eq_getElem?_getD, List.getElem?_append_right (by omega), h1]; simpa using hx
theorem wf_i64 {n : Int} (h : (Lit.int .i64 n).wf = true) : -9223372036854775808 ≤ n ∧ n ≤ 9223372036854775807 := by
  simp [Lit.wf, IntKind.min, IntKind.max, IntKind.signed, IntKind.bits] at h; omega
theorem wf_u8 {n : Int} (h : (Lit.int .u8 n).wf = true) : 0 ≤ n ∧ n < 256 := by
  simp [Lit.wf, IntKind.min, IntKind.max, IntKind.signed, IntKind.bits] at h; omega
/-- bytes -/
theorem Sh.bytes {H : Heap} {cs : List Value} (h : (Sh.slice 1 (.int .u8)).ok H cs) : ∃ a cap l, cs = [.slice a (List.length l) cap] ∧ (∀ c ∈ l, c < 256) ∧ l.length < 9223372036854775808 ∧ ∀ M, (SA none 1 (.slice a l.length cap) l.length (fun i => [.int .u8 ((l.getD i 0 : Nat) : Int)])).p H M := by
  obtain ⟨a, len, cap, row, rfl, h1, h2, h3, h4⟩ := h
  obtain ⟨l, rfl, hl⟩ := list_choose (α := Nat) (φ := fun i b => row i = [.int .u8 (b : Int)] ∧ b < 256) len fun i hi => by
    obtain ⟨n, h5, h6⟩ := h4 i hi
    have := wf_u8 h6
    exact ⟨n.toNat, by rw [h5, Int.toNat_of_nonneg this.1], by omega⟩
  have hm : maxLen = 9223372036854775807 := rfl
  refine ⟨a, cap, l, rfl, fun c hc => ?_, by omega, fun M => SA.cg _ (fun i hi => (hl i hi).1) H M (h3 M)⟩
  obtain ⟨i, hi, e⟩ := List.mem_iff_getElem.1 hc
  have := (hl i hi).2
  rw [List.getD_eq_getElem?_getD, List.getElem?_eq_getElem hi, Option.getD_some, e] at this
  exact this
end Go.Cam
/- How much a map has that has nothing. -/
namespace Go.Cam
section
variable {P : Program} {l : List (Nat × Value)} {As Bs : List HP} {d : Nat} {oty : TypeId} {pos : String} {af : Array Edge} {g : Option (Nat × Bool)}
end
end Go.Cam
