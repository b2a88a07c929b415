/- Maps by whole numbers, over assertions. -/
import Derived.Test.YtgbbcpfnmkeijaaGreatCamAD
namespace Go.Cam
section
variable {P : Program} {H M : Heap}
def hq {α : Type} (P : Program) (e : Sem α) (H M : Heap) (a : α) : Prop := ∀ w0 w, Has w0 w H M → e.run P w = .ok a w
theorem hq_bind {α β : Type} {e : Sem α} {f : α → Sem β} {a : α} {b : β} (h : hq P e H M a) (h2 : hq P (f a) H M b) : hq P (e >>= f) H M b := fun w0 w hh => by
  rw [hm_run_bind _ _ _ (h w0 w hh)]; exact h2 w0 w hh
theorem hq_pure {α : Type} {a : α} : hq P (pure a) H M a := fun _ _ _ => rfl
theorem hq_cst {α : Type} {e : Sem α} {a : α} (h : cst P e = some a) : hq P e H M a := fun _ w _ => cst_run e h w
def noCells : Obj → Bool
  | .cells .. => false
  | _ => true
theorem hq_get {r : Nat} {o : Obj} (hb : Kn H M r o) (hn : noCells o = true := by rfl) : hq P (getObj r) H M o := by
  intro w0 w hh
  show (Sem.getObj r Sem.pure).run P w = _
  simp only [Sem.run]
  rw [hh.look hb]
  cases o <;> first | rfl | cases hn
theorem hm_hq {α : Type} {e : Sem α} {a : α} {K : α → Heap → Heap → Prop} (hc : hq P e H M a) (h : K a H M) : hm P e H M K := fun w0 w hw => ⟨a, w, H, M, hc w0 w hw, hw, h⟩
theorem hm_setO {r : Nat} {o : Obj} (o2 : Obj) {K : Unit → Heap → Heap → Prop} (hb : M r = some o) (h : K () H (upd M r o2)) (hn : noCells o = true := by rfl) (hn2 : noCells o2 = true := by rfl) : hm P (setObj r o2) H M K := by
  intro w0 w hh
  refine ⟨(), _, H, _, ?_, hh.set hb o2, h⟩
  show (Sem.setObj r o2 (Sem.pure ())).run P w = _
  simp only [Sem.run]
  rw [hh.look (.inl hb)]
  cases o <;> cases o2 <;> first | rfl | cases hn | cases hn2
theorem hm_newO {o : Obj} {K : Nat → Heap → Heap → Prop} (h : ∀ r, Fresh H M r → K r H (upd M r o)) : hm P (newObj o) H M K := by
  intro w0 w hh
  exact ⟨w.heap.size, _, H, _, rfl, hh.push _, h _ hh.fresh⟩
end
/-- entries of a map by whole numbers -/
structure WFM (es : List MapEntry) (ck : Nat) (g : Int → Option Value) : Prop where
  key : ∀ e ∈ es, ∃ k, e.key = .int .i64 k ∧ g k = some e.val
  all : ∀ k v, g k = some v → ∃ e ∈ es, e.key = .int .i64 k
  kd : es.Pairwise (fun a b => a.key ≠ b.key)
  bd : es.Pairwise (fun a b => a.born ≠ b.born)
  bl : ∀ e ∈ es, e.born < ck
theorem find_none (k : Int) : ∀ (es : List MapEntry) (i : Nat), (∀ e ∈ es, ∃ k2, e.key = .int .i64 k2 ∧ k2 ≠ k) → Instr.findNow (.int .i64) (.int .i64 k) es i = some none
  | [], _, _ => rfl
  | e :: es, i, h => by
    obtain ⟨k2, h1, h2⟩ := h e (List.mem_cons_self ..)
    have hb : (k == k2) = false := by simpa using fun e => h2 e.symm
    unfold Instr.findNow
    rw [h1]
    simp only [Instr.sameNow, if_true, hb]
    exact find_none k es (i + 1) fun e he => h e (List.mem_cons_of_mem _ he)
theorem find_some (k : Int) (v : Value) : ∀ (es : List MapEntry) (i : Nat), (∀ e ∈ es, ∃ k2, e.key = .int .i64 k2 ∧ (k2 = k → e.val = v)) → (∃ e ∈ es, e.key = .int .i64 k) →
    ∃ j e, es[j]? = some e ∧ e.key = .int .i64 k ∧ Instr.findNow (.int .i64) (.int .i64 k) es i = some (some (i + j, v))
  | [], _, _, ⟨e, he, _⟩ => nomatch he
  | e :: es, i, h, hx => by
    obtain ⟨k2, h1, h2⟩ := h e (List.mem_cons_self ..)
    by_cases hk : k2 = k
    · subst hk
      refine ⟨0, e, rfl, h1, ?_⟩
      unfold Instr.findNow
      rw [h1]
      simp [Instr.sameNow, h2 rfl]
    · have hb : (k == k2) = false := by simpa using fun e => hk e.symm
      obtain ⟨j, e', h3, h4, h5⟩ := find_some k v es (i + 1) (fun e he => h e (List.mem_cons_of_mem _ he)) (by
        obtain ⟨e2, he2, hk2⟩ := hx
        rcases List.mem_cons.1 he2 with rfl | hm
        · rw [h1] at hk2; cases hk2; exact absurd rfl hk
        · exact ⟨e2, hm, hk2⟩)
      refine ⟨j + 1, e', by simpa using h3, h4, ?_⟩
      unfold Instr.findNow
      rw [h1]
      simp only [Instr.sameNow, if_true, hb]
      rw [h5, show i + 1 + j = i + (j + 1) by omega]
theorem WFM.no {es ck g} (h : WFM es ck g) {k : Int} (hk : g k = none) (i : Nat) : Instr.findNow (.int .i64) (.int .i64 k) es i = some none :=
  find_none k es i fun e he => by obtain ⟨k2, h1, h2⟩ := h.key e he; exact ⟨k2, h1, fun e => by subst e; rw [hk] at h2; cases h2⟩
theorem WFM.yes {es ck g} (h : WFM es ck g) {k : Int} {v : Value} (hk : g k = some v) (i : Nat) : ∃ j e, es[j]? = some e ∧ e.key = .int .i64 k ∧ Instr.findNow (.int .i64) (.int .i64 k) es i = some (some (i + j, v)) :=
  find_some k v es i (fun e he => by obtain ⟨k2, h1, h2⟩ := h.key e he; exact ⟨k2, h1, fun e => by subst e; rw [hk] at h2; cases h2; rfl⟩) (h.all _ _ hk)
class MTY (P : Program) (t : Nat) (elem : outParam Nat) : Prop where
  h : ∃ key, cst P (underlying t) = some (.map key elem) ∧ cst P (underlying key) = some (.int .i64)
/-- a map of one's own: what it has -/
def MG (r : Nat) (g : Int → Option Value) : HP := ⟨fun _ M => ∃ es ck, M r = some (.map es ck) ∧ WFM es.toList ck g, fun _ h2 ⟨es, ck, h3, h4⟩ => ⟨es, ck, h2 _ _ h3, h4⟩⟩
theorem cst_checkKey {P : Program} {key : Nat} {b : Bool} {k : Int} {n : Nat} (hk : cst P (underlying key) = some (.int .i64)) : cst P (Instr.checkKey b (n + 1) key (.int .i64 k)) = some () := by
  unfold Instr.checkKey
  rw [cst_bind hk]; rfl
theorem cst_findKey {P : Program} {key : Nat} {k : Int} {es : List MapEntry} {o : Option (Nat × Value)} (hk : cst P (underlying key) = some (.int .i64)) (ho : Instr.findNow (.int .i64) (.int .i64 k) es 0 = some o) : cst P (Instr.findKey key (.int .i64 k) es) = some o := by
  unfold Instr.findKey
  rw [cst_bind hk, ho]; rfl
section
variable {P : Program} {f : FuncId} {n : Nat} {R : Value → HP} {k : List It} {l : List (Nat × Value)} {As Bs : List HP} {all : Array Oper} {rest : List Oper} {d : Nat} {dd : Option Nat} {oty : TypeId} {pos : String} {af : Array Edge} {g : Option (Nat × Bool)}
theorem hq_lkp {H M : Heap} {t elem r : Nat} {es : Array MapEntry} {ck : Nat} {gm : Int → Option Value} {z : Value} {kk : Int} {b : Bool} [mt : MTY P t elem] [zv : ZV P elem z] (hr : Kn H M r (.map es ck)) (hw : WFM es.toList ck gm) :
    hq P (Instr.lookup t (.map (some r)) (.int .i64 kk) b) H M (if b then .tuple #[(gm kk).getD z, .bool (gm kk).isSome] else (gm kk).getD z) := by
  obtain ⟨key, hu, hk⟩ := mt.h
  unfold Instr.lookup
  refine hq_bind (hq_cst hu) ?_
  dsimp only
  refine hq_bind (hq_get hr) ?_
  dsimp only
  refine hq_bind hq_pure ?_
  refine hq_bind (hq_cst (cst_checkKey hk)) ?_
  cases hg : gm kk with
  | none =>
    refine hq_bind (hq_cst (cst_findKey hk (hw.no hg 0))) ?_
    dsimp only
    refine hq_bind (hq_cst zv.h) ?_
    refine hq_bind hq_pure ?_
    cases b <;> exact hq_pure
  | some v =>
    obtain ⟨j, e', _, _, h3⟩ := hw.yes hg 0
    refine hq_bind (hq_cst (cst_findKey hk h3)) ?_
    dsimp only
    refine hq_bind hq_pure ?_
    cases b <;> exact hq_pure
/-- a map is asked -/
theorem lk_lkp {t elem r : Nat} {x y : Operand} {gm : Int → Option Value} {z : Value} {kk : Int} {b : Bool} [mt : MTY P t elem] [zv : ZV P elem z]
    (s : Sel (MG r gm) As Bs := by repeat (first | with_reducible exact Sel.here | with_reducible apply Sel.there)) (hx : ∀ j, ev (mk l j) x = .map (some r) := by intro j; rfl) (hy : ∀ j, ev (mk l j) y = .int .i64 kk := by intro j; rfl) :
    LookS P ⟨some d, .lookup t x y b, oty, pos, af, g⟩ l As (if b then .tuple #[(gm kk).getD z, .bool (gm kk).isSome] else (gm kk).getD z) := .mk fun j H M q => by
  obtain ⟨es, ck, h1, h2⟩ := s.hold q
  refine qt_exec (s := Instr.lookup t (ev (mk l j) x) (ev (mk l j) y) b) (by unfold execOp; rfl) ?_
  rw [hx j, hy j]
  exact hq_lkp (.inl h1) h2
theorem lk_lks {t elem r : Nat} {x y : Operand} {gm : Int → Option Value} {z v : Value} {kk : Int} [mt : MTY P t elem] [zv : ZV P elem z] (hg : gm kk = some v)
    (s : Sel (MG r gm) As Bs := by repeat (first | with_reducible exact Sel.here | with_reducible apply Sel.there)) (hx : ∀ j, ev (mk l j) x = .map (some r) := by intro j; rfl) (hy : ∀ j, ev (mk l j) y = .int .i64 kk := by intro j; rfl) :
    LookS P ⟨some d, .lookup t x y false, oty, pos, af, g⟩ l As v := by
  have := lk_lkp (d := d) (oty := oty) (pos := pos) (af := af) (g := g) (b := false) (mt := mt) (zv := zv) s hx hy
  simpa [hg] using this
theorem lk_lkn {t elem r : Nat} {x y : Operand} {gm : Int → Option Value} {z : Value} {kk : Int} [mt : MTY P t elem] [zv : ZV P elem z] (hg : gm kk = none)
    (s : Sel (MG r gm) As Bs := by repeat (first | with_reducible exact Sel.here | with_reducible apply Sel.there)) (hx : ∀ j, ev (mk l j) x = .map (some r) := by intro j; rfl) (hy : ∀ j, ev (mk l j) y = .int .i64 kk := by intro j; rfl) :
    LookS P ⟨some d, .lookup t x y false, oty, pos, af, g⟩ l As z := by
  have := lk_lkp (d := d) (oty := oty) (pos := pos) (af := af) (g := g) (b := false) (mt := mt) (zv := zv) s hx hy
  simpa [hg] using this
theorem lk_lks2 {t elem r : Nat} {x y : Operand} {gm : Int → Option Value} {z v : Value} {kk : Int} [mt : MTY P t elem] [zv : ZV P elem z] (hg : gm kk = some v)
    (s : Sel (MG r gm) As Bs := by repeat (first | with_reducible exact Sel.here | with_reducible apply Sel.there)) (hx : ∀ j, ev (mk l j) x = .map (some r) := by intro j; rfl) (hy : ∀ j, ev (mk l j) y = .int .i64 kk := by intro j; rfl) :
    LookS P ⟨some d, .lookup t x y true, oty, pos, af, g⟩ l As (.tuple #[v, .bool true]) := by
  have := lk_lkp (d := d) (oty := oty) (pos := pos) (af := af) (g := g) (b := true) (mt := mt) (zv := zv) s hx hy
  simpa [hg] using this
theorem lk_lkn2 {t elem r : Nat} {x y : Operand} {gm : Int → Option Value} {z : Value} {kk : Int} [mt : MTY P t elem] [zv : ZV P elem z] (hg : gm kk = none)
    (s : Sel (MG r gm) As Bs := by repeat (first | with_reducible exact Sel.here | with_reducible apply Sel.there)) (hx : ∀ j, ev (mk l j) x = .map (some r) := by intro j; rfl) (hy : ∀ j, ev (mk l j) y = .int .i64 kk := by intro j; rfl) :
    LookS P ⟨some d, .lookup t x y true, oty, pos, af, g⟩ l As (.tuple #[z, .bool false]) := by
  have := lk_lkp (d := d) (oty := oty) (pos := pos) (af := af) (g := g) (b := true) (mt := mt) (zv := zv) s hx hy
  simpa [hg] using this
def mset (gm : Int → Option Value) (k : Int) (v : Option Value) : Int → Option Value := fun q => if q = k then v else gm q
theorem WFM.push {es : List MapEntry} {ck : Nat} {gm : Int → Option Value} (h : WFM es ck gm) {k : Int} (v : Value) (hk : gm k = none) : WFM (es ++ [⟨.int .i64 k, v, ck⟩]) (ck + 1) (mset gm k (some v)) where
  key e he := by
    rcases List.mem_append.1 he with he | he
    · obtain ⟨k2, h1, h2⟩ := h.key e he
      exact ⟨k2, h1, by unfold mset; rw [if_neg fun e => by subst e; rw [hk] at h2; cases h2]; exact h2⟩
    · rw [List.mem_singleton] at he; subst he; exact ⟨k, rfl, by simp [mset]⟩
  all k2 v2 h2 := by
    unfold mset at h2
    split at h2
    · rename_i e; subst e; exact ⟨_, List.mem_append_right _ (List.mem_singleton.2 rfl), rfl⟩
    · obtain ⟨e, he, hk2⟩ := h.all _ _ h2; exact ⟨e, List.mem_append_left _ he, hk2⟩
  kd := by
    refine List.pairwise_append.2 ⟨h.kd, List.pairwise_singleton .., fun a ha b hb => ?_⟩
    rw [List.mem_singleton] at hb; subst hb
    obtain ⟨k2, h1, h2⟩ := h.key a ha
    rw [h1]; intro e; cases e; rw [hk] at h2; cases h2
  bd := by
    refine List.pairwise_append.2 ⟨h.bd, List.pairwise_singleton .., fun a ha b hb => ?_⟩
    rw [List.mem_singleton] at hb; subst hb
    have := h.bl a ha
    show a.born ≠ ck; omega
  bl e he := by
    rcases List.mem_append.1 he with he | he
    · have := h.bl e he; omega
    · rw [List.mem_singleton] at he; subst he; exact Nat.lt_succ_self _
theorem modify_set {es : List MapEntry} {j : Nat} {e : MapEntry} (h : es[j]? = some e) (f : MapEntry → MapEntry) : es.modify j f = es.set j (f e) := by
  apply List.ext_getElem?
  intro i
  rw [List.getElem?_modify, List.getElem?_set]
  by_cases hj : j = i
  · subst hj; rw [h]; have : j < es.length := by rcases Nat.lt_or_ge j es.length with h1 | h1; exact h1; rw [List.getElem?_eq_none h1] at h; cases h
    simp [this]
  · simp [hj]
theorem pw_set {r : MapEntry → MapEntry → Prop} (hr : ∀ a a' b, r a b → a'.key = a.key → a'.born = a.born → r a' b) (hr2 : ∀ a b b', r a b → b'.key = b.key → b'.born = b.born → r a b') {e' e : MapEntry} (h1 : e'.key = e.key) (h2 : e'.born = e.born) :
    ∀ {es : List MapEntry} {j : Nat}, es[j]? = some e → es.Pairwise r → (es.set j e').Pairwise r
  | [], _, h, _ => by simp at h
  | a :: es, 0, h, hp => by
    simp at h; subst h
    rw [List.set_cons_zero]
    rw [List.pairwise_cons] at hp ⊢
    exact ⟨fun b hb => hr _ _ _ (hp.1 b hb) h1 h2, hp.2⟩
  | a :: es, j + 1, h, hp => by
    rw [List.getElem?_cons_succ] at h
    rw [List.set_cons_succ]
    rw [List.pairwise_cons] at hp ⊢
    refine ⟨fun b hb => ?_, pw_set hr hr2 h1 h2 h hp.2⟩
    rcases List.mem_or_eq_of_mem_set hb with hb | rfl
    · exact hp.1 b hb
    · exact hr2 _ _ _ (hp.1 e (List.mem_of_getElem? h)) h1 h2
theorem WFM.put {es : List MapEntry} {ck : Nat} {gm : Int → Option Value} (h : WFM es ck gm) {k : Int} (v : Value) {j : Nat} {e : MapEntry} (hj : es[j]? = some e) (hk : e.key = .int .i64 k) : WFM (es.set j { e with key := .int .i64 k, val := v }) ck (mset gm k (some v)) where
  key x hx := by
    rcases List.mem_or_eq_of_mem_set hx with hx2 | rfl
    · obtain ⟨k2, h1, h2⟩ := h.key x hx2
      refine ⟨k2, h1, ?_⟩
      unfold mset
      split
      · rename_i e2; subst e2
        obtain ⟨i, hi⟩ := List.getElem?_of_mem hx
        rw [List.getElem?_set] at hi
        have hlt : j < es.length := by rcases Nat.lt_or_ge j es.length with h1 | h1; exact h1; rw [List.getElem?_eq_none h1] at hj; cases hj
        by_cases e3 : j = i
        · subst e3; rw [if_pos rfl, if_pos hlt] at hi; cases hi; rfl
        · have hne := e3
          rw [if_neg e3] at hi
          exfalso
          have hxe : x.key = e.key := by rw [h1, hk]
          have hp := h.kd
          rw [List.pairwise_iff_getElem] at hp
          have hil : i < es.length := by rcases Nat.lt_or_ge i es.length with h1 | h1; exact h1; rw [List.getElem?_eq_none h1] at hi; cases hi
          have e1 : es[j] = e := by rw [List.getElem?_eq_getElem hlt] at hj; exact Option.some.inj hj
          have e4 : es[i] = x := by rw [List.getElem?_eq_getElem hil] at hi; exact Option.some.inj hi
          rcases Nat.lt_or_gt_of_ne hne with hl | hl
          · exact hp j i hlt hil hl (by rw [e1, e4, hxe])
          · exact hp i j hil hlt hl (by rw [e1, e4, hxe])
      · exact h2
    · exact ⟨k, rfl, by simp [mset]⟩
  all k2 v2 h2 := by
    have hlt : j < es.length := by rcases Nat.lt_or_ge j es.length with h1 | h1; exact h1; rw [List.getElem?_eq_none h1] at hj; cases hj
    unfold mset at h2
    split at h2
    · rename_i e2; subst e2; exact ⟨_, List.mem_set hlt _, rfl⟩
    · rename_i hne
      obtain ⟨x, hx, hk2⟩ := h.all _ _ h2
      obtain ⟨i, hi⟩ := List.getElem?_of_mem hx
      refine ⟨x, List.mem_of_getElem? (i := i) ?_, hk2⟩
      rw [List.getElem?_set, if_neg]
      · exact hi
      · intro e2; subst e2; rw [hj] at hi; cases hi; rw [hk] at hk2; cases hk2; exact hne rfl
  kd := pw_set (e := e) (e' := { e with key := .int .i64 k, val := v }) (fun a a' b h h1 _ => by rw [h1]; exact h) (fun a b b' h h1 _ => by rw [h1]; exact h) hk.symm rfl hj h.kd
  bd := pw_set (e := e) (e' := { e with key := .int .i64 k, val := v }) (fun a a' b h _ h1 => by rw [h1]; exact h) (fun a b b' h _ h1 => by rw [h1]; exact h) hk.symm rfl hj h.bd
  bl x hx := by
    rcases List.mem_or_eq_of_mem_set hx with hx | rfl
    · exact h.bl x hx
    · exact h.bl e (List.mem_of_getElem? hj)
theorem MG_write {r : Nat} {gm gm' : Int → Option Value} {es es' : Array MapEntry} {ck ck' : Nat} {X : HP} {H M : Heap} (h : ((MG r gm).star X).p H M) (hM : M r = some (.map es ck)) (hw : WFM es'.toList ck' gm') : ((MG r gm').star X).p H (upd M r (.map es' ck')) := by
  obtain ⟨M1, M2, a1, a2, dj, ⟨e1, c1, h1, h2⟩, hB⟩ := h
  have h3 : ((HP.own r (.map es ck)).star X).p H M := by
    have := a1 _ _ h1
    rw [hM] at this; cases this
    exact ⟨M1, M2, a1, a2, dj, h1, hB⟩
  obtain ⟨_, h4⟩ := own_write (o' := .map es' ck') h3
  exact star_monoL (C := MG r gm') (fun H M h => ⟨es', ck', h, hw⟩) h4
theorem hm_mu {H M : Heap} {t elem r : Nat} {kk : Int} {v : Value} {gm : Int → Option Value} {X : HP} {K : Unit → Heap → Heap → Prop} [mt : MTY P t elem] (h : ((MG r gm).star X).p H M) (hk : ∀ M', ((MG r (mset gm kk (some v))).star X).p H M' → K () H M') :
    hm P (Instr.mapUpdate t (.map (some r)) (.int .i64 kk) v) H M K := by
  obtain ⟨key, hu, hky⟩ := mt.h
  obtain ⟨es, ck, hM, hw⟩ := star_fst h
  unfold Instr.mapUpdate
  refine hm_bind (hm_cst hu ?_)
  dsimp only
  refine hm_bind (hm_hq (hq_get (.inl hM)) ?_)
  dsimp only
  refine hm_bind (hm_cst (cst_checkKey hky) ?_)
  cases hg : gm kk with
  | none =>
    refine hm_bind (hm_cst (cst_findKey hky (hw.no hg 0)) ?_)
    refine hm_setO (.map (es.push { key := .int .i64 kk, val := v, born := ck }) (ck + 1)) hM (hk _ ?_)
    exact MG_write h hM (by rw [Array.toList_push]; exact hw.push v hg)
  | some u =>
    obtain ⟨j, e, hj, hek, h3⟩ := hw.yes hg 0
    refine hm_bind (hm_cst (cst_findKey hky h3) ?_)
    rw [Nat.zero_add]
    dsimp only
    have hj2 : es[j]? = some e := by rw [← hj]; simp
    rw [hj2]
    have hst : cst P (Instr.keyThatStays (((some e).map (·.key)).getD (.int .i64 kk)) (.int .i64 kk)) = some (.int .i64 kk) := by
      show cst P (Instr.keyThatStays e.key (.int .i64 kk)) = _
      rw [hek]; unfold Instr.keyThatStays; simp [Instr.sameBits]; rfl
    refine hm_bind (hm_cst hst ?_)
    refine hm_setO _ hM (hk _ ?_)
    refine MG_write h hM ?_
    rw [Array.toList_modify, modify_set hj]
    exact hw.put v hj hek
/-- a map is written -/
theorem st_mu {t elem r : Nat} {x y z : Operand} {gm : Int → Option Value} {kk : Int} {v : Value} [mt : MTY P t elem]
    (s : Sel (MG r gm) As Bs) (hx : ∀ j, ev (mk l j) x = .map (some r) := by intro j; rfl) (hy : ∀ j, ev (mk l j) y = .int .i64 kk := by intro j; rfl) (hz : ∀ j, ev (mk l j) z = v := by intro j; rfl) :
    StepL P ⟨dd, .mapUpdate t x y z, oty, pos, af, g⟩ l As (fun _ Cs => Cs = MG r (mset gm kk (some v)) :: Bs) := .mk fun j Fs H M q => by
  refine hmc_of_hm ?_
  show hm P (Instr.mapUpdate t (ev (mk l j) x) (ev (mk l j) y) (ev (mk l j) z) >>= fun _ => pure Next.skip) H M _
  rw [hx j, hy j, hz j]
  exact hm_bind (hm_mu ((s.app Fs).sat q) fun M' h => hm_pure ⟨undef, .inr ⟨rfl, rfl⟩, _, rfl, h⟩)
theorem st_mkm {t : TypeId} :
    StepL P ⟨dd, .makeMap t none, oty, pos, af, g⟩ l As (fun v Cs => ∃ r, v = .map (some r) ∧ Cs = MG r (fun _ => none) :: As) := .mk fun j Fs H M q => by
  refine hmc_of_hm ?_
  show hm P (Instr.makeMap t none >>= fun v => pure (Next.value v)) H M _
  unfold Instr.makeMap
  refine hm_bind (hm_bind (hm_newO fun r hr => hm_pure (hm_pure ⟨_, .inl rfl, _, ⟨r, rfl, rfl⟩, ?_⟩)))
  refine star_monoL (C := MG r fun _ => none) (fun H M h => ?_) (own_new hr q)
  exact ⟨#[], 0, h, { key := fun e he => (nomatch he), all := fun k v h => (nomatch h), kd := .nil, bd := .nil, bl := fun e he => (nomatch he) }⟩
end
end Go.Cam
/- Maps, gone through; over assertions. -/
namespace Go.Cam
theorem len_le_of_sub : ∀ {xs es : List MapEntry}, xs.Pairwise (fun a b => a.born ≠ b.born) → (∀ x ∈ xs, x ∈ es) → xs.length ≤ es.length
  | [], _, _, _ => Nat.zero_le _
  | x :: xs, es, hp, hs => by
    rw [List.pairwise_cons] at hp
    obtain ⟨a, b, rfl⟩ := List.append_of_mem (hs x (List.mem_cons_self ..))
    have := len_le_of_sub (xs := xs) (es := a ++ b) hp.2 fun y hy => by
      have h1 := hs y (List.mem_cons_of_mem _ hy)
      rcases List.mem_append.1 h1 with h | h
      · exact List.mem_append_left _ h
      · rcases List.mem_cons.1 h with rfl | h
        · exact absurd rfl (hp.1 y hy)
        · exact List.mem_append_right _ h
    simp only [List.length_append, List.length_cons] at this ⊢; omega
/-- a map that is being gone through: S are the keys that were told, the last one first; n how many are left -/
def MIt (ri rm : Nat) (g : Int → Option Value) (S : List Int) (n : Nat) : HP :=
  ⟨fun _ M => ∃ es ck seen, ∃ xs : List MapEntry, M rm = some (.map es ck) ∧ M ri = some (.mapIter (some rm) ck seen ck) ∧ ri ≠ rm ∧ WFM es.toList ck g ∧ (∀ x ∈ xs, x ∈ es.toList) ∧ xs.Pairwise (fun (a b : MapEntry) => a.born ≠ b.born) ∧ xs.map (·.key) = S.map (Value.int .i64) ∧ seen.toList = (xs.map (·.born)).reverse ∧ n + xs.length = es.toList.length,
   fun _ h2 ⟨es, ck, seen, xs, h3, h4, r⟩ => ⟨es, ck, seen, xs, h2 _ _ h3, h2 _ _ h4, r⟩⟩
theorem MIt.out {ri rm : Nat} {g : Int → Option Value} {S : List Int} {n : Nat} (H M : Heap) (h : (MIt ri rm g S n).p H M) : (MG rm g).p H M := by
  obtain ⟨es, ck, _, _, h1, _, _, h2, _⟩ := h; exact ⟨es, ck, h1, h2⟩
theorem born_inj {es : List MapEntry} (h : es.Pairwise (fun a b => a.born ≠ b.born)) {a b : MapEntry} (ha : a ∈ es) (hb : b ∈ es) (e : a.born = b.born) : a = b := by
  induction es with
  | nil => cases ha
  | cons x es ih =>
    rw [List.pairwise_cons] at h
    rcases List.mem_cons.1 ha with ha' | ha' <;> rcases List.mem_cons.1 hb with hb' | hb'
    · rw [ha', hb']
    · subst ha'; exact absurd e (h.1 b hb')
    · subst hb'; exact absurd e.symm (h.1 a ha')
    · exact ih h.2 ha' hb'
theorem key_inj {es : List MapEntry} (h : es.Pairwise (fun a b => a.key ≠ b.key)) {a b : MapEntry} (ha : a ∈ es) (hb : b ∈ es) (e : a.key = b.key) : a = b := by
  induction es with
  | nil => cases ha
  | cons x es ih =>
    rw [List.pairwise_cons] at h
    rcases List.mem_cons.1 ha with ha' | ha' <;> rcases List.mem_cons.1 hb with hb' | hb'
    · rw [ha', hb']
    · subst ha'; exact absurd e (h.1 b hb')
    · subst hb'; exact absurd e.symm (h.1 a ha')
    · exact ih h.2 ha' hb'
section
variable {P : Program} {f : FuncId} {n : Nat} {R : Value → HP} {k : List It} {l : List (Nat × Value)} {As Bs : List HP} {all : Array Oper} {rest : List Oper} {d : Nat} {dd : Option Nat} {oty : TypeId} {pos : String} {af : Array Edge} {g : Option (Nat × Bool)}
theorem st_rng {t elem r : Nat} {x : Operand} {gm : Int → Option Value} [mt : MTY P t elem] (s : Sel (MG r gm) As Bs) (hx : ∀ j, ev (mk l j) x = .map (some r) := by intro j; rfl) :
    StepL P ⟨dd, .range t x, oty, pos, af, g⟩ l As (fun v Cs => ∃ ri m, v = .pointer (some ⟨ri, 0, none⟩) ∧ Cs = MIt ri r gm [] m :: Bs) := .mk fun j Fs H M q => by
  refine hmc_of_hm ?_
  show hm P (Instr.range t (ev (mk l j) x) >>= fun v => pure (Next.value v)) H M _
  rw [hx j]
  have q := (s.app Fs).sat q
  obtain ⟨key, hu, _⟩ := mt.h
  obtain ⟨es, ck, hM, hw⟩ := star_fst q
  refine hm_bind ?_
  unfold Instr.range
  refine hm_bind (hm_cst hu ?_)
  dsimp only
  refine hm_bind (hm_hq (hq_get (.inl hM)) ?_)
  dsimp only
  refine hm_bind (hm_pure ?_)
  refine hm_bind (hm_newO fun ri hr => hm_pure (hm_pure ⟨_, .inl rfl, _, ⟨ri, es.toList.length, rfl, rfl⟩, ?_⟩))
  have hne : ri ≠ r := fun e => by subst e; rw [hr.2] at hM; cases hM
  obtain ⟨M1, M2, a1, a2, dj, ⟨es1, ck1, hA, hw1⟩, hB⟩ := q
  have e1 := a1 _ _ hA
  rw [hM] at e1; cases e1
  refine ⟨upd M1 ri (.mapIter (some r) ck #[] ck), M2, ?_, fun c o hc => hr.old (a2 _ _ hc), ?_, ⟨es, ck, #[], [], ?_, upd_same _ _ _, hne, hw, fun x hx => (nomatch hx), .nil, rfl, rfl, rfl⟩, hB⟩
  · intro c o hc
    by_cases e : c = ri
    · subst e; rw [upd_same] at hc ⊢; exact hc
    · rw [upd_ne e] at hc ⊢; exact a1 _ _ hc
  · intro c
    by_cases e : c = ri
    · subst e
      refine .inr ?_
      cases h : M2 c with
      | none => rfl
      | some o => have := a2 _ _ h; rw [hr.2] at this; cases this
    · rw [upd_ne e]; exact dj c
  · rw [upd_ne hne.symm]; exact hA
theorem hm_next {ri rm : Nat} {gm : Int → Option Value} {S : List Int} {m : Nat} {t : TypeId} {X : HP} {H M : Heap} {K : Value → Heap → Heap → Prop} (q : ((MIt ri rm gm S m).star X).p H M)
    (h0 : (∀ k v, gm k = some v → k ∈ S) → K (.tuple #[.bool false]) H M)
    (h1 : ∀ k v m' M', m = m' + 1 → k ∉ S → gm k = some v → ((MIt ri rm gm (k :: S) m').star X).p H M' → K (.tuple #[.bool true, .int .i64 k, v]) H M') :
    hm P (Instr.next (.pointer (some ⟨ri, 0, none⟩)) false t) H M K := by
  obtain ⟨es, ck, seen, xs, hm, hi, hne, hw, hxs, hnd, hS, hseen, hlen⟩ := star_fst q
  unfold Instr.next
  dsimp only
  refine hm_bind (hm_hq (hq_get (.inl hi)) ?_)
  dsimp only
  refine hm_bind (hm_hq (hq_get (.inl hm)) ?_)
  dsimp only
  have hsc : ∀ e : MapEntry, seen.contains e.born = true ↔ e.born ∈ xs.map (·.born) := fun e => by
    rw [← Array.contains_toList, hseen]; simp
  have hall : ∀ e : MapEntry, e ∈ es.toList → (e.born ∈ xs.map (·.born) ↔ e ∈ xs) := fun e he => by
    constructor
    · intro h
      obtain ⟨y, hy, hb⟩ := List.mem_map.1 h
      rw [← born_inj hw.bd (hxs y hy) he hb]; exact hy
    · exact fun h => List.mem_map.2 ⟨e, h, rfl⟩
  rw [if_neg (by
    simp only [Bool.and_eq_true, Bool.not_eq_true']
    rintro ⟨⟨_, h1⟩, h2⟩
    rw [Array.all_eq_true] at h2
    have hpos : 0 < es.size := by
      rcases Nat.eq_zero_or_pos es.size with h | h
      · rw [Array.isEmpty_eq_false_iff] at h1; exact absurd (Array.size_eq_zero_iff.1 h) h1
      · exact h
    have h3 := h2 0 hpos
    have h4 := hw.bl es[0] (by simp)
    simp at h3; omega)]
  have hold : (Array.filter (fun x => decide (x.born < ck)) (Array.filter (fun e => !seen.contains e.born) es)).toList = es.toList.filter (fun e => !seen.contains e.born) := by
    rw [Array.toList_filter, Array.toList_filter, List.filter_filter]
    refine List.filter_congr fun e he => ?_
    have := hw.bl e he
    simp [this]
  have hnew : (Array.filter (fun x => decide (x.born ≥ ck)) (Array.filter (fun e => !seen.contains e.born) es)) = #[] := by
    apply Array.ext'
    rw [Array.toList_filter, Array.toList_filter, List.filter_filter]
    rw [List.filter_eq_nil_iff]
    intro e he
    have := hw.bl e he
    simp; omega
  rw [hnew]
  generalize hO : (Array.filter (fun x => decide (x.born < ck)) (Array.filter (fun e => !seen.contains e.born) es)) = O at hold
  have hOm : ∀ e, e ∈ O ↔ e ∈ es.toList ∧ e ∉ xs := fun e => by
    rw [← Array.mem_toList_iff, hold, List.mem_filter]
    constructor
    · rintro ⟨h1, h2⟩
      refine ⟨h1, fun h3 => ?_⟩
      have := (hsc e).2 ((hall e h1).2 h3)
      rw [this] at h2; cases h2
    · rintro ⟨h1, h2⟩
      refine ⟨h1, ?_⟩
      cases h3 : seen.contains e.born with
      | false => rfl
      | true => exact absurd ((hall e h1).1 ((hsc e).1 h3)) h2
  rcases Nat.eq_zero_or_pos O.size with hz | hpos
  · have hO0 : O = #[] := Array.size_eq_zero_iff.1 hz
    subst hO0
    refine hm_bind (hm_choose fun t hf _ => ?_)
    rw [hf (by simp [Question.forced])]
    simp only [Array.isEmpty_empty, if_true]
    have hnil : ((#[none] : Array (Option MapEntry)) ++ Array.map some ((#[] : Array MapEntry) ++ #[]))[0]? = some none := by simp
    rw [hnil]
    dsimp only
    refine hm_pure (h0 fun k v hg => ?_)
    obtain ⟨e, he, hk⟩ := hw.all _ _ hg
    have hx : e ∈ xs := by
      refine Classical.byContradiction fun h => ?_
      have := (hOm e).2 ⟨he, h⟩; simp at this
    have : Value.int .i64 k ∈ S.map (.int .i64) := by rw [← hS]; exact List.mem_map.2 ⟨e, hx, hk⟩
    obtain ⟨k2, h2, h3⟩ := List.mem_map.1 this
    cases h3; exact h2
  · have hne0 : O.isEmpty = false := by rw [Array.isEmpty_eq_false_iff]; intro e; rw [e] at hpos; simp at hpos
    simp only [hne0, Bool.false_eq_true, if_false, Array.empty_append, Array.append_empty]
    refine hm_bind (hm_choose fun t hf hcut => ?_)
    have ht : t < O.size := by
      by_cases hq : (Question.mapNext (Array.map some O).size).forced = true
      · rw [hf hq]; exact hpos
      · obtain ⟨s, rfl⟩ := hcut (by simpa using hq)
        simp only [Question.cut, Array.size_map]; exact Nat.mod_lt _ hpos
    have hget : (Array.map some O)[t]? = some (some O[t]) := by simp [ht]
    rw [hget]
    dsimp only
    obtain ⟨he, hnx⟩ := (hOm O[t]).1 (Array.getElem_mem ht)
    generalize O[t] = e at he hnx
    obtain ⟨kk, hk, hg⟩ := hw.key e he
    refine hm_bind (hm_setO (.mapIter (some rm) ck (seen.push e.born) ck) hi (hm_pure ?_))
    rw [hk]
    have hlen2 := len_le_of_sub (xs := e :: xs) (es := es.toList) (List.pairwise_cons.2 ⟨fun y hy hb => hnx (by rw [born_inj hw.bd he (hxs y hy) hb]; exact hy), hnd⟩) (fun y hy => by
      rcases List.mem_cons.1 hy with rfl | hy
      · exact he
      · exact hxs y hy)
    rw [List.length_cons] at hlen2
    have hkS : kk ∉ S := fun hin => by
      have : Value.int .i64 kk ∈ xs.map (·.key) := by rw [hS]; exact List.mem_map.2 ⟨kk, hin, rfl⟩
      obtain ⟨y, hy, hyk⟩ := List.mem_map.1 this
      exact hnx (by rw [key_inj hw.kd he (hxs y hy) (by rw [hk, hyk])]; exact hy)
    refine h1 kk e.val (m - 1) _ (by omega) hkS hg ?_
    obtain ⟨M1, M2, a1, a2, dj, ⟨es1, ck1, seen1, xs1, hA, hI, _⟩, hB⟩ := q
    have e1 := a1 _ _ hA
    rw [hm] at e1; cases e1
    have h2 : M2 ri = none := (dj ri).resolve_left (by rw [hI]; simp)
    refine ⟨upd M1 ri (.mapIter (some rm) ck (seen.push e.born) ck), M2, ?_, ?_, ?_, ⟨es, ck, seen.push e.born, e :: xs, ?_, upd_same _ _ _, hne, hw, ?_, ?_, ?_, ?_, ?_⟩, hB⟩
    · intro c o hc
      by_cases ec : c = ri
      · subst ec; rw [upd_same] at hc ⊢; exact hc
      · rw [upd_ne ec] at hc ⊢; exact a1 _ _ hc
    · intro c o hc
      rw [upd_ne (fun e => by subst e; rw [h2] at hc; cases hc)]; exact a2 _ _ hc
    · intro c
      by_cases ec : c = ri
      · subst ec; exact .inr h2
      · rw [upd_ne ec]; exact dj c
    · rw [upd_ne hne.symm]; exact hA
    · intro y hy
      rcases List.mem_cons.1 hy with rfl | hy
      · exact he
      · exact hxs y hy
    · exact List.pairwise_cons.2 ⟨fun y hy hb => hnx (by rw [born_inj hw.bd he (hxs y hy) hb]; exact hy), hnd⟩
    · rw [List.map_cons, List.map_cons, hk, hS]
    · rw [Array.toList_push, hseen]; simp
    · rw [List.length_cons]; omega
theorem s_next {t : TypeId} {x : Operand} {ri rm m : Nat} {gm : Int → Option Value} {S : List Int} (u : Sel (MIt ri rm gm S m) As Bs)
    (h0 : (∀ k v, gm k = some v → k ∈ S) → RunS P f n R (.ops all rest :: k) ((d, .tuple #[.bool false]) :: l) As)
    (h1 : ∀ kk v m', m = m' + 1 → kk ∉ S → gm kk = some v → RunS P f n R (.ops all rest :: k) ((d, .tuple #[.bool true, .int .i64 kk, v]) :: l) (MIt ri rm gm (kk :: S) m' :: Bs))
    (hx : ∀ j, ev (mk l j) x = .pointer (some ⟨ri, 0, none⟩) := by intro j; rfl) (hd : Nat.blt d n = true := by rfl) (hw : ∀ j, wantE ⟨some d, .next x false, t, pos, af, g⟩ all (mk l j) = true := by intro j; rfl) :
    RunS P f n R (.ops all (⟨some d, .next x false, t, pos, af, g⟩ :: rest) :: k) l As := .mk fun H M s =>
  run_hmc hd hw fun j => by
    refine hmc_of_hm ?_
    show hm P (Instr.next (ev (mk l j) x) false t >>= fun v => pure (Next.value v)) H M _
    rw [hx j]
    refine hm_bind (hm_next (u.sat s) (fun hh => hm_pure ⟨_, .inl rfl, h0 hh _ _ s⟩) fun kk v m' M' e1 e2 e3 e4 => hm_pure ⟨_, .inl rfl, h1 kk v m' e1 e2 e3 _ _ e4⟩)
theorem find_born {es : List MapEntry} (h : es.Pairwise (fun a b => a.born ≠ b.born)) {e : MapEntry} (he : e ∈ es) : es.find? (fun x => x.born == e.born) = some e := by
  cases hf : es.find? (fun x => x.born == e.born) with
  | none => rw [List.find?_eq_none] at hf; have := hf e he; simp at this
  | some x =>
    have h1 := List.find?_some hf
    have h2 := List.mem_of_find?_eq_some hf
    rw [born_inj h h2 he (by simpa using h1)]
theorem lk_entry {x : Operand} {ri rm m : Nat} {gm : Int → Option Value} {kk : Int} {S : List Int} {v : Value} (hg : gm kk = some v) (s : Sel (MIt ri rm gm (kk :: S) m) As Bs := by repeat (first | with_reducible exact Sel.here | with_reducible apply Sel.there)) (hx : ∀ j, ev (mk l j) x = .pointer (some ⟨ri, 0, none⟩) := by intro j; rfl) :
    LookS P ⟨some d, .entry x, oty, pos, af, g⟩ l As (.tuple #[.int .i64 kk, v]) := .mk fun j H M q => by
  obtain ⟨es, ck, seen, xs, hm, hi, hne, hw, hxs, hnd, hS, hseen, hlen⟩ := s.hold q
  refine qt_exec (s := Instr.entry (ev (mk l j) x)) (by unfold execOp; rfl) ?_
  rw [hx j]
  cases xs with
  | nil => cases hS
  | cons e xs =>
    rw [List.map_cons, List.map_cons, List.cons.injEq] at hS
    have hb : seen.back? = some e.born := by
      rw [← Array.getLast?_toList, hseen]; simp
    unfold Instr.entry
    dsimp only
    refine hq_bind (hq_get (.inl hi)) ?_
    dsimp only
    rw [hb]
    dsimp only
    refine hq_bind (hq_get (.inl hm)) ?_
    dsimp only
    rw [if_neg (by simp)]
    have he : e ∈ es.toList := hxs e (List.mem_cons_self ..)
    have hf : es.find? (fun x => x.born == e.born) = some e := by rw [← Array.find?_toList]; exact find_born hw.bd he
    rw [hf]
    dsimp only
    obtain ⟨k2, h1, h2⟩ := hw.key e he
    rw [hS.1] at h1; cases h1
    rw [hg] at h2; cases h2
    rw [hS.1]
    exact hq_pure
/-- a map is cleared -/
theorem st_clm {t elem r : Nat} {x : Operand} {gm : Int → Option Value} [mt : MTY P t elem] (s : Sel (MG r gm) As Bs) (hx : ∀ j, ev (mk l j) x = .map (some r) := by intro j; rfl) :
    StepL P ⟨dd, .call ⟨.builtin .clear, #[x], #[t]⟩, oty, pos, af, g⟩ l As (fun _ Cs => Cs = MG r (fun _ => none) :: Bs) := .mk fun j Fs H M q => by
  have e1 : execOp (ev (mk l j)) ⟨dd, .call ⟨.builtin .clear, #[x], #[t]⟩, oty, pos, af, g⟩ = (Builtin.clear_ #[t] oty #[ev (mk l j) x] >>= fun v => pure (Next.value v)) := by
    show (resolve (ev (mk l j)) ⟨.builtin .clear, #[x], #[t]⟩ oty >>= fun d => invoke d.target d.args) = _
    have : #[x].map (ev (mk l j)) = #[ev (mk l j) x] := by simp
    unfold resolve
    dsimp only
    rw [this]; rfl
  rw [e1, hx j]
  have q := (s.app Fs).sat q
  obtain ⟨key, hu, _⟩ := mt.h
  obtain ⟨es, ck, hM, hw⟩ := star_fst q
  refine hmc_of_hm (hm_bind ?_)
  unfold Builtin.clear_
  simp only [List.getElem?_toArray, List.getElem?_cons_zero]
  refine hm_bind (hm_cst hu ?_)
  refine hm_bind (hm_hq (hq_get (.inl hM)) ?_)
  dsimp only
  refine hm_bind (hm_setO (.map #[] ck) hM (hm_pure (hm_pure ⟨_, .inl rfl, _, rfl, ?_⟩)))
  exact MG_write q hM { key := fun e he => (nomatch he), all := fun k v h => (nomatch h), kd := .nil, bd := .nil, bl := fun e he => (nomatch he) }
end
end Go.Cam
