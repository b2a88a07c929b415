/- The rules of operations: what looks, what makes memory, what calls. -/
import Derived.Test.YtgbbcpfnmkeijaaGreatCamA
import Derived.Deep.Quiet
import Derived.StillTail
namespace Go.Cam
section
variable {P : Program} {b : Frame} {a : Act} {k : List Item} {cs : List Frame} {w w' : World} {all : Array Oper} {i : Nat} {is : List Nat} {o : Oper}
theorem fin_at (ho : all[i]? = some o) (v : Value) : (b.at a (.inRegion all (i :: is) :: k)).finish v = b.at (a.put o.dst v) (.inRegion all is :: k) := by
  rw [Frame.finish_at, ho]; rfl
theorem op_value (ho : all[i]? = some o) (hw : Region.wanted o (yielded all a.tmps) = true) {v : Value} (hr : (execOp a.eval o).run P w = .ok (.value v) w') :
    step P (lone (b.at a (.inRegion all (i :: is) :: k)) cs w) = .next (lone (b.at (a.put o.dst v) (.inRegion all is :: k)) cs w') := by
  refine step_lone_go ?_
  rw [stepG_op (P := P) (b := b) (k := k) (cs := cs) (w := w) (rest := is) ho hw, ← fin_at (b := b) (a := a) (k := k) (is := is) ho]
  simp [stepG.apply, hr]
theorem op_unit (ho : all[i]? = some o) (hw : Region.wanted o (yielded all a.tmps) = true) (hr : (execOp a.eval o).run P w = .ok .skip w') :
    step P (lone (b.at a (.inRegion all (i :: is) :: k)) cs w) = .next (lone (b.at (a.put o.dst undef) (.inRegion all is :: k)) cs w') := by
  refine step_lone_go ?_
  rw [stepG_op (P := P) (b := b) (k := k) (cs := cs) (w := w) (rest := is) ho hw, ← fin_at (b := b) (a := a) (k := k) (is := is) ho]
  simp [stepG.apply, hr]
theorem op_call (ho : all[i]? = some o) (hw : Region.wanted o (yielded all a.tmps) = true) {f : FuncId} {args : Array Value}
    (hr : (execOp a.eval o).run P w = .ok (.enter f args) w') {R : Ending → World → Prop} (hc : Calls P f args w' R)
    (hR : ∀ e w2, R e w2 → ∃ v, e = .returned v) :
    ∃ v w2, R (.returned v) w2 ∧ Steps P (lone (b.at a (.inRegion all (i :: is) :: k)) cs w) (lone (b.at (a.put o.dst v) (.inRegion all is :: k)) cs w2) := by
  obtain ⟨e, w2, fr, hq, hsteps, _, hleave⟩ := hc (b.at a (.inRegion all (i :: is) :: k) :: cs)
  obtain ⟨v, rfl⟩ := hR _ _ hq
  have henter : step P (lone (b.at a (.inRegion all (i :: is) :: k)) cs w) =
      .next (lone (Frame.enter P f args .normal) (b.at a (.inRegion all (i :: is) :: k) :: cs) w') :=
    step_lone_go (by rw [stepG_op (P := P) (b := b) (k := k) (cs := cs) (w := w) (rest := is) ho hw]; simp [stepG.apply, hr, Frame.at])
  refine ⟨v, w2, hq, .head henter (Steps.trans hsteps (.one ?_))⟩
  rw [← fin_at (b := b) (a := a) (k := k) (is := is) ho]
  exact step_leave_returned hleave
end

def gv (all : Array Oper) (e : Nat → Value) (j : Nat) : Option Bool := match (all[j]?).bind (·.dst) with
  | some d => (match e d with | .bool b => some b | _ => none)
  | none => none
def wantE (o : Oper) (all : Array Oper) (e : Nat → Value) : Bool := match o.guard with
  | none => true
  | some (j, want) => gv all e j == some want
theorem wantE_ok {n : Nat} {a : Act} {e : Nat → Value} (ha : Agr n a e) (o : Oper) (all : Array Oper) : Region.wanted o (yielded all a.tmps) = wantE o all e := by
  unfold Region.wanted wantE
  cases o.guard with
  | none => rfl
  | some g =>
    obtain ⟨j, want⟩ := g
    have : yielded all a.tmps j = gv all e j := by
      unfold yielded gv
      cases (all[j]?).bind (·.dst) with
      | none => rfl
      | some d =>
        simp only [Option.bind_some]
        rw [← ha.2.2 d]
        rcases Nat.lt_or_ge d a.tmps.size with h | h
        · simp only [Array.getElem?_eq_getElem h, Array.getD_eq_getD_getElem?, Option.getD_some]
          cases a.tmps[d] <;> rfl
        · simp [Array.getElem?_eq_none h, undef]
    simp only [this]

def putl (l : List (Nat × Value)) (d : Option Nat) (v : Value) : List (Nat × Value) := match d with | some s => (s, v) :: l | none => l
theorem putl_ok (l : List (Nat × Value)) (d : Option Nat) (v : Value) (j : Nat → Value) : put (mk l j) d v = mk (putl l d v) j := by
  cases d <;> rfl
def din (n : Nat) (d : Option Nat) : Bool := match d with | some s => Nat.blt s n | none => true
theorem din_ok {n : Nat} {d : Option Nat} (h : din n d = true) : ∀ s, d = some s → s < n := by
  intro s hs; subst hs; simpa [din] using h

/-- an operation that looks, and hands back the very world -/
def Qs (P : Program) (o : Oper) (e : Nat → Value) (H M : Heap) (v : Value) : Prop :=
  ∀ w0 w, Has w0 w H M → (execOp (ev e) o).run P w = .ok (.value v) w
/-- an operation that looks, and leaves all as it is -/
def Qt (P : Program) (o : Oper) (e : Nat → Value) (H M : Heap) (v : Value) : Prop :=
  ∀ w0 w, Has w0 w H M → Oper.quietUpon P (fun w' => Has w0 w' H M) w v ((execOp (ev e) o).run P w)

section
variable {P : Program} {f : FuncId} {n : Nat} {R : Post} {k : List It} {l : List (Nat × Value)} {H M : Heap} {all : Array Oper} {o : Oper} {rest : List Oper}
theorem ops_cons {is : List Nat} (h : is.map (fun i => all[i]?) = (o :: rest).map some) : ∃ i is', is = i :: is' ∧ all[i]? = some o ∧ is'.map (fun i => all[i]?) = rest.map some := by
  cases is with
  | nil => simp at h
  | cons i is' => simp only [List.map_cons, List.cons.injEq] at h; exact ⟨i, is', rfl, h.1, h.2⟩
theorem run_qt (v : Value) (hd : din n o.dst = true) (hw : ∀ j, wantE o all (mk l j) = true) (hq : ∀ j, Qt P o (mk l j) H M v)
    (h : Run P f n R (.ops all rest :: k) (putl l o.dst v) H M) : Run P f n R (.ops all (o :: rest) :: k) l H M := by
  intro j w0 w a b cs k' hk hh ha hf hn
  cases hk with
  | ops hi hk =>
    obtain ⟨i, is', rfl, ho, hi'⟩ := ops_cons hi
    have hwa : Region.wanted o (yielded all a.tmps) = true := by rw [wantE_ok ha, hw j]
    have hq' := hq j w0 w hh
    rw [← ha.eval] at hq'
    have hgo : ∀ w2, Has w0 w2 H M → _ := fun w2 h2 => h j w0 w2 (a.put o.dst v) b cs _ (.ops hi' hk) h2 (by rw [← putl_ok]; exact ha.put _ _ (din_ok hd)) hf hn
    cases hrun : (execOp a.eval o).run P w with
    | halt x w1 => rw [hrun] at hq'; exact hq'.elim
    | ok nx w1 =>
      rw [hrun] at hq'
      cases nx with
      | value u =>
        obtain ⟨rfl, rfl⟩ := hq'
        obtain ⟨v', w', fr, hst, r⟩ := hgo _ hh
        exact ⟨v', w', fr, .head (op_value ho hwa hrun) hst, r⟩
      | skip =>
        obtain ⟨rfl, rfl⟩ := hq'
        obtain ⟨v', w', fr, hst, r⟩ := hgo _ hh
        exact ⟨v', w', fr, .head (op_unit ho hwa hrun) hst, r⟩
      | enter f args =>
        obtain ⟨rfl, hc⟩ := hq'
        obtain ⟨v2, w2, ⟨he, h2⟩, hst2⟩ := op_call (b := b) (k := ‹_›) (cs := cs) (is := is') ho hwa hrun hc (fun e w2 ⟨he, _⟩ => ⟨v, he⟩)
        cases he
        obtain ⟨v', w', fr, hst, r⟩ := hgo _ h2
        exact ⟨v', w', fr, hst2.trans hst, r⟩
      | _ => exact hq'.elim
theorem run_no (hd : din n o.dst = true) (hw : ∀ j, wantE o all (mk l j) = false)
    (h : Run P f n R (.ops all rest :: k) (putl l o.dst undef) H M) : Run P f n R (.ops all (o :: rest) :: k) l H M := by
  intro j w0 w a b cs k' hk hh ha hf hn
  cases hk with
  | ops hi hk =>
    obtain ⟨i, is', rfl, ho, hi'⟩ := ops_cons hi
    have hwa : Region.wanted o (yielded all a.tmps) = false := by rw [wantE_ok ha, hw j]
    obtain ⟨v', w', fr, hst, r⟩ := h j w0 w (a.put o.dst undef) b cs _ (.ops hi' hk) hh (by rw [← putl_ok]; exact ha.put _ _ (din_ok hd)) hf hn
    refine ⟨v', w', fr, .head ?_ hst, r⟩
    have := step_op_skip (P := P) (b := b) (a := a) (k := ‹_›) (cs := cs) (w := w) (ops := all) (i := i) (rest := is') (by simp [ho, hwa])
    simpa [ho] using this
theorem run_hm (hd : din n o.dst = true) (hw : ∀ j, wantE o all (mk l j) = true)
    (h : ∀ j, hm P (execOp (ev (mk l j)) o) H M fun nx H' M' => ∃ v, (nx = .value v ∨ nx = .skip ∧ v = undef) ∧ Run P f n R (.ops all rest :: k) (putl l o.dst v) H' M') :
    Run P f n R (.ops all (o :: rest) :: k) l H M := by
  intro j w0 w a b cs k' hk hh ha hf hn
  cases hk with
  | ops hi hk =>
    obtain ⟨i, is', rfl, ho, hi'⟩ := ops_cons hi
    have hwa : Region.wanted o (yielded all a.tmps) = true := by rw [wantE_ok ha, hw j]
    obtain ⟨nx, w1, H', M', hrun, h1, v, hnx, hgo⟩ := h j w0 w hh
    rw [← ha.eval] at hrun
    obtain ⟨v', w', fr, hst, r⟩ := hgo j w0 w1 (a.put o.dst v) b cs _ (.ops hi' hk) h1 (by rw [← putl_ok]; exact ha.put _ _ (din_ok hd)) hf hn
    rcases hnx with rfl | ⟨rfl, rfl⟩
    · exact ⟨v', w', fr, .head (op_value ho hwa hrun) hst, r⟩
    · exact ⟨v', w', fr, .head (op_unit ho hwa hrun) hst, r⟩
theorem run_callo {q : FuncId} {args : Array Value} {R' : Post} (hd : din n o.dst = true) (hw : ∀ j, wantE o all (mk l j) = true)
    (hx : ∀ j, cst P (execOp (ev (mk l j)) o) = some (.enter q args)) (hc : ACalls P q args H M R')
    (h : ∀ v H' M', R' v H' M' → Run P f n R (.ops all rest :: k) (putl l o.dst v) H' M') : Run P f n R (.ops all (o :: rest) :: k) l H M := by
  intro j w0 w a b cs k' hk hh ha hf hn
  cases hk with
  | ops hi hk =>
    obtain ⟨i, is', rfl, ho, hi'⟩ := ops_cons hi
    have hwa : Region.wanted o (yielded all a.tmps) = true := by rw [wantE_ok ha, hw j]
    have hrun : (execOp a.eval o).run P w = .ok (.enter q args) w := by rw [ha.eval]; exact cst_run _ (hx j) w
    obtain ⟨v, w2, ⟨v2, H', M', he, h2, hr⟩, hst2⟩ := op_call (b := b) (k := ‹_›) (cs := cs) (is := is') ho hwa hrun (hc w0 w hh) (fun e w2 ⟨v, _, _, he, _⟩ => ⟨v, he⟩)
    cases he
    obtain ⟨v', w', fr, hst, r⟩ := h v H' M' hr j w0 w2 (a.put o.dst v) b cs _ (.ops hi' hk) h2 (by rw [← putl_ok]; exact ha.put _ _ (din_ok hd)) hf hn
    exact ⟨v', w', fr, hst2.trans hst, r⟩
/-- a program that makes one block, and looks at no world besides -/
def cstNew {α : Type} (P : Program) : Sem α → Option (Obj × (Nat → Sem α))
  | .program k => cstNew P (k P)
  | .mark _ k => cstNew P k
  | .new o k => some (o, k)
  | _ => none
theorem cstNew_run {α : Type} {P : Program} : ∀ (e : Sem α) {o : Obj} {kk : Nat → Sem α}, cstNew P e = some (o, kk) → ∀ w, e.run P w = (kk w.heap.size).run P { w with heap := w.heap.push o }
  | .program k, o, kk, h, w => by simp only [Sem.run]; exact cstNew_run (k P) h w
  | .mark m k, o, kk, h, w => by simp only [Sem.run]; exact cstNew_run k h w
  | .new o' k, o, kk, h, w => by simp only [cstNew, Option.some.injEq, Prod.mk.injEq] at h; obtain ⟨rfl, rfl⟩ := h; rfl
  | .pure _, o, kk, h, w | .load .., o, kk, h, w | .store .., o, kk, h, w | .shape .., o, kk, h, w | .freeze .., o, kk, h, w | .frozen .., o, kk, h, w
  | .getObj .., o, kk, h, w | .setObj .., o, kk, h, w | .choose .., o, kk, h, w | .sys .., o, kk, h, w | .halt _, o, kk, h, w => by simp [cstNew] at h
theorem run_newo (ob : Obj) (vr : Nat → Value) (hd : din n o.dst = true) (hw : ∀ j, wantE o all (mk l j) = true)
    (hx : ∀ j, (cstNew P (execOp (ev (mk l j)) o)).map (fun x => (x.1, fun r => cst P (x.2 r))) = some (ob, fun r => some (.value (vr r))))
    (h : ∀ r, Fresh H M r → Run P f n R (.ops all rest :: k) (putl l o.dst (vr r)) H (upd M r ob)) : Run P f n R (.ops all (o :: rest) :: k) l H M := by
  refine run_hm hd hw fun j w0 w hh => ?_
  have hx := hx j
  cases hq : cstNew P (execOp (ev (mk l j)) o) with
  | none => rw [hq] at hx; cases hx
  | some p =>
    obtain ⟨o', kk⟩ := p
    rw [hq] at hx
    simp only [Option.map_some, Option.some.injEq, Prod.mk.injEq] at hx
    obtain ⟨rfl, hk⟩ := hx
    refine ⟨_, _, H, upd M w.heap.size o', ?_, hh.push o', vr w.heap.size, .inl rfl, h _ hh.fresh⟩
    rw [cstNew_run _ hq]
    exact cst_run _ (congrFun hk w.heap.size) _
theorem run_call {d : Nat} {op : Op} {ty : TypeId} {pos : String} {af : Array Edge} {g : Option (Nat × Bool)} {q : FuncId} {args : Array Value} {R' : Post} (hd : Nat.blt d n = true) (hw : ∀ j, wantE ⟨some d, op, ty, pos, af, g⟩ all (mk l j) = true)
    (hx : ∀ j, cst P (execOp (ev (mk l j)) ⟨some d, op, ty, pos, af, g⟩) = some (.enter q args)) (hc : ACalls P q args H M R')
    (h : ∀ v H' M', R' v H' M' → Run P f n R (.ops all rest :: k) ((d, v) :: l) H' M') : Run P f n R (.ops all (⟨some d, op, ty, pos, af, g⟩ :: rest) :: k) l H M :=
  run_callo hd hw hx hc h
theorem run_new {d : Nat} {op : Op} {ty : TypeId} {pos : String} {af : Array Edge} {g : Option (Nat × Bool)} (ob : Obj) (vr : Nat → Value) (hd : Nat.blt d n = true) (hw : ∀ j, wantE ⟨some d, op, ty, pos, af, g⟩ all (mk l j) = true)
    (hx : ∀ j, (cstNew P (execOp (ev (mk l j)) ⟨some d, op, ty, pos, af, g⟩)).map (fun x => (x.1, fun r => cst P (x.2 r))) = some (ob, fun r => some (.value (vr r))))
    (h : ∀ r, Fresh H M r → Run P f n R (.ops all rest :: k) ((d, vr r) :: l) H (upd M r ob)) : Run P f n R (.ops all (⟨some d, op, ty, pos, af, g⟩ :: rest) :: k) l H M :=
  run_newo ob vr hd hw hx h
theorem Qs.qt {P : Program} {o : Oper} {e : Nat → Value} {v : Value} (h : Qs P o e H M v) : Qt P o e H M v := by
  intro w0 w hh
  rw [h w0 w hh]
  exact ⟨rfl, rfl⟩
theorem qt_cst {P : Program} {o : Oper} {e : Nat → Value} {v : Value} (h : cst P (execOp (ev e) o) = some (.value v)) : Qs P o e H M v :=
  fun _ w _ => cst_run _ h w
theorem run_cst (v : Value) (hd : din n o.dst = true) (hw : ∀ j, wantE o all (mk l j) = true) (hv : ∀ j, cst P (execOp (ev (mk l j)) o) = some (.value v))
    (h : Run P f n R (.ops all rest :: k) (putl l o.dst v) H M) : Run P f n R (.ops all (o :: rest) :: k) l H M :=
  run_qt v hd hw (fun j => (qt_cst (hv j)).qt) h
/-- an operation whose guard says yes; one whose guard says no -/
theorem run_y {d : Nat} {op : Op} {ty : TypeId} {pos : String} {af : Array Edge} {g : Option (Nat × Bool)} {v : Value} (hv : ∀ j, cst P (execOp (ev (mk l j)) ⟨some d, op, ty, pos, af, g⟩) = some (.value v)) (hd : Nat.blt d n = true)
    (hw : ∀ j, wantE ⟨some d, op, ty, pos, af, g⟩ all (mk l j) = true) (h : Run P f n R (.ops all rest :: k) ((d, v) :: l) H M) : Run P f n R (.ops all (⟨some d, op, ty, pos, af, g⟩ :: rest) :: k) l H M :=
  run_cst v hd hw hv h
theorem run_n {d : Nat} {op : Op} {ty : TypeId} {pos : String} {af : Array Edge} {g : Option (Nat × Bool)} (hd : Nat.blt d n = true)
    (hw : ∀ j, wantE ⟨some d, op, ty, pos, af, g⟩ all (mk l j) = false) (h : Run P f n R (.ops all rest :: k) ((d, undef) :: l) H M) : Run P f n R (.ops all (⟨some d, op, ty, pos, af, g⟩ :: rest) :: k) l H M :=
  run_no hd hw h
/-- a pure operation without a guard -/
theorem run_p {d : Nat} {op : Op} {ty : TypeId} {pos : String} {af : Array Edge} {v : Value} (hv : ∀ j, cst P (execOp (ev (mk l j)) ⟨some d, op, ty, pos, af, none⟩) = some (.value v)) (hd : Nat.blt d n = true)
    (h : Run P f n R (.ops all rest :: k) ((d, v) :: l) H M) : Run P f n R (.ops all (⟨some d, op, ty, pos, af, none⟩ :: rest) :: k) l H M :=
  run_cst v hd (fun _ => rfl) hv h

/-! ### Calls' ends and begins -/
def resL (e : Nat → Value) : List ResultVar → Sem (List Value)
  | [] => pure []
  | .tmp t :: r => do let vs ← resL e r; pure (e t :: vs)
  | .cell a t :: r => do let v ← (asAddr (e a) >>= fun x => loadVar t x); let vs ← resL e r; pure (v :: vs)
def resE (fn : Func) (e : Nat → Value) : Sem Value := do
  let vs ← resL e fn.results.toList
  match vs with
  | [v] => pure v
  | vs => pure (.tuple vs.toArray)
theorem sem_bind_assoc {α β γ : Type} (s : Sem α) (f : α → Sem β) (g : β → Sem γ) : (s >>= f) >>= g = s >>= fun a => f a >>= g := by
  show (s.bind f).bind g = s.bind fun a => (f a).bind g
  induction s with
  | pure a => rfl
  | load m a k ih => simp only [Sem.bind]; congr 1; funext v; exact ih v
  | store m a v k ih => simp only [Sem.bind]; congr 1
  | new o k ih => simp only [Sem.bind]; congr 1; funext v; exact ih v
  | shape r k ih => simp only [Sem.bind]; congr 1; funext v; exact ih v
  | freeze a n k ih => simp only [Sem.bind]; congr 1
  | frozen a k ih => simp only [Sem.bind]; congr 1; funext v; exact ih v
  | getObj r k ih => simp only [Sem.bind]; congr 1; funext v; exact ih v
  | setObj r o k ih => simp only [Sem.bind]; congr 1
  | choose q k ih => simp only [Sem.bind]; congr 1; funext v; exact ih v
  | sys c k ih => simp only [Sem.bind]; congr 1; funext v; exact ih v
  | program k ih => simp only [Sem.bind]; congr 1; funext v; exact ih v
  | mark m k ih => simp only [Sem.bind]; congr 1
  | halt h => rfl
instance : LawfulMonad Sem := LawfulMonad.mk' Sem
  (id_map := fun s => by
    show s.bind (fun a => Sem.pure a) = s
    induction s with
    | pure a => rfl
    | load m a k ih => simp only [Sem.bind]; congr 1; funext v; exact ih v
    | store m a v k ih => simp only [Sem.bind]; congr 1
    | new o k ih => simp only [Sem.bind]; congr 1; funext v; exact ih v
    | shape r k ih => simp only [Sem.bind]; congr 1; funext v; exact ih v
    | freeze a n k ih => simp only [Sem.bind]; congr 1
    | frozen a k ih => simp only [Sem.bind]; congr 1; funext v; exact ih v
    | getObj r k ih => simp only [Sem.bind]; congr 1; funext v; exact ih v
    | setObj r o k ih => simp only [Sem.bind]; congr 1
    | choose q k ih => simp only [Sem.bind]; congr 1; funext v; exact ih v
    | sys c k ih => simp only [Sem.bind]; congr 1; funext v; exact ih v
    | program k ih => simp only [Sem.bind]; congr 1; funext v; exact ih v
    | mark m k ih => simp only [Sem.bind]; congr 1
    | halt h => rfl)
  (pure_bind := fun _ _ => rfl)
  (bind_assoc := sem_bind_assoc)
theorem resL_ok (e : Nat → Value) (f : ResultVar → Sem Value) (hf : f = fun | .tmp t => pure (e t) | .cell a t => (asAddr (e a) >>= fun x => loadVar t x)) :
    ∀ l : List ResultVar, l.mapM f = resL e l
  | [] => by simp [resL]
  | .tmp t :: r => by rw [List.mapM_cons, resL_ok e f hf r, hf]; simp [resL]
  | .cell a t :: r => by rw [List.mapM_cons, resL_ok e f hf r, hf]; simp [resL]
theorem resE_ok {n : Nat} {a : Act} {e : Nat → Value} (ha : Agr n a e) (fn : Func) : results fn a.tmps = resE fn e := by
  have : e = fun t => a.tmps.getD t undef := funext fun t => (ha.2.2 t).symm
  subst this
  unfold results resE
  rw [← resL_ok _ _ rfl, Array.mapM_eq_mapM_toList]
  simp only [map_eq_pure_bind, bind_assoc, pure_bind]
  congr 1
  funext vs
  match vs with
  | [] => rfl
  | [v] => rfl
  | _ :: _ :: _ => rfl
theorem run_ret {fn : Func} {v : Value} (hf : P.funcs[f]? = some fn) (hr : ∀ j w0 w, Has w0 w H M → (resE fn (mk l j)).run P w = .ok v w) (hR : R v H M) :
    Run P f n R (.code .ret :: k) l H M := by
  intro j w0 w a b cs k' hk hh ha hbf hn
  cases hk with
  | code hk =>
    refine ⟨v, w, _, .one step_ret, hbf, ⟨rfl, ha.2.1, hn, fn, by simpa [Frame.at, hbf] using hf, ?_⟩, H, M, hh, hR⟩
    show (results fn a.tmps).run P w = _
    rw [resE_ok ha]; exact hr j w0 w hh
theorem run_end {fn : Func} {v : Value} (hf : P.funcs[f]? = some fn) (hr : ∀ j w0 w, Has w0 w H M → (resE fn (mk l j)).run P w = .ok v w) (hR : R v H M) :
    Run P f n R [] l H M := by
  intro j w0 w a b cs k' hk hh ha hbf hn
  cases hk with
  | nil =>
    refine ⟨v, w, _, .one step_end, hbf, ⟨rfl, ha.2.1, hn, fn, by simpa [Frame.at, hbf] using hf, ?_⟩, H, M, hh, hR⟩
    show (results fn a.tmps).run P w = _
    rw [resE_ok ha]; exact hr j w0 w hh
theorem run_retc {fn : Func} {v : Value} (hf : P.funcs[f]? = some fn) (hr : ∀ j, cst P (resE fn (mk l j)) = some v) (hR : R v H M) : Run P f n R (.code .ret :: k) l H M :=
  run_ret hf (fun j _ w _ => cst_run _ (hr j) w) hR
theorem run_ret_cst {fn : Func} {v : Value} (hf : P.funcs[f]? = some fn) (hr : ∀ j, cst P (resE fn (mk l j)) = some v) (hR : R v H M) : Run P f n R (.code .ret :: k) l H M :=
  run_ret hf (fun j _ w _ => cst_run _ (hr j) w) hR
def zipArgs (i : Nat) : List Value → List (Nat × Value)
  | [] => []
  | v :: r => (i, v) :: zipArgs (i + 1) r
theorem zipArgs_get (j : Nat → Value) : ∀ (vs : List Value) (i t : Nat), mk (zipArgs i vs) j t = if i ≤ t then (vs[t - i]?).getD (j t) else j t
  | [], i, t => by simp [zipArgs, mk]
  | v :: r, i, t => by
    simp only [zipArgs, mk]
    by_cases e : i = t
    · subst e; simp
    · rw [beq_no e, cond_false, zipArgs_get j r (i + 1) t]
      by_cases h : i ≤ t
      · have h1 : i + 1 ≤ t := by omega
        have h2 : t - i = (t - (i + 1)) + 1 := by omega
        rw [if_pos h, if_pos h1, h2, List.getElem?_cons_succ]
      · rw [if_neg h, if_neg (by omega)]
theorem enter {P : Program} {f : FuncId} {fn : Func} {c : Code} {args : List Value} {n : Nat} (hf : P.funcs[f]? = some fn) (hb : fn.body = some c) (hn : fn.ntmps = n) (hl : args.length ≤ n)
    (h : Run P f n R [.code c] (zipArgs 0 args) H M) : ACalls P f args.toArray H M R := by
  intro w0 w hw cs
  let b : Frame := { (default : Frame) with fn := f, kind := .normal }
  have henter : Frame.enter P f args.toArray .normal =
      b.at { tmps := args.toArray ++ Array.replicate (fn.ntmps - args.toArray.size) undef, defers := [] } [.code c] := by
    simp [Frame.enter, Frame.at, hf, hb, b]
  have ha : Agr n { tmps := args.toArray ++ Array.replicate (fn.ntmps - args.toArray.size) undef, defers := [] } (mk (zipArgs 0 args) fun _ => undef) := by
    refine ⟨by simp; omega, rfl, fun t => ?_⟩
    rw [zipArgs_get]
    simp only [Nat.zero_le, if_true, Nat.sub_zero, Array.getD_eq_getD_getElem?]
    rcases Nat.lt_or_ge t args.length with h1 | h1
    · rw [Array.getElem?_append_left (by simpa using h1)]; simp [h1]
    · rw [Array.getElem?_append_right (by simpa using h1), List.getElem?_eq_none h1]
      rw [Array.getElem?_replicate]
      split <;> rfl
  obtain ⟨v, w', fr, hst, hfn, hleave, H', M', hh, hR⟩ := h (fun _ => undef) w0 w _ b cs _ (.code .nil) hw ha rfl rfl
  rw [← henter] at hst
  exact ⟨.returned v, w', fr, ⟨v, H', M', rfl, hh, hR⟩, hst, hfn, hleave⟩
end

/-! ### Regions that draw their order -/
/-- the operations of a row look, one behind the other -/
inductive QL (P : Program) (n : Nat) (all : Array Oper) (H M : Heap) : List Oper → List (Nat × Value) → List (Nat × Value) → Prop
  | nil {l} : QL P n all H M [] l l
  | yes {o os l l2} (v : Value) : din n o.dst = true → (∀ j, wantE o all (mk l j) = true) → (∀ j, Qs P o (mk l j) H M v) → QL P n all H M os (putl l o.dst v) l2 → QL P n all H M (o :: os) l l2
  | no {o os l l2} : din n o.dst = true → (∀ j, wantE o all (mk l j) = false) → QL P n all H M os (putl l o.dst undef) l2 → QL P n all H M (o :: os) l l2
theorem QL.quiet {P : Program} {n : Nat} {all : Array Oper} {H M : Heap} {os : List Oper} {l l2 : List (Nat × Value)} (h : QL P n all H M os l l2) (w0 : World) (j : Nat → Value) (Q : Act → Prop) :
    ∀ a, Agr n a (mk l j) → (∀ a', Agr n a' (mk l2 j) → Q a') → wpQuiet P all (fun w => Has w0 w H M) Q os a := by
  induction h with
  | nil => intro a ha hq; exact hq _ ha
  | yes v hd hw hqt _ ih =>
    intro a ha hq
    unfold wpQuiet
    rw [wantE_ok ha, hw j, if_pos rfl]
    refine ⟨v, fun w hh => ?_, ih _ (by rw [← putl_ok]; exact ha.put _ _ (din_ok hd)) hq⟩
    unfold Oper.quietAt
    rw [ha.eval]
    exact (hqt j).qt w0 w hh
  | no hd hw _ ih =>
    intro a ha hq
    unfold wpQuiet
    rw [wantE_ok ha, hw j, if_neg (by simp)]
    exact ih _ (by rw [← putl_ok]; exact ha.put _ _ (din_ok hd)) hq
theorem QL.still {P : Program} {n : Nat} {all : Array Oper} {H M : Heap} {os : List Oper} {l l2 : List (Nat × Value)} (h : QL P n all H M os l l2) {w0 w : World} (hh : Has w0 w H M) (j : Nat → Value) (Q : Act → Prop) :
    ∀ a, Agr n a (mk l j) → (∀ a', Agr n a' (mk l2 j) → Q a') → wpStill P all w Q os a := by
  induction h with
  | nil => intro a ha hq; exact hq _ ha
  | @yes o os _ _ v hd hw hqt _ ih =>
    intro a ha hq
    unfold wpStill
    rw [wantE_ok ha, hw j, if_pos rfl]
    unfold Oper.still
    rw [ha.eval, hqt j w0 w hh]
    exact ⟨rfl, ih _ (by rw [← putl_ok]; exact ha.put _ _ (din_ok hd)) hq⟩
  | no hd hw _ ih =>
    intro a ha hq
    unfold wpStill
    rw [wantE_ok ha, hw j, if_neg (by simp)]
    exact ih _ (by rw [← putl_ok]; exact ha.put _ _ (din_ok hd)) hq
/-- a region's tail, one operation behind the other -/
def TL (P : Program) (n : Nat) (all : Array Oper) (ops : List Oper) (l : List (Nat × Value)) (H M : Heap) (K : List (Nat × Value) → Heap → Heap → Prop) : Prop :=
  ∀ j w0 w a, Has w0 w H M → Agr n a (mk l j) → wpList P all (fun e a' w' => e = .normal ∧ ∃ l' H' M', Agr n a' (mk l' j) ∧ Has w0 w' H' M' ∧ K l' H' M') ops a w
section
variable {P : Program} {n : Nat} {all : Array Oper} {l : List (Nat × Value)} {H M : Heap} {K : List (Nat × Value) → Heap → Heap → Prop} {o : Oper} {rest : List Oper}
theorem tl_nil (h : K l H M) : TL P n all [] l H M K := fun _ _ _ _ hh ha => ⟨rfl, l, H, M, ha, hh, h⟩
theorem tl_hm (hd : din n o.dst = true) (hw : ∀ j, wantE o all (mk l j) = true)
    (h : ∀ j, hm P (execOp (ev (mk l j)) o) H M fun nx H' M' => ∃ v, (nx = .value v ∨ nx = .skip ∧ v = undef) ∧ TL P n all rest (putl l o.dst v) H' M' K) : TL P n all (o :: rest) l H M K := by
  intro j w0 w a hh ha
  obtain ⟨nx, w1, H', M', hrun, h1, v, hnx, hgo⟩ := h j w0 w hh
  unfold wpList
  rw [wantE_ok ha, hw j, if_pos rfl]
  refine .inl ?_
  unfold Oper.wp
  rw [ha.eval, hrun]
  have := hgo j w0 w1 (a.put o.dst v) h1 (by rw [← putl_ok]; exact ha.put _ _ (din_ok hd))
  rcases hnx with rfl | ⟨rfl, rfl⟩
  · exact this
  · exact this
theorem tl_qs (v : Value) (hd : din n o.dst = true) (hw : ∀ j, wantE o all (mk l j) = true) (hq : ∀ j, Qs P o (mk l j) H M v) (h : TL P n all rest (putl l o.dst v) H M K) : TL P n all (o :: rest) l H M K :=
  tl_hm hd hw fun j w0 w hh => ⟨_, w, H, M, hq j w0 w hh, hh, v, .inl rfl, h⟩
end
section
variable {P : Program} {f : FuncId} {n : Nat} {R : Post} {k : List It} {l : List (Nat × Value)} {H M : Heap} {rest : List Oper}
/-- a region that draws: so many operations that look, and then the others, one behind the other -/
theorem run_tail {id : Nat} {ops : List Oper} {l2 : List (Nat × Value)} (m : Nat) (hmx : P.follows .mixedOrders = true) (hB : Region.lexTailB .any ops.toArray m = true)
    (hq : QL P n ops.toArray H M (ops.take m) l l2) (ht : TL P n ops.toArray (ops.drop m) l2 H M (fun l' H' M' => Run P f n R k l' H' M')) : Run P f n R (.code (.region id ops.toArray true) :: k) l H M := by
  intro j w0 w a b cs k' hk hh ha hf hn
  cases hk with
  | @code _ _ k1 hk =>
    have h1 := wp_region_still_tail (P := P) (id := id) (l := ops) (Q := fun e a' w' => e = .normal ∧ ∃ l' H' M', Agr n a' (mk l' j) ∧ Has w0 w' H' M' ∧ Run P f n R k l' H' M') (a := a) (w := w) m hmx hB
      (hq.still hh.drew j _ a ha (fun a' ha' => ht j w0 _ a' hh.drew ha'))
    obtain ⟨e, a', w1, ⟨rfl, l', H', M', ha', hw1, hgo⟩, harr⟩ := h1 b k1 cs
    obtain ⟨v, w', fr, hst, r⟩ := hgo j w0 w1 a' b cs k1 hk hw1 ha' hf hn
    exact ⟨v, w', fr, Steps.trans harr hst, r⟩
theorem run_quiet {id : Nat} {ops : List Oper} {l2 : List (Nat × Value)} (hmx : P.follows .mixedOrders = true) (hB : Region.lexB .any ops.toArray = true)
    (hq : QL P n ops.toArray H M ops l l2) (h : Run P f n R k l2 H M) : Run P f n R (.code (.region id ops.toArray true) :: k) l H M := by
  intro j w0 w a b cs k' hk hh ha hf hn
  cases hk with
  | @code _ _ k1 hk =>
    have h1 := wp_region_quiet (P := P) (C := fun w => Has w0 w H M) (id := id) (ops := ops.toArray) (Q := fun e a' w' => e = .normal ∧ Agr n a' (mk l2 j) ∧ Has w0 w' H M) (a := a) (w := w) hmx hB hh.drew
      (hq.quiet w0 j _ a ha (fun a' ha' w' hw' => ⟨rfl, ha', hw'⟩))
    obtain ⟨e, a', w1, ⟨rfl, ha', hw1⟩, harr⟩ := h1 b k1 cs
    obtain ⟨v, w', fr, hst, r⟩ := h j w0 w1 a' b cs k1 hk hw1 ha' hf hn
    exact ⟨v, w', fr, Steps.trans harr hst, r⟩
end
end Go.Cam
