/- The abstract machine's logic: known blocks (held and owned), the rules of control and of operations. -/
import Derived.Calls
import Derived.Below
import Derived.KernelRfl
import Derived.Deep.Quiet
import Derived.StillTail
namespace Go.Cam
abbrev Heap := Nat → Option Obj
def upd (M : Heap) (b : Nat) (o : Obj) : Heap := fun c => if c = b then some o else M c
def del (M : Heap) (b : Nat) : Heap := fun c => if c = b then none else M c
theorem upd_same (M : Heap) (b : Nat) (o : Obj) : upd M b o b = some o := by simp [upd]
theorem upd_ne {M : Heap} {b c : Nat} {o : Obj} (h : c ≠ b) : upd M b o c = M c := by simp [upd, h]
theorem del_ne {M : Heap} {b c : Nat} (h : c ≠ b) : del M b c = M c := by simp [del, h]

structure Has (w0 w : World) (H M : Heap) : Prop where
  os : w.os = w0.os
  tape : w.tape = w0.tape
  output : w.output = w0.output
  size : w0.heap.size ≤ w.heap.size
  h : ∀ b o, H b = some o → w.heap[b]? = some o
  m : ∀ b o, M b = some o → w.heap[b]? = some o
  d : ∀ b, H b ≠ none → M b = none

/-- what (H, M) say, (H2, M2) say -/
def Sub (H M H2 M2 : Heap) : Prop := ∀ w0 w, Has w0 w H M → Has w0 w H2 M2
theorem Sub.refl (H M : Heap) : Sub H M H M := fun _ _ h => h
theorem Sub.trans {H M H2 M2 H3 M3 : Heap} (a : Sub H M H2 M2) (b : Sub H2 M2 H3 M3) : Sub H M H3 M3 := fun _ _ h => b _ _ (a _ _ h)
theorem Sub.freeze {H M : Heap} {b : Nat} {o : Obj} (hb : M b = some o) : Sub H M (upd H b o) (del M b) := by
  intro w0 w h
  refine ⟨h.os, h.tape, h.output, h.size, ?_, ?_, ?_⟩
  · intro c o' hc
    by_cases e : c = b
    · subst e; rw [upd_same] at hc; cases hc; exact h.m _ _ hb
    · rw [upd_ne e] at hc; exact h.h _ _ hc
  · intro c o' hc
    by_cases e : c = b
    · subst e; simp [del] at hc
    · rw [del_ne e] at hc; exact h.m _ _ hc
  · intro c hc
    by_cases e : c = b
    · subst e; simp [del]
    · rw [upd_ne e] at hc; rw [del_ne e]; exact h.d _ hc
/-- the blocks' marks of freshness -/
def Fresh (H M : Heap) (r : Nat) : Prop := H r = none ∧ M r = none
theorem Has.fresh {w0 w : World} {H M : Heap} (h : Has w0 w H M) : Fresh H M w.heap.size := by
  constructor
  · cases e : H w.heap.size with
    | none => rfl
    | some o => have := h.h _ _ e; simp at this
  · cases e : M w.heap.size with
    | none => rfl
    | some o => have := h.m _ _ e; simp at this
theorem Has.push {w0 w : World} {H M : Heap} (h : Has w0 w H M) (o : Obj) :
    Has w0 { w with heap := w.heap.push o } H (upd M w.heap.size o) := by
  refine ⟨h.os, h.tape, h.output, by simp; have := h.size; omega, ?_, ?_, ?_⟩
  · intro b o' hb
    have h1 := h.h _ _ hb
    have : b < w.heap.size := by
      rcases Nat.lt_or_ge b w.heap.size with hl | hl
      · exact hl
      · rw [Array.getElem?_eq_none hl] at h1; cases h1
    show (w.heap.push o)[b]? = _
    rw [Array.getElem?_push, if_neg (Nat.ne_of_lt this)]; exact h1
  · intro b o' hb
    by_cases e : b = w.heap.size
    · subst e; rw [upd_same] at hb; cases hb; show (w.heap.push o)[w.heap.size]? = _; simp
    · rw [upd_ne e] at hb
      have h1 := h.m _ _ hb
      show (w.heap.push o)[b]? = _
      rw [Array.getElem?_push, if_neg e]; exact h1
  · intro b hb
    have e : b ≠ w.heap.size := fun e => hb (e ▸ h.fresh.1)
    rw [upd_ne e]; exact h.d _ hb
theorem Has.modify {w0 w : World} {H M : Heap} (h : Has w0 w H M) {b : Nat} {o : Obj} (hb : M b = some o) (f : Obj → Obj) :
    Has w0 { w with heap := w.heap.modify b f } H (upd M b (f o)) := by
  refine ⟨h.os, h.tape, h.output, by simp; exact h.size, ?_, ?_, ?_⟩
  · intro c o' hc
    have e : b ≠ c := fun e => by subst e; have := h.d b (by simp [hc]); rw [hb] at this; cases this
    show (w.heap.modify b f)[c]? = _
    rw [Array.getElem?_modify, if_neg e]; exact h.h _ _ hc
  · intro c o' hc
    show (w.heap.modify b f)[c]? = _
    by_cases e : c = b
    · subst e; rw [upd_same] at hc; cases hc; rw [Array.getElem?_modify, if_pos rfl, h.m _ _ hb]; rfl
    · rw [upd_ne e] at hc
      rw [Array.getElem?_modify, if_neg (fun e' => e e'.symm)]; exact h.m _ _ hc
  · intro c hc
    by_cases e : c = b
    · subst e; have := h.d c hc; rw [hb] at this; cases this
    · rw [upd_ne e]; exact h.d _ hc
theorem Has.set {w0 w : World} {H M : Heap} (h : Has w0 w H M) {b : Nat} {o : Obj} (hb : M b = some o) (o2 : Obj) :
    Has w0 { w with heap := w.heap.setIfInBounds b o2 } H (upd M b o2) := by
  have hlt : b < w.heap.size := by
    have h1 := h.m _ _ hb
    rcases Nat.lt_or_ge b w.heap.size with hl | hl
    · exact hl
    · rw [Array.getElem?_eq_none hl] at h1; cases h1
  refine ⟨h.os, h.tape, h.output, by simp; exact h.size, ?_, ?_, ?_⟩
  · intro c o' hc
    have e : b ≠ c := fun e => by subst e; have := h.d b (by simp [hc]); rw [hb] at this; cases this
    show (w.heap.setIfInBounds b o2)[c]? = _
    rw [Array.getElem?_setIfInBounds, if_neg e]; exact h.h _ _ hc
  · intro c o' hc
    show (w.heap.setIfInBounds b o2)[c]? = _
    by_cases e : c = b
    · subst e; rw [upd_same] at hc; cases hc; rw [Array.getElem?_setIfInBounds, if_pos rfl, if_pos hlt]
    · rw [upd_ne e] at hc
      rw [Array.getElem?_setIfInBounds, if_neg (fun e' => e e'.symm)]; exact h.m _ _ hc
  · intro c hc
    by_cases e : c = b
    · subst e; have := h.d c hc; rw [hb] at this; cases this
    · rw [upd_ne e]; exact h.d _ hc
theorem Has.drew {w0 w : World} {H M : Heap} (h : Has w0 w H M) : Has w0 { w with drawn := w.drawn + 1 } H M :=
  ⟨h.os, h.tape, h.output, h.size, h.h, h.m, h.d⟩

/-- WP of the model's programs of one operation, over known blocks -/
def hm {α : Type} (P : Program) (e : Sem α) (H M : Heap) (K : α → Heap → Heap → Prop) : Prop :=
  ∀ w0 w, Has w0 w H M → ∃ a w' H' M', e.run P w = .ok a w' ∧ Has w0 w' H' M' ∧ K a H' M'
section
variable {α β : Type} {P : Program} {H M : Heap}
theorem hm_run_bind (e : Sem α) (f : α → Sem β) (w : World) {a : α} {w' : World} (h : e.run P w = .ok a w') :
    (e >>= f).run P w = (f a).run P w' := by
  show (e.bind f).run P w = _
  induction e generalizing w with
  | pure x => simp [Sem.run] at h; obtain ⟨rfl, rfl⟩ := h; rfl
  | load m ad k ih =>
    simp only [Sem.run, Sem.bind] at h ⊢
    split
    · rename_i v hv; rw [hv] at h; exact ih _ _ h
    · rename_i hv; rw [hv] at h
      simp only at h ⊢
      split
      · rename_i v l hl; rw [hl] at h; exact ih _ _ h
      · rename_i hl; rw [hl] at h; cases h
  | store m ad v k ih =>
    cases v
    case agg => simp [Sem.run] at h
    case tuple => simp [Sem.run] at h
    all_goals
      simp only [Sem.run, Sem.bind] at h ⊢
      split
      · rename_i v hv; rw [hv] at h
        simp only at h
        split
        · rename_i hf; rw [if_pos hf] at h; cases h
        · rename_i hf; rw [if_neg hf] at h; exact ih _ h
      · rename_i hv; rw [hv] at h
        simp only at h
        split
        · rename_i w1 l hl; rw [hl] at h; exact ih _ h
        · rename_i hl; rw [hl] at h; cases h
  | new o k ih => simp only [Sem.run, Sem.bind] at h ⊢; exact ih _ _ h
  | shape r k ih => simp only [Sem.run, Sem.bind] at h ⊢; exact ih _ _ h
  | freeze ad n k ih => simp only [Sem.run, Sem.bind] at h ⊢; exact ih _ h
  | frozen ad k ih => simp only [Sem.run, Sem.bind] at h ⊢; exact ih _ _ h
  | getObj r k ih =>
    simp only [Sem.run, Sem.bind] at h ⊢
    split <;> rename_i hv <;> rw [hv] at h <;> simp only at h
    · cases h
    · exact ih _ _ h
    · cases h
  | setObj r o k ih =>
    simp only [Sem.run, Sem.bind] at h ⊢
    split <;> rename_i hv <;> rw [hv] at h <;> simp only at h
    · cases h
    · exact ih _ h
    · cases h
  | choose q k ih =>
    simp only [Sem.run, Sem.bind] at h ⊢
    split
    · rename_i hq; rw [if_pos hq] at h; exact ih _ _ h
    · rename_i hq; rw [if_neg hq] at h; exact ih _ _ h
  | sys c k ih => simp only [Sem.run, Sem.bind] at h ⊢; exact ih _ _ h
  | program k ih => simp only [Sem.run, Sem.bind] at h ⊢; exact ih _ _ h
  | mark mk k ih => simp only [Sem.run, Sem.bind] at h ⊢; exact ih _ h
  | halt x => simp [Sem.run] at h
theorem hm_bind {e : Sem α} {f : α → Sem β} {K : β → Heap → Heap → Prop}
    (h : hm P e H M (fun a H' M' => hm P (f a) H' M' K)) : hm P (e >>= f) H M K := by
  intro w0 w hw
  obtain ⟨a, w1, H1, M1, hr, h1, hk⟩ := h w0 w hw
  obtain ⟨b, w2, H2, M2, hr2, h2, hk2⟩ := hk w0 w1 h1
  exact ⟨b, w2, H2, M2, by rw [hm_run_bind _ _ _ hr, hr2], h2, hk2⟩
theorem hm_pure {a : α} {K : α → Heap → Heap → Prop} (h : K a H M) : hm P (pure a) H M K :=
  fun _ w hw => ⟨a, w, H, M, rfl, hw, h⟩
theorem hm_mono {e : Sem α} {K K' : α → Heap → Heap → Prop} (h : hm P e H M K) (hk : ∀ a H' M', K a H' M' → K' a H' M') : hm P e H M K' := by
  intro w0 w hw
  obtain ⟨a, w1, H1, M1, hr, h1, hq⟩ := h w0 w hw
  exact ⟨a, w1, H1, M1, hr, h1, hk _ _ _ hq⟩
/-- what a block is known to hold -/
def Kn (H M : Heap) (b : Nat) (o : Obj) : Prop := M b = some o ∨ H b = some o
theorem Has.look {w0 w : World} (h : Has w0 w H M) {b : Nat} {o : Obj} (hb : Kn H M b o) : w.heap[b]? = some o :=
  hb.elim (h.m _ _) (h.h _ _)
/-- a program that looks at no world -/
def cst (P : Program) : Sem α → Option α
  | .pure a => some a
  | .program k => cst P (k P)
  | .mark _ k => cst P k
  | _ => none
theorem cst_run : ∀ (e : Sem α) {a : α}, cst P e = some a → ∀ w, e.run P w = .ok a w
  | .pure x, a, h, w => by simp only [cst, Option.some.injEq] at h; subst h; rfl
  | .program k, a, h, w => by simp only [Sem.run]; exact cst_run (k P) h w
  | .mark m k, a, h, w => by simp only [Sem.run]; exact cst_run k h w
  | .load .., a, h, w | .store .., a, h, w | .new .., a, h, w | .shape .., a, h, w | .freeze .., a, h, w | .frozen .., a, h, w
  | .getObj .., a, h, w | .setObj .., a, h, w | .choose .., a, h, w | .sys .., a, h, w | .halt _, a, h, w => by simp [cst] at h
theorem hm_cst {e : Sem α} {a : α} {K : α → Heap → Heap → Prop} (hc : cst P e = some a) (h : K a H M) : hm P e H M K :=
  fun _ w hw => ⟨a, w, H, M, cst_run e hc w, hw, h⟩
end

/-- the frame, as a row of known slots over unknown ones -/
def mk : List (Nat × Value) → (Nat → Value) → Nat → Value
  | [], j, t => j t
  | (s, v) :: r, j, t => bif Nat.beq s t then v else mk r j t
def ev (e : Nat → Value) : Operand → Value
  | .tmp t => e t
  | .const v => v
  | .global g => .pointer (some ⟨g, 0, none⟩)
  | .func f => .func (.func f) #[] #[]
def Agr (n : Nat) (a : Act) (e : Nat → Value) : Prop := a.tmps.size = n ∧ a.defers = [] ∧ ∀ t, a.tmps.getD t undef = e t
theorem Agr.eval {n : Nat} {a : Act} {e : Nat → Value} (h : Agr n a e) : a.eval = ev e := by
  funext x; cases x with
  | tmp t => exact h.2.2 t
  | const v => rfl
  | global g => rfl
  | func f => rfl
def put (e : Nat → Value) (d : Option Nat) (v : Value) : Nat → Value := match d with
  | some s => fun t => bif Nat.beq s t then v else e t
  | none => e
theorem beq_no {s t : Nat} (h : ¬ s = t) : Nat.beq s t = false := by
  cases e : Nat.beq s t with
  | false => rfl
  | true => exact absurd (Nat.eq_of_beq_eq_true e) h
theorem Agr.put {n : Nat} {a : Act} {e : Nat → Value} (h : Agr n a e) (d : Option Nat) (v : Value) (hd : ∀ s, d = some s → s < n) : Agr n (a.put d v) (put e d v) := by
  cases d with
  | none => exact h
  | some s =>
    refine ⟨by simp [Act.put, h.1], by simp [Act.put, h.2.1], fun t => ?_⟩
    have hs : s < a.tmps.size := h.1 ▸ hd s rfl
    show (a.tmps.setIfInBounds s v).getD t undef = _
    simp only [Cam.put]
    by_cases e' : s = t
    · subst e'; simp [Array.getD_eq_getD_getElem?, hs]
    · have : Nat.beq s t = false := beq_no e'
      rw [this, cond_false, ← h.2.2 t]
      simp [Array.getD_eq_getD_getElem?, e']

/-- what is still to be done -/
inductive It where
  | code (c : Code)
  | inBlock (id : Nat)
  | inLoop (c : Code)
  | ops (all : Array Oper) (rest : List Oper)
inductive Stk : List It → List Item → Prop
  | nil : Stk [] []
  | code {c k k'} : Stk k k' → Stk (.code c :: k) (.code c :: k')
  | inBlock {id k k'} : Stk k k' → Stk (.inBlock id :: k) (.inBlock id :: k')
  | inLoop {c k k'} : Stk k k' → Stk (.inLoop c :: k) (.inLoop c :: k')
  | ops {all rest is k k'} : is.map (fun i => all[i]?) = rest.map some → Stk k k' → Stk (.ops all rest :: k) (.inRegion all is :: k')

abbrev Post := Value → Heap → Heap → Prop
def RunE (P : Program) (f : FuncId) (n : Nat) (R : Post) (k : List It) (e : Nat → Value) (H M : Heap) : Prop :=
  ∀ w0 w a (b : Frame) cs k', Stk k k' → Has w0 w H M → Agr n a e → b.fn = f → b.kind = .normal →
    ∃ v w' fr, Steps P (lone (b.at a k') cs w) (lone fr cs w') ∧ fr.fn = f ∧ fr.leaving P w' (.returned v) ∧ ∃ H' M', Has w0 w' H' M' ∧ R v H' M'
def Run (P : Program) (f : FuncId) (n : Nat) (R : Post) (k : List It) (l : List (Nat × Value)) (H M : Heap) : Prop := ∀ j, RunE P f n R k (mk l j) H M

def ACalls (P : Program) (f : FuncId) (args : Array Value) (H M : Heap) (R : Post) : Prop :=
  ∀ w0 w, Has w0 w H M → Calls P f args w fun e w' => ∃ v H' M', e = .returned v ∧ Has w0 w' H' M' ∧ R v H' M'
theorem ACalls.mono {P : Program} {f : FuncId} {args : Array Value} {H M : Heap} {R R' : Post} (h : ACalls P f args H M R)
    (hr : ∀ v H' M', R v H' M' → R' v H' M') : ACalls P f args H M R' :=
  fun w0 w hw => (h w0 w hw).mono fun _ _ ⟨v, H', M', he, hh, hq⟩ => ⟨v, H', M', he, hh, hr _ _ _ hq⟩
theorem ACalls.sub {P : Program} {f : FuncId} {args : Array Value} {H M H2 M2 : Heap} {R : Post} (hs : Sub H M H2 M2) (h : ACalls P f args H2 M2 R) :
    ACalls P f args H M R := fun w0 w hw => h w0 w (hs _ _ hw)

section
variable {P : Program} {f : FuncId} {n : Nat} {R : Post} {k : List It} {l : List (Nat × Value)} {H M : Heap}
theorem Run.sub {H2 M2 : Heap} (hs : Sub H M H2 M2) (h : Run P f n R k l H2 M2) : Run P f n R k l H M :=
  fun j w0 w a b cs k' hk hw ha hf hn => h j w0 w a b cs k' hk (hs _ _ hw) ha hf hn
theorem runE_step {k1 k2 : List It} {e : Nat → Value}
    (hs : ∀ k', Stk k1 k' → ∃ k2', Stk k2 k2' ∧ ∀ (b : Frame) (a : Act) cs w, Agr n a e → step P (lone (b.at a k') cs w) = .next (lone (b.at a k2') cs w))
    (h : RunE P f n R k2 e H M) : RunE P f n R k1 e H M := by
  intro w0 w a b cs k' hk hw ha hf hn
  obtain ⟨k2', hk2, hstep⟩ := hs k' hk
  obtain ⟨v, w', fr, hst, r⟩ := h w0 w a b cs k2' hk2 hw ha hf hn
  exact ⟨v, w', fr, .head (hstep b a cs w ha) hst, r⟩
theorem run_seq {x y : Code} (h : Run P f n R (.code x :: .code y :: k) l H M) : Run P f n R (.code (.seq x y) :: k) l H M :=
  fun j => runE_step (fun k' hk => by cases hk with | code hk => exact ⟨_, .code (.code hk), fun _ _ _ _ _ => step_seq⟩) (h j)
theorem run_skip (h : Run P f n R k l H M) : Run P f n R (.code .skip :: k) l H M :=
  fun j => runE_step (fun k' hk => by cases hk with | code hk => exact ⟨_, hk, fun _ _ _ _ _ => step_skip⟩) (h j)
theorem run_block {id : Nat} {c : Code} (h : Run P f n R (.code c :: .inBlock id :: k) l H M) : Run P f n R (.code (.block id c) :: k) l H M :=
  fun j => runE_step (fun k' hk => by cases hk with | code hk => exact ⟨_, .code (.inBlock hk), fun _ _ _ _ _ => step_block⟩) (h j)
theorem run_inBlock {id : Nat} (h : Run P f n R k l H M) : Run P f n R (.inBlock id :: k) l H M :=
  fun j => runE_step (fun k' hk => by cases hk with | inBlock hk => exact ⟨_, hk, fun _ _ _ _ _ => step_inBlock⟩) (h j)
theorem run_loop {c : Code} (h : Run P f n R (.code c :: .inLoop c :: k) l H M) : Run P f n R (.code (.loop c) :: k) l H M :=
  fun j => runE_step (fun k' hk => by cases hk with | code hk => exact ⟨_, .code (.inLoop hk), fun _ _ _ _ _ => step_loop⟩) (h j)
theorem run_inLoop {c : Code} (h : Run P f n R (.code c :: .inLoop c :: k) l H M) : Run P f n R (.inLoop c :: k) l H M :=
  fun j => runE_step (fun k' hk => by cases hk with | inLoop hk => exact ⟨_, .code (.inLoop hk), fun _ _ _ _ _ => step_inLoop⟩) (h j)
def xto (id : Nat) : List It → Option (List It)
  | .inBlock i :: k => bif Nat.beq i id then some k else xto id k
  | _ :: k => xto id k
  | [] => none
theorem xto_ok {id : Nat} : ∀ {k k' k2}, Stk k k' → xto id k = some k2 → ∃ k2', Stk k2 k2' ∧ exitTo id k' = some k2' := by
  intro k
  induction k with
  | nil => intro k' k2 _ h; simp [xto] at h
  | cons x k ih =>
    intro k' k2 hk h
    cases hk with
    | code hk => obtain ⟨k2', a, b⟩ := ih hk (by simpa [xto] using h); exact ⟨k2', a, by simpa [exitTo] using b⟩
    | inLoop hk => obtain ⟨k2', a, b⟩ := ih hk (by simpa [xto] using h); exact ⟨k2', a, by simpa [exitTo] using b⟩
    | ops _ hk => obtain ⟨k2', a, b⟩ := ih hk (by simpa [xto] using h); exact ⟨k2', a, by simpa [exitTo] using b⟩
    | @inBlock i _ _ hk =>
      by_cases e : i = id
      · subst e
        have : Nat.beq i i = true := by simp
        simp only [xto, this, cond_true, Option.some.injEq] at h
        subst h
        exact ⟨_, hk, by simp [exitTo]⟩
      · have hb : Nat.beq i id = false := beq_no e
        simp only [xto, hb, cond_false] at h
        obtain ⟨k2', a, b⟩ := ih hk h
        exact ⟨k2', a, by simp [exitTo, e, b]⟩
theorem run_exit {id : Nat} {k2 : List It} (hx : xto id k = some k2) (h : Run P f n R k2 l H M) : Run P f n R (.code (.exit id) :: k) l H M :=
  fun j => runE_step (fun k' hk => by
    cases hk with
    | code hk =>
      obtain ⟨k2', hk2, he⟩ := xto_ok hk hx
      exact ⟨k2', hk2, fun _ _ _ _ _ => step_exit he⟩) (h j)
theorem run_cond {c : Operand} {x y : Code} (t : Bool) (hc : ∀ j, ev (mk l j) c = .bool t)
    (ht : t = true → Run P f n R (.code x :: k) l H M) (hf : t = false → Run P f n R (.code y :: k) l H M) : Run P f n R (.code (.cond c x y) :: k) l H M := by
  intro j
  cases t with
  | true =>
    exact runE_step (fun k' hk => by
      cases hk with
      | code hk => exact ⟨_, .code hk, fun b a cs w ha => by have := step_cond (P := P) (b := b) (k := ‹_›) (cs := cs) (w := w) (x := x) (y := y) (a := a) (c := c) (t := true) (by rw [ha.eval, hc j]); simpa using this⟩) (ht rfl j)
  | false =>
    exact runE_step (fun k' hk => by
      cases hk with
      | code hk => exact ⟨_, .code hk, fun b a cs w ha => by have := step_cond (P := P) (b := b) (k := ‹_›) (cs := cs) (w := w) (x := x) (y := y) (a := a) (c := c) (t := false) (by rw [ha.eval, hc j]); simpa using this⟩) (hf rfl j)
theorem map_getElem?_range (ops : Array Oper) : (List.range ops.size).map (fun i => ops[i]?) = ops.toList.map some := by
  apply List.ext_getElem?
  intro i
  simp only [List.getElem?_map]
  rcases Nat.lt_or_ge i ops.size with h | h
  · simp [h]
  · simp [h]
theorem run_region {id : Nat} {ops : List Oper} (h : Run P f n R (.ops ops.toArray ops :: k) l H M) : Run P f n R (.code (.region id ops.toArray false) :: k) l H M :=
  fun j => runE_step (fun k' hk => by
    cases hk with
    | code hk => exact ⟨_, .ops (by simpa using map_getElem?_range ops.toArray) hk, fun _ _ _ _ _ => step_region⟩) (h j)
theorem run_ops_nil {all : Array Oper} (h : Run P f n R k l H M) : Run P f n R (.ops all [] :: k) l H M :=
  fun j => runE_step (fun k' hk => by
    cases hk with
    | @ops _ _ is _ _ hi hk =>
      have : is = [] := by cases is with | nil => rfl | cons _ _ => simp at hi
      subst this
      exact ⟨_, hk, fun _ _ _ _ _ => step_region_end⟩) (h j)
end
end Go.Cam
/- The rules of operations: what looks, what makes memory, what calls. -/
namespace Go.Cam
section
variable {P : Program} {b : Frame} {a : Act} {k : List Item} {cs : List Frame} {w w' : World} {all : Array Oper} {i : Nat} {is : List Nat} {o : Oper}
theorem fin_at (ho : all[i]? = some o) (v : Value) : (b.at a (.inRegion all (i :: is) :: k)).finish v = b.at (a.put o.dst v) (.inRegion all is :: k) := by
  rw [Frame.finish_at, ho]; rfl
theorem op_value (ho : all[i]? = some o) (hw : Region.wanted o (yielded all a.tmps) = true) {v : Value} (hr : (execOp a.eval o).run P w = .ok (.value v) w') :
    step P (lone (b.at a (.inRegion all (i :: is) :: k)) cs w) = .next (lone (b.at (a.put o.dst v) (.inRegion all is :: k)) cs w') := by
  refine step_lone_go ?_
  rw [stepG_op (P := P) (b := b) (k := k) (cs := cs) (w := w) (rest := is) ho hw, ← fin_at (b := b) (a := a) (k := k) (is := is) ho]
  simp [stepG.apply, hr]
theorem op_unit (ho : all[i]? = some o) (hw : Region.wanted o (yielded all a.tmps) = true) (hr : (execOp a.eval o).run P w = .ok .skip w') :
    step P (lone (b.at a (.inRegion all (i :: is) :: k)) cs w) = .next (lone (b.at (a.put o.dst undef) (.inRegion all is :: k)) cs w') := by
  refine step_lone_go ?_
  rw [stepG_op (P := P) (b := b) (k := k) (cs := cs) (w := w) (rest := is) ho hw, ← fin_at (b := b) (a := a) (k := k) (is := is) ho]
  simp [stepG.apply, hr]
theorem op_call (ho : all[i]? = some o) (hw : Region.wanted o (yielded all a.tmps) = true) {f : FuncId} {args : Array Value}
    (hr : (execOp a.eval o).run P w = .ok (.enter f args) w') {R : Ending → World → Prop} (hc : Calls P f args w' R)
    (hR : ∀ e w2, R e w2 → ∃ v, e = .returned v) :
    ∃ v w2, R (.returned v) w2 ∧ Steps P (lone (b.at a (.inRegion all (i :: is) :: k)) cs w) (lone (b.at (a.put o.dst v) (.inRegion all is :: k)) cs w2) := by
  obtain ⟨e, w2, fr, hq, hsteps, _, hleave⟩ := hc (b.at a (.inRegion all (i :: is) :: k) :: cs)
  obtain ⟨v, rfl⟩ := hR _ _ hq
  have henter : step P (lone (b.at a (.inRegion all (i :: is) :: k)) cs w) =
      .next (lone (Frame.enter P f args .normal) (b.at a (.inRegion all (i :: is) :: k) :: cs) w') :=
    step_lone_go (by rw [stepG_op (P := P) (b := b) (k := k) (cs := cs) (w := w) (rest := is) ho hw]; simp [stepG.apply, hr, Frame.at])
  refine ⟨v, w2, hq, .head henter (Steps.trans hsteps (.one ?_))⟩
  rw [← fin_at (b := b) (a := a) (k := k) (is := is) ho]
  exact step_leave_returned hleave
end

def gv (all : Array Oper) (e : Nat → Value) (j : Nat) : Option Bool := match (all[j]?).bind (·.dst) with
  | some d => (match e d with | .bool b => some b | _ => none)
  | none => none
def wantE (o : Oper) (all : Array Oper) (e : Nat → Value) : Bool := match o.guard with
  | none => true
  | some (j, want) => gv all e j == some want
theorem wantE_ok {n : Nat} {a : Act} {e : Nat → Value} (ha : Agr n a e) (o : Oper) (all : Array Oper) : Region.wanted o (yielded all a.tmps) = wantE o all e := by
  unfold Region.wanted wantE
  cases o.guard with
  | none => rfl
  | some g =>
    obtain ⟨j, want⟩ := g
    have : yielded all a.tmps j = gv all e j := by
      unfold yielded gv
      cases (all[j]?).bind (·.dst) with
      | none => rfl
      | some d =>
        simp only [Option.bind_some]
        rw [← ha.2.2 d]
        rcases Nat.lt_or_ge d a.tmps.size with h | h
        · simp only [Array.getElem?_eq_getElem h, Array.getD_eq_getD_getElem?, Option.getD_some]
          cases a.tmps[d] <;> rfl
        · simp [Array.getElem?_eq_none h, undef]
    simp only [this]

def putl (l : List (Nat × Value)) (d : Option Nat) (v : Value) : List (Nat × Value) := match d with | some s => (s, v) :: l | none => l
theorem putl_ok (l : List (Nat × Value)) (d : Option Nat) (v : Value) (j : Nat → Value) : put (mk l j) d v = mk (putl l d v) j := by
  cases d <;> rfl
def din (n : Nat) (d : Option Nat) : Bool := match d with | some s => Nat.blt s n | none => true
theorem din_ok {n : Nat} {d : Option Nat} (h : din n d = true) : ∀ s, d = some s → s < n := by
  intro s hs; subst hs; simpa [din] using h

/-- an operation that looks, and hands back the very world -/
def Qs (P : Program) (o : Oper) (e : Nat → Value) (H M : Heap) (v : Value) : Prop :=
  ∀ w0 w, Has w0 w H M → (execOp (ev e) o).run P w = .ok (.value v) w
/-- an operation that looks, and leaves all as it is -/
def Qt (P : Program) (o : Oper) (e : Nat → Value) (H M : Heap) (v : Value) : Prop :=
  ∀ w0 w, Has w0 w H M → Oper.quietUpon P (fun w' => Has w0 w' H M) w v ((execOp (ev e) o).run P w)

section
variable {P : Program} {f : FuncId} {n : Nat} {R : Post} {k : List It} {l : List (Nat × Value)} {H M : Heap} {all : Array Oper} {o : Oper} {rest : List Oper}
theorem ops_cons {is : List Nat} (h : is.map (fun i => all[i]?) = (o :: rest).map some) : ∃ i is', is = i :: is' ∧ all[i]? = some o ∧ is'.map (fun i => all[i]?) = rest.map some := by
  cases is with
  | nil => simp at h
  | cons i is' => simp only [List.map_cons, List.cons.injEq] at h; exact ⟨i, is', rfl, h.1, h.2⟩
theorem run_qt (v : Value) (hd : din n o.dst = true) (hw : ∀ j, wantE o all (mk l j) = true) (hq : ∀ j, Qt P o (mk l j) H M v)
    (h : Run P f n R (.ops all rest :: k) (putl l o.dst v) H M) : Run P f n R (.ops all (o :: rest) :: k) l H M := by
  intro j w0 w a b cs k' hk hh ha hf hn
  cases hk with
  | ops hi hk =>
    obtain ⟨i, is', rfl, ho, hi'⟩ := ops_cons hi
    have hwa : Region.wanted o (yielded all a.tmps) = true := by rw [wantE_ok ha, hw j]
    have hq' := hq j w0 w hh
    rw [← ha.eval] at hq'
    have hgo : ∀ w2, Has w0 w2 H M → _ := fun w2 h2 => h j w0 w2 (a.put o.dst v) b cs _ (.ops hi' hk) h2 (by rw [← putl_ok]; exact ha.put _ _ (din_ok hd)) hf hn
    cases hrun : (execOp a.eval o).run P w with
    | halt x w1 => rw [hrun] at hq'; exact hq'.elim
    | ok nx w1 =>
      rw [hrun] at hq'
      cases nx with
      | value u =>
        obtain ⟨rfl, rfl⟩ := hq'
        obtain ⟨v', w', fr, hst, r⟩ := hgo _ hh
        exact ⟨v', w', fr, .head (op_value ho hwa hrun) hst, r⟩
      | skip =>
        obtain ⟨rfl, rfl⟩ := hq'
        obtain ⟨v', w', fr, hst, r⟩ := hgo _ hh
        exact ⟨v', w', fr, .head (op_unit ho hwa hrun) hst, r⟩
      | enter f args =>
        obtain ⟨rfl, hc⟩ := hq'
        obtain ⟨v2, w2, ⟨he, h2⟩, hst2⟩ := op_call (b := b) (k := ‹_›) (cs := cs) (is := is') ho hwa hrun hc (fun e w2 ⟨he, _⟩ => ⟨v, he⟩)
        cases he
        obtain ⟨v', w', fr, hst, r⟩ := hgo _ h2
        exact ⟨v', w', fr, hst2.trans hst, r⟩
      | _ => exact hq'.elim
theorem run_no (hd : din n o.dst = true) (hw : ∀ j, wantE o all (mk l j) = false)
    (h : Run P f n R (.ops all rest :: k) (putl l o.dst undef) H M) : Run P f n R (.ops all (o :: rest) :: k) l H M := by
  intro j w0 w a b cs k' hk hh ha hf hn
  cases hk with
  | ops hi hk =>
    obtain ⟨i, is', rfl, ho, hi'⟩ := ops_cons hi
    have hwa : Region.wanted o (yielded all a.tmps) = false := by rw [wantE_ok ha, hw j]
    obtain ⟨v', w', fr, hst, r⟩ := h j w0 w (a.put o.dst undef) b cs _ (.ops hi' hk) hh (by rw [← putl_ok]; exact ha.put _ _ (din_ok hd)) hf hn
    refine ⟨v', w', fr, .head ?_ hst, r⟩
    have := step_op_skip (P := P) (b := b) (a := a) (k := ‹_›) (cs := cs) (w := w) (ops := all) (i := i) (rest := is') (by simp [ho, hwa])
    simpa [ho] using this
theorem run_hm (hd : din n o.dst = true) (hw : ∀ j, wantE o all (mk l j) = true)
    (h : ∀ j, hm P (execOp (ev (mk l j)) o) H M fun nx H' M' => ∃ v, (nx = .value v ∨ nx = .skip ∧ v = undef) ∧ Run P f n R (.ops all rest :: k) (putl l o.dst v) H' M') :
    Run P f n R (.ops all (o :: rest) :: k) l H M := by
  intro j w0 w a b cs k' hk hh ha hf hn
  cases hk with
  | ops hi hk =>
    obtain ⟨i, is', rfl, ho, hi'⟩ := ops_cons hi
    have hwa : Region.wanted o (yielded all a.tmps) = true := by rw [wantE_ok ha, hw j]
    obtain ⟨nx, w1, H', M', hrun, h1, v, hnx, hgo⟩ := h j w0 w hh
    rw [← ha.eval] at hrun
    obtain ⟨v', w', fr, hst, r⟩ := hgo j w0 w1 (a.put o.dst v) b cs _ (.ops hi' hk) h1 (by rw [← putl_ok]; exact ha.put _ _ (din_ok hd)) hf hn
    rcases hnx with rfl | ⟨rfl, rfl⟩
    · exact ⟨v', w', fr, .head (op_value ho hwa hrun) hst, r⟩
    · exact ⟨v', w', fr, .head (op_unit ho hwa hrun) hst, r⟩
theorem run_callo {q : FuncId} {args : Array Value} {R' : Post} (hd : din n o.dst = true) (hw : ∀ j, wantE o all (mk l j) = true)
    (hx : ∀ j, cst P (execOp (ev (mk l j)) o) = some (.enter q args)) (hc : ACalls P q args H M R')
    (h : ∀ v H' M', R' v H' M' → Run P f n R (.ops all rest :: k) (putl l o.dst v) H' M') : Run P f n R (.ops all (o :: rest) :: k) l H M := by
  intro j w0 w a b cs k' hk hh ha hf hn
  cases hk with
  | ops hi hk =>
    obtain ⟨i, is', rfl, ho, hi'⟩ := ops_cons hi
    have hwa : Region.wanted o (yielded all a.tmps) = true := by rw [wantE_ok ha, hw j]
    have hrun : (execOp a.eval o).run P w = .ok (.enter q args) w := by rw [ha.eval]; exact cst_run _ (hx j) w
    obtain ⟨v, w2, ⟨v2, H', M', he, h2, hr⟩, hst2⟩ := op_call (b := b) (k := ‹_›) (cs := cs) (is := is') ho hwa hrun (hc w0 w hh) (fun e w2 ⟨v, _, _, he, _⟩ => ⟨v, he⟩)
    cases he
    obtain ⟨v', w', fr, hst, r⟩ := h v H' M' hr j w0 w2 (a.put o.dst v) b cs _ (.ops hi' hk) h2 (by rw [← putl_ok]; exact ha.put _ _ (din_ok hd)) hf hn
    exact ⟨v', w', fr, hst2.trans hst, r⟩
theorem Qs.qt {P : Program} {o : Oper} {e : Nat → Value} {v : Value} (h : Qs P o e H M v) : Qt P o e H M v := by
  intro w0 w hh
  rw [h w0 w hh]
  exact ⟨rfl, rfl⟩
theorem qt_cst {P : Program} {o : Oper} {e : Nat → Value} {v : Value} (h : cst P (execOp (ev e) o) = some (.value v)) : Qs P o e H M v :=
  fun _ w _ => cst_run _ h w
theorem run_cst (v : Value) (hd : din n o.dst = true) (hw : ∀ j, wantE o all (mk l j) = true) (hv : ∀ j, cst P (execOp (ev (mk l j)) o) = some (.value v))
    (h : Run P f n R (.ops all rest :: k) (putl l o.dst v) H M) : Run P f n R (.ops all (o :: rest) :: k) l H M :=
  run_qt v hd hw (fun j => (qt_cst (hv j)).qt) h
/-- an operation whose guard says yes; one whose guard says no -/
theorem run_y {d : Nat} {op : Op} {ty : TypeId} {pos : String} {af : Array Edge} {g : Option (Nat × Bool)} {v : Value} (hv : ∀ j, cst P (execOp (ev (mk l j)) ⟨some d, op, ty, pos, af, g⟩) = some (.value v)) (hd : Nat.blt d n = true)
    (hw : ∀ j, wantE ⟨some d, op, ty, pos, af, g⟩ all (mk l j) = true) (h : Run P f n R (.ops all rest :: k) ((d, v) :: l) H M) : Run P f n R (.ops all (⟨some d, op, ty, pos, af, g⟩ :: rest) :: k) l H M :=
  run_cst v hd hw hv h
/-- a pure operation without a guard -/
theorem run_p {d : Nat} {op : Op} {ty : TypeId} {pos : String} {af : Array Edge} {v : Value} (hv : ∀ j, cst P (execOp (ev (mk l j)) ⟨some d, op, ty, pos, af, none⟩) = some (.value v)) (hd : Nat.blt d n = true)
    (h : Run P f n R (.ops all rest :: k) ((d, v) :: l) H M) : Run P f n R (.ops all (⟨some d, op, ty, pos, af, none⟩ :: rest) :: k) l H M :=
  run_cst v hd (fun _ => rfl) hv h

def resL (e : Nat → Value) : List ResultVar → Sem (List Value)
  | [] => pure []
  | .tmp t :: r => do let vs ← resL e r; pure (e t :: vs)
  | .cell a t :: r => do let v ← (asAddr (e a) >>= fun x => loadVar t x); let vs ← resL e r; pure (v :: vs)
def resE (fn : Func) (e : Nat → Value) : Sem Value := do
  let vs ← resL e fn.results.toList
  match vs with
  | [v] => pure v
  | vs => pure (.tuple vs.toArray)
theorem sem_bind_assoc {α β γ : Type} (s : Sem α) (f : α → Sem β) (g : β → Sem γ) : (s >>= f) >>= g = s >>= fun a => f a >>= g := by
  show (s.bind f).bind g = s.bind fun a => (f a).bind g
  induction s with
  | pure a => rfl
  | load m a k ih => simp only [Sem.bind]; congr 1; funext v; exact ih v
  | store m a v k ih => simp only [Sem.bind]; congr 1
  | new o k ih => simp only [Sem.bind]; congr 1; funext v; exact ih v
  | shape r k ih => simp only [Sem.bind]; congr 1; funext v; exact ih v
  | freeze a n k ih => simp only [Sem.bind]; congr 1
  | frozen a k ih => simp only [Sem.bind]; congr 1; funext v; exact ih v
  | getObj r k ih => simp only [Sem.bind]; congr 1; funext v; exact ih v
  | setObj r o k ih => simp only [Sem.bind]; congr 1
  | choose q k ih => simp only [Sem.bind]; congr 1; funext v; exact ih v
  | sys c k ih => simp only [Sem.bind]; congr 1; funext v; exact ih v
  | program k ih => simp only [Sem.bind]; congr 1; funext v; exact ih v
  | mark m k ih => simp only [Sem.bind]; congr 1
  | halt h => rfl
instance : LawfulMonad Sem := LawfulMonad.mk' Sem
  (id_map := fun s => by
    show s.bind (fun a => Sem.pure a) = s
    induction s with
    | pure a => rfl
    | load m a k ih => simp only [Sem.bind]; congr 1; funext v; exact ih v
    | store m a v k ih => simp only [Sem.bind]; congr 1
    | new o k ih => simp only [Sem.bind]; congr 1; funext v; exact ih v
    | shape r k ih => simp only [Sem.bind]; congr 1; funext v; exact ih v
    | freeze a n k ih => simp only [Sem.bind]; congr 1
    | frozen a k ih => simp only [Sem.bind]; congr 1; funext v; exact ih v
    | getObj r k ih => simp only [Sem.bind]; congr 1; funext v; exact ih v
    | setObj r o k ih => simp only [Sem.bind]; congr 1
    | choose q k ih => simp only [Sem.bind]; congr 1; funext v; exact ih v
    | sys c k ih => simp only [Sem.bind]; congr 1; funext v; exact ih v
    | program k ih => simp only [Sem.bind]; congr 1; funext v; exact ih v
    | mark m k ih => simp only [Sem.bind]; congr 1
    | halt h => rfl)
  (pure_bind := fun _ _ => rfl)
  (bind_assoc := sem_bind_assoc)
theorem resL_ok (e : Nat → Value) (f : ResultVar → Sem Value) (hf : f = fun | .tmp t => pure (e t) | .cell a t => (asAddr (e a) >>= fun x => loadVar t x)) :
    ∀ l : List ResultVar, l.mapM f = resL e l
  | [] => by simp [resL]
  | .tmp t :: r => by rw [List.mapM_cons, resL_ok e f hf r, hf]; simp [resL]
  | .cell a t :: r => by rw [List.mapM_cons, resL_ok e f hf r, hf]; simp [resL]
theorem resE_ok {n : Nat} {a : Act} {e : Nat → Value} (ha : Agr n a e) (fn : Func) : results fn a.tmps = resE fn e := by
  have : e = fun t => a.tmps.getD t undef := funext fun t => (ha.2.2 t).symm
  subst this
  unfold results resE
  rw [← resL_ok _ _ rfl, Array.mapM_eq_mapM_toList]
  simp only [map_eq_pure_bind, bind_assoc, pure_bind]
  congr 1
  funext vs
  match vs with
  | [] => rfl
  | [v] => rfl
  | _ :: _ :: _ => rfl
theorem run_ret {fn : Func} {v : Value} (hf : P.funcs[f]? = some fn) (hr : ∀ j w0 w, Has w0 w H M → (resE fn (mk l j)).run P w = .ok v w) (hR : R v H M) :
    Run P f n R (.code .ret :: k) l H M := by
  intro j w0 w a b cs k' hk hh ha hbf hn
  cases hk with
  | code hk =>
    refine ⟨v, w, _, .one step_ret, hbf, ⟨rfl, ha.2.1, hn, fn, by simpa [Frame.at, hbf] using hf, ?_⟩, H, M, hh, hR⟩
    show (results fn a.tmps).run P w = _
    rw [resE_ok ha]; exact hr j w0 w hh
theorem run_end {fn : Func} {v : Value} (hf : P.funcs[f]? = some fn) (hr : ∀ j w0 w, Has w0 w H M → (resE fn (mk l j)).run P w = .ok v w) (hR : R v H M) :
    Run P f n R [] l H M := by
  intro j w0 w a b cs k' hk hh ha hbf hn
  cases hk with
  | nil =>
    refine ⟨v, w, _, .one step_end, hbf, ⟨rfl, ha.2.1, hn, fn, by simpa [Frame.at, hbf] using hf, ?_⟩, H, M, hh, hR⟩
    show (results fn a.tmps).run P w = _
    rw [resE_ok ha]; exact hr j w0 w hh
def zipArgs (i : Nat) : List Value → List (Nat × Value)
  | [] => []
  | v :: r => (i, v) :: zipArgs (i + 1) r
theorem zipArgs_get (j : Nat → Value) : ∀ (vs : List Value) (i t : Nat), mk (zipArgs i vs) j t = if i ≤ t then (vs[t - i]?).getD (j t) else j t
  | [], i, t => by simp [zipArgs, mk]
  | v :: r, i, t => by
    simp only [zipArgs, mk]
    by_cases e : i = t
    · subst e; simp
    · rw [beq_no e, cond_false, zipArgs_get j r (i + 1) t]
      by_cases h : i ≤ t
      · have h1 : i + 1 ≤ t := by omega
        have h2 : t - i = (t - (i + 1)) + 1 := by omega
        rw [if_pos h, if_pos h1, h2, List.getElem?_cons_succ]
      · rw [if_neg h, if_neg (by omega)]
theorem enter {P : Program} {f : FuncId} {fn : Func} {c : Code} {args : List Value} {n : Nat} (hf : P.funcs[f]? = some fn) (hb : fn.body = some c) (hn : fn.ntmps = n) (hl : args.length ≤ n)
    (h : Run P f n R [.code c] (zipArgs 0 args) H M) : ACalls P f args.toArray H M R := by
  intro w0 w hw cs
  let b : Frame := { (default : Frame) with fn := f, kind := .normal }
  have henter : Frame.enter P f args.toArray .normal =
      b.at { tmps := args.toArray ++ Array.replicate (fn.ntmps - args.toArray.size) undef, defers := [] } [.code c] := by
    simp [Frame.enter, Frame.at, hf, hb, b]
  have ha : Agr n { tmps := args.toArray ++ Array.replicate (fn.ntmps - args.toArray.size) undef, defers := [] } (mk (zipArgs 0 args) fun _ => undef) := by
    refine ⟨by simp; omega, rfl, fun t => ?_⟩
    rw [zipArgs_get]
    simp only [Nat.zero_le, if_true, Nat.sub_zero, Array.getD_eq_getD_getElem?]
    rcases Nat.lt_or_ge t args.length with h1 | h1
    · rw [Array.getElem?_append_left (by simpa using h1)]; simp [h1]
    · rw [Array.getElem?_append_right (by simpa using h1), List.getElem?_eq_none h1]
      rw [Array.getElem?_replicate]
      split <;> rfl
  obtain ⟨v, w', fr, hst, hfn, hleave, H', M', hh, hR⟩ := h (fun _ => undef) w0 w _ b cs _ (.code .nil) hw ha rfl rfl
  rw [← henter] at hst
  exact ⟨.returned v, w', fr, ⟨v, H', M', rfl, hh, hR⟩, hst, hfn, hleave⟩
end

section
variable {P : Program} {n : Nat} {all : Array Oper} {l : List (Nat × Value)} {H M : Heap} {K : List (Nat × Value) → Heap → Heap → Prop} {o : Oper} {rest : List Oper}
end
section
variable {P : Program} {f : FuncId} {n : Nat} {R : Post} {k : List It} {l : List (Nat × Value)} {H M : Heap} {rest : List Oper}
end
end Go.Cam
