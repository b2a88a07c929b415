/- The abstract machine's logic: known blocks (held and owned), the rules of control and of operations. -/
import Derived.Calls
import Derived.Below
import Derived.KernelRfl
namespace Go.Cam
abbrev Heap := Nat → Option Obj
def upd (M : Heap) (b : Nat) (o : Obj) : Heap := fun c => if c = b then some o else M c
def del (M : Heap) (b : Nat) : Heap := fun c => if c = b then none else M c
theorem upd_same (M : Heap) (b : Nat) (o : Obj) : upd M b o b = some o := by simp [upd]
theorem upd_ne {M : Heap} {b c : Nat} {o : Obj} (h : c ≠ b) : upd M b o c = M c := by simp [upd, h]
theorem del_ne {M : Heap} {b c : Nat} (h : c ≠ b) : del M b c = M c := by simp [del, h]

structure Has (w0 w : World) (H M : Heap) : Prop where
  os : w.os = w0.os
  tape : w.tape = w0.tape
  output : w.output = w0.output
  size : w0.heap.size ≤ w.heap.size
  h : ∀ b o, H b = some o → w.heap[b]? = some o
  m : ∀ b o, M b = some o → w.heap[b]? = some o
  d : ∀ b, H b ≠ none → M b = none

/-- what (H, M) say, (H2, M2) say -/
def Sub (H M H2 M2 : Heap) : Prop := ∀ w0 w, Has w0 w H M → Has w0 w H2 M2
theorem Sub.refl (H M : Heap) : Sub H M H M := fun _ _ h => h
theorem Sub.trans {H M H2 M2 H3 M3 : Heap} (a : Sub H M H2 M2) (b : Sub H2 M2 H3 M3) : Sub H M H3 M3 := fun _ _ h => b _ _ (a _ _ h)
theorem Sub.freeze {H M : Heap} {b : Nat} {o : Obj} (hb : M b = some o) : Sub H M (upd H b o) (del M b) := by
  intro w0 w h
  refine ⟨h.os, h.tape, h.output, h.size, ?_, ?_, ?_⟩
  · intro c o' hc
    by_cases e : c = b
    · subst e; rw [upd_same] at hc; cases hc; exact h.m _ _ hb
    · rw [upd_ne e] at hc; exact h.h _ _ hc
  · intro c o' hc
    by_cases e : c = b
    · subst e; simp [del] at hc
    · rw [del_ne e] at hc; exact h.m _ _ hc
  · intro c hc
    by_cases e : c = b
    · subst e; simp [del]
    · rw [upd_ne e] at hc; rw [del_ne e]; exact h.d _ hc
/-- owned blocks may be forgotten -/
theorem Sub.less {H M M2 : Heap} (hm : ∀ b o, M2 b = some o → M b = some o) : Sub H M H M2 := by
  intro w0 w h
  refine ⟨h.os, h.tape, h.output, h.size, h.h, fun b o hb => h.m _ _ (hm _ _ hb), fun b hb => ?_⟩
  have := h.d b hb
  cases e : M2 b with
  | none => rfl
  | some o => rw [hm _ _ e] at this; cases this

/-- the blocks' marks of freshness -/
def Fresh (H M : Heap) (r : Nat) : Prop := H r = none ∧ M r = none
theorem Has.fresh {w0 w : World} {H M : Heap} (h : Has w0 w H M) : Fresh H M w.heap.size := by
  constructor
  · cases e : H w.heap.size with
    | none => rfl
    | some o => have := h.h _ _ e; simp at this
  · cases e : M w.heap.size with
    | none => rfl
    | some o => have := h.m _ _ e; simp at this
theorem Has.push {w0 w : World} {H M : Heap} (h : Has w0 w H M) (o : Obj) :
    Has w0 { w with heap := w.heap.push o } H (upd M w.heap.size o) := by
  refine ⟨h.os, h.tape, h.output, by simp; have := h.size; omega, ?_, ?_, ?_⟩
  · intro b o' hb
    have h1 := h.h _ _ hb
    have : b < w.heap.size := by
      rcases Nat.lt_or_ge b w.heap.size with hl | hl
      · exact hl
      · rw [Array.getElem?_eq_none hl] at h1; cases h1
    show (w.heap.push o)[b]? = _
    rw [Array.getElem?_push, if_neg (Nat.ne_of_lt this)]; exact h1
  · intro b o' hb
    by_cases e : b = w.heap.size
    · subst e; rw [upd_same] at hb; cases hb; show (w.heap.push o)[w.heap.size]? = _; simp
    · rw [upd_ne e] at hb
      have h1 := h.m _ _ hb
      show (w.heap.push o)[b]? = _
      rw [Array.getElem?_push, if_neg e]; exact h1
  · intro b hb
    have e : b ≠ w.heap.size := fun e => hb (e ▸ h.fresh.1)
    rw [upd_ne e]; exact h.d _ hb
theorem Has.modify {w0 w : World} {H M : Heap} (h : Has w0 w H M) {b : Nat} {o : Obj} (hb : M b = some o) (f : Obj → Obj) :
    Has w0 { w with heap := w.heap.modify b f } H (upd M b (f o)) := by
  refine ⟨h.os, h.tape, h.output, by simp; exact h.size, ?_, ?_, ?_⟩
  · intro c o' hc
    have e : b ≠ c := fun e => by subst e; have := h.d b (by simp [hc]); rw [hb] at this; cases this
    show (w.heap.modify b f)[c]? = _
    rw [Array.getElem?_modify, if_neg e]; exact h.h _ _ hc
  · intro c o' hc
    show (w.heap.modify b f)[c]? = _
    by_cases e : c = b
    · subst e; rw [upd_same] at hc; cases hc; rw [Array.getElem?_modify, if_pos rfl, h.m _ _ hb]; rfl
    · rw [upd_ne e] at hc
      rw [Array.getElem?_modify, if_neg (fun e' => e e'.symm)]; exact h.m _ _ hc
  · intro c hc
    by_cases e : c = b
    · subst e; have := h.d c hc; rw [hb] at this; cases this
    · rw [upd_ne e]; exact h.d _ hc
theorem Has.set {w0 w : World} {H M : Heap} (h : Has w0 w H M) {b : Nat} {o : Obj} (hb : M b = some o) (o2 : Obj) :
    Has w0 { w with heap := w.heap.setIfInBounds b o2 } H (upd M b o2) := by
  have hlt : b < w.heap.size := by
    have h1 := h.m _ _ hb
    rcases Nat.lt_or_ge b w.heap.size with hl | hl
    · exact hl
    · rw [Array.getElem?_eq_none hl] at h1; cases h1
  refine ⟨h.os, h.tape, h.output, by simp; exact h.size, ?_, ?_, ?_⟩
  · intro c o' hc
    have e : b ≠ c := fun e => by subst e; have := h.d b (by simp [hc]); rw [hb] at this; cases this
    show (w.heap.setIfInBounds b o2)[c]? = _
    rw [Array.getElem?_setIfInBounds, if_neg e]; exact h.h _ _ hc
  · intro c o' hc
    show (w.heap.setIfInBounds b o2)[c]? = _
    by_cases e : c = b
    · subst e; rw [upd_same] at hc; cases hc; rw [Array.getElem?_setIfInBounds, if_pos rfl, if_pos hlt]
    · rw [upd_ne e] at hc
      rw [Array.getElem?_setIfInBounds, if_neg (fun e' => e e'.symm)]; exact h.m _ _ hc
  · intro c hc
    by_cases e : c = b
    · subst e; have := h.d c hc; rw [hb] at this; cases this
    · rw [upd_ne e]; exact h.d _ hc
theorem Has.drew {w0 w : World} {H M : Heap} (h : Has w0 w H M) : Has w0 { w with drawn := w.drawn + 1 } H M :=
  ⟨h.os, h.tape, h.output, h.size, h.h, h.m, h.d⟩

/-- WP of the model's programs of one operation, over known blocks -/
def hm {α : Type} (P : Program) (e : Sem α) (H M : Heap) (K : α → Heap → Heap → Prop) : Prop :=
  ∀ w0 w, Has w0 w H M → ∃ a w' H' M', e.run P w = .ok a w' ∧ Has w0 w' H' M' ∧ K a H' M'
section
variable {α β : Type} {P : Program} {H M : Heap}
theorem hm_run_bind (e : Sem α) (f : α → Sem β) (w : World) {a : α} {w' : World} (h : e.run P w = .ok a w') :
    (e >>= f).run P w = (f a).run P w' := by
  show (e.bind f).run P w = _
  induction e generalizing w with
  | pure x => simp [Sem.run] at h; obtain ⟨rfl, rfl⟩ := h; rfl
  | load m ad k ih =>
    simp only [Sem.run, Sem.bind] at h ⊢
    split
    · rename_i v hv; rw [hv] at h; exact ih _ _ h
    · rename_i hv; rw [hv] at h
      simp only at h ⊢
      split
      · rename_i v l hl; rw [hl] at h; exact ih _ _ h
      · rename_i hl; rw [hl] at h; cases h
  | store m ad v k ih =>
    cases v
    case agg => simp [Sem.run] at h
    case tuple => simp [Sem.run] at h
    all_goals
      simp only [Sem.run, Sem.bind] at h ⊢
      split
      · rename_i v hv; rw [hv] at h
        simp only at h
        split
        · rename_i hf; rw [if_pos hf] at h; cases h
        · rename_i hf; rw [if_neg hf] at h; exact ih _ h
      · rename_i hv; rw [hv] at h
        simp only at h
        split
        · rename_i w1 l hl; rw [hl] at h; exact ih _ h
        · rename_i hl; rw [hl] at h; cases h
  | new o k ih => simp only [Sem.run, Sem.bind] at h ⊢; exact ih _ _ h
  | shape r k ih => simp only [Sem.run, Sem.bind] at h ⊢; exact ih _ _ h
  | freeze ad n k ih => simp only [Sem.run, Sem.bind] at h ⊢; exact ih _ h
  | frozen ad k ih => simp only [Sem.run, Sem.bind] at h ⊢; exact ih _ _ h
  | getObj r k ih =>
    simp only [Sem.run, Sem.bind] at h ⊢
    split <;> rename_i hv <;> rw [hv] at h <;> simp only at h
    · cases h
    · exact ih _ _ h
    · cases h
  | setObj r o k ih =>
    simp only [Sem.run, Sem.bind] at h ⊢
    split <;> rename_i hv <;> rw [hv] at h <;> simp only at h
    · cases h
    · exact ih _ h
    · cases h
  | choose q k ih =>
    simp only [Sem.run, Sem.bind] at h ⊢
    split
    · rename_i hq; rw [if_pos hq] at h; exact ih _ _ h
    · rename_i hq; rw [if_neg hq] at h; exact ih _ _ h
  | sys c k ih => simp only [Sem.run, Sem.bind] at h ⊢; exact ih _ _ h
  | program k ih => simp only [Sem.run, Sem.bind] at h ⊢; exact ih _ _ h
  | mark mk k ih => simp only [Sem.run, Sem.bind] at h ⊢; exact ih _ h
  | halt x => simp [Sem.run] at h
theorem hm_bind {e : Sem α} {f : α → Sem β} {K : β → Heap → Heap → Prop}
    (h : hm P e H M (fun a H' M' => hm P (f a) H' M' K)) : hm P (e >>= f) H M K := by
  intro w0 w hw
  obtain ⟨a, w1, H1, M1, hr, h1, hk⟩ := h w0 w hw
  obtain ⟨b, w2, H2, M2, hr2, h2, hk2⟩ := hk w0 w1 h1
  exact ⟨b, w2, H2, M2, by rw [hm_run_bind _ _ _ hr, hr2], h2, hk2⟩
theorem hm_pure {a : α} {K : α → Heap → Heap → Prop} (h : K a H M) : hm P (pure a) H M K :=
  fun _ w hw => ⟨a, w, H, M, rfl, hw, h⟩
theorem hm_mono {e : Sem α} {K K' : α → Heap → Heap → Prop} (h : hm P e H M K) (hk : ∀ a H' M', K a H' M' → K' a H' M') : hm P e H M K' := by
  intro w0 w hw
  obtain ⟨a, w1, H1, M1, hr, h1, hq⟩ := h w0 w hw
  exact ⟨a, w1, H1, M1, hr, h1, hk _ _ _ hq⟩
theorem hm_sub {e : Sem α} {K : α → Heap → Heap → Prop} {H2 M2 : Heap} (hs : Sub H M H2 M2) (h : hm P e H2 M2 K) : hm P e H M K :=
  fun w0 w hw => h w0 w (hs _ _ hw)
/-- what a block is known to hold -/
def Kn (H M : Heap) (b : Nat) (o : Obj) : Prop := M b = some o ∨ H b = some o
theorem Has.look {w0 w : World} (h : Has w0 w H M) {b : Nat} {o : Obj} (hb : Kn H M b o) : w.heap[b]? = some o :=
  hb.elim (h.m _ _) (h.h _ _)
/-- a program that looks at no world -/
def cst (P : Program) : Sem α → Option α
  | .pure a => some a
  | .program k => cst P (k P)
  | .mark _ k => cst P k
  | _ => none
theorem cst_run : ∀ (e : Sem α) {a : α}, cst P e = some a → ∀ w, e.run P w = .ok a w
  | .pure x, a, h, w => by simp only [cst, Option.some.injEq] at h; subst h; rfl
  | .program k, a, h, w => by simp only [Sem.run]; exact cst_run (k P) h w
  | .mark m k, a, h, w => by simp only [Sem.run]; exact cst_run k h w
  | .load .., a, h, w | .store .., a, h, w | .new .., a, h, w | .shape .., a, h, w | .freeze .., a, h, w | .frozen .., a, h, w
  | .getObj .., a, h, w | .setObj .., a, h, w | .choose .., a, h, w | .sys .., a, h, w | .halt _, a, h, w => by simp [cst] at h
theorem hm_cst {e : Sem α} {a : α} {K : α → Heap → Heap → Prop} (hc : cst P e = some a) (h : K a H M) : hm P e H M K :=
  fun _ w hw => ⟨a, w, H, M, cst_run e hc w, hw, h⟩
end

/-- the frame, as a row of known slots over unknown ones -/
def mk : List (Nat × Value) → (Nat → Value) → Nat → Value
  | [], j, t => j t
  | (s, v) :: r, j, t => bif Nat.beq s t then v else mk r j t
def ev (e : Nat → Value) : Operand → Value
  | .tmp t => e t
  | .const v => v
  | .global g => .pointer (some ⟨g, 0, none⟩)
  | .func f => .func (.func f) #[] #[]
def Agr (n : Nat) (a : Act) (e : Nat → Value) : Prop := a.tmps.size = n ∧ a.defers = [] ∧ ∀ t, a.tmps.getD t undef = e t
theorem Agr.eval {n : Nat} {a : Act} {e : Nat → Value} (h : Agr n a e) : a.eval = ev e := by
  funext x; cases x with
  | tmp t => exact h.2.2 t
  | const v => rfl
  | global g => rfl
  | func f => rfl
def put (e : Nat → Value) (d : Option Nat) (v : Value) : Nat → Value := match d with
  | some s => fun t => bif Nat.beq s t then v else e t
  | none => e
theorem beq_no {s t : Nat} (h : ¬ s = t) : Nat.beq s t = false := by
  cases e : Nat.beq s t with
  | false => rfl
  | true => exact absurd (Nat.eq_of_beq_eq_true e) h
theorem Agr.put {n : Nat} {a : Act} {e : Nat → Value} (h : Agr n a e) (d : Option Nat) (v : Value) (hd : ∀ s, d = some s → s < n) : Agr n (a.put d v) (put e d v) := by
  cases d with
  | none => exact h
  | some s =>
    refine ⟨by simp [Act.put, h.1], by simp [Act.put, h.2.1], fun t => ?_⟩
    have hs : s < a.tmps.size := h.1 ▸ hd s rfl
    show (a.tmps.setIfInBounds s v).getD t undef = _
    simp only [Cam.put]
    by_cases e' : s = t
    · subst e'; simp [Array.getD_eq_getD_getElem?, hs]
    · have : Nat.beq s t = false := beq_no e'
      rw [this, cond_false, ← h.2.2 t]
      simp [Array.getD_eq_getD_getElem?, e']

/-- what is still to be done -/
inductive It where
  | code (c : Code)
  | inBlock (id : Nat)
  | inLoop (c : Code)
  | ops (all : Array Oper) (rest : List Oper)
inductive Stk : List It → List Item → Prop
  | nil : Stk [] []
  | code {c k k'} : Stk k k' → Stk (.code c :: k) (.code c :: k')
  | inBlock {id k k'} : Stk k k' → Stk (.inBlock id :: k) (.inBlock id :: k')
  | inLoop {c k k'} : Stk k k' → Stk (.inLoop c :: k) (.inLoop c :: k')
  | ops {all rest is k k'} : is.map (fun i => all[i]?) = rest.map some → Stk k k' → Stk (.ops all rest :: k) (.inRegion all is :: k')

abbrev Post := Value → Heap → Heap → Prop
def RunE (P : Program) (f : FuncId) (n : Nat) (R : Post) (k : List It) (e : Nat → Value) (H M : Heap) : Prop :=
  ∀ w0 w a (b : Frame) cs k', Stk k k' → Has w0 w H M → Agr n a e → b.fn = f → b.kind = .normal →
    ∃ v w' fr, Steps P (lone (b.at a k') cs w) (lone fr cs w') ∧ fr.fn = f ∧ fr.leaving P w' (.returned v) ∧ ∃ H' M', Has w0 w' H' M' ∧ R v H' M'
def Run (P : Program) (f : FuncId) (n : Nat) (R : Post) (k : List It) (l : List (Nat × Value)) (H M : Heap) : Prop := ∀ j, RunE P f n R k (mk l j) H M

def ACalls (P : Program) (f : FuncId) (args : Array Value) (H M : Heap) (R : Post) : Prop :=
  ∀ w0 w, Has w0 w H M → Calls P f args w fun e w' => ∃ v H' M', e = .returned v ∧ Has w0 w' H' M' ∧ R v H' M'
theorem ACalls.mono {P : Program} {f : FuncId} {args : Array Value} {H M : Heap} {R R' : Post} (h : ACalls P f args H M R)
    (hr : ∀ v H' M', R v H' M' → R' v H' M') : ACalls P f args H M R' :=
  fun w0 w hw => (h w0 w hw).mono fun _ _ ⟨v, H', M', he, hh, hq⟩ => ⟨v, H', M', he, hh, hr _ _ _ hq⟩
theorem ACalls.sub {P : Program} {f : FuncId} {args : Array Value} {H M H2 M2 : Heap} {R : Post} (hs : Sub H M H2 M2) (h : ACalls P f args H2 M2 R) :
    ACalls P f args H M R := fun w0 w hw => h w0 w (hs _ _ hw)

section
variable {P : Program} {f : FuncId} {n : Nat} {R : Post} {k : List It} {l : List (Nat × Value)} {H M : Heap}
theorem Run.sub {H2 M2 : Heap} (hs : Sub H M H2 M2) (h : Run P f n R k l H2 M2) : Run P f n R k l H M :=
  fun j w0 w a b cs k' hk hw ha hf hn => h j w0 w a b cs k' hk (hs _ _ hw) ha hf hn
theorem runE_step {k1 k2 : List It} {e : Nat → Value}
    (hs : ∀ k', Stk k1 k' → ∃ k2', Stk k2 k2' ∧ ∀ (b : Frame) (a : Act) cs w, Agr n a e → step P (lone (b.at a k') cs w) = .next (lone (b.at a k2') cs w))
    (h : RunE P f n R k2 e H M) : RunE P f n R k1 e H M := by
  intro w0 w a b cs k' hk hw ha hf hn
  obtain ⟨k2', hk2, hstep⟩ := hs k' hk
  obtain ⟨v, w', fr, hst, r⟩ := h w0 w a b cs k2' hk2 hw ha hf hn
  exact ⟨v, w', fr, .head (hstep b a cs w ha) hst, r⟩
theorem run_seq {x y : Code} (h : Run P f n R (.code x :: .code y :: k) l H M) : Run P f n R (.code (.seq x y) :: k) l H M :=
  fun j => runE_step (fun k' hk => by cases hk with | code hk => exact ⟨_, .code (.code hk), fun _ _ _ _ _ => step_seq⟩) (h j)
theorem run_skip (h : Run P f n R k l H M) : Run P f n R (.code .skip :: k) l H M :=
  fun j => runE_step (fun k' hk => by cases hk with | code hk => exact ⟨_, hk, fun _ _ _ _ _ => step_skip⟩) (h j)
theorem run_block {id : Nat} {c : Code} (h : Run P f n R (.code c :: .inBlock id :: k) l H M) : Run P f n R (.code (.block id c) :: k) l H M :=
  fun j => runE_step (fun k' hk => by cases hk with | code hk => exact ⟨_, .code (.inBlock hk), fun _ _ _ _ _ => step_block⟩) (h j)
theorem run_inBlock {id : Nat} (h : Run P f n R k l H M) : Run P f n R (.inBlock id :: k) l H M :=
  fun j => runE_step (fun k' hk => by cases hk with | inBlock hk => exact ⟨_, hk, fun _ _ _ _ _ => step_inBlock⟩) (h j)
theorem run_loop {c : Code} (h : Run P f n R (.code c :: .inLoop c :: k) l H M) : Run P f n R (.code (.loop c) :: k) l H M :=
  fun j => runE_step (fun k' hk => by cases hk with | code hk => exact ⟨_, .code (.inLoop hk), fun _ _ _ _ _ => step_loop⟩) (h j)
theorem run_inLoop {c : Code} (h : Run P f n R (.code c :: .inLoop c :: k) l H M) : Run P f n R (.inLoop c :: k) l H M :=
  fun j => runE_step (fun k' hk => by cases hk with | inLoop hk => exact ⟨_, .code (.inLoop hk), fun _ _ _ _ _ => step_inLoop⟩) (h j)
def xto (id : Nat) : List It → Option (List It)
  | .inBlock i :: k => bif Nat.beq i id then some k else xto id k
  | _ :: k => xto id k
  | [] => none
theorem xto_ok {id : Nat} : ∀ {k k' k2}, Stk k k' → xto id k = some k2 → ∃ k2', Stk k2 k2' ∧ exitTo id k' = some k2' := by
  intro k
  induction k with
  | nil => intro k' k2 _ h; simp [xto] at h
  | cons x k ih =>
    intro k' k2 hk h
    cases hk with
    | code hk => obtain ⟨k2', a, b⟩ := ih hk (by simpa [xto] using h); exact ⟨k2', a, by simpa [exitTo] using b⟩
    | inLoop hk => obtain ⟨k2', a, b⟩ := ih hk (by simpa [xto] using h); exact ⟨k2', a, by simpa [exitTo] using b⟩
    | ops _ hk => obtain ⟨k2', a, b⟩ := ih hk (by simpa [xto] using h); exact ⟨k2', a, by simpa [exitTo] using b⟩
    | @inBlock i _ _ hk =>
      by_cases e : i = id
      · subst e
        have : Nat.beq i i = true := by simp
        simp only [xto, this, cond_true, Option.some.injEq] at h
        subst h
        exact ⟨_, hk, by simp [exitTo]⟩
      · have hb : Nat.beq i id = false := beq_no e
        simp only [xto, hb, cond_false] at h
        obtain ⟨k2', a, b⟩ := ih hk h
        exact ⟨k2', a, by simp [exitTo, e, b]⟩
theorem run_exit {id : Nat} {k2 : List It} (hx : xto id k = some k2) (h : Run P f n R k2 l H M) : Run P f n R (.code (.exit id) :: k) l H M :=
  fun j => runE_step (fun k' hk => by
    cases hk with
    | code hk =>
      obtain ⟨k2', hk2, he⟩ := xto_ok hk hx
      exact ⟨k2', hk2, fun _ _ _ _ _ => step_exit he⟩) (h j)
theorem run_cond {c : Operand} {x y : Code} (t : Bool) (hc : ∀ j, ev (mk l j) c = .bool t)
    (ht : t = true → Run P f n R (.code x :: k) l H M) (hf : t = false → Run P f n R (.code y :: k) l H M) : Run P f n R (.code (.cond c x y) :: k) l H M := by
  intro j
  cases t with
  | true =>
    exact runE_step (fun k' hk => by
      cases hk with
      | code hk => exact ⟨_, .code hk, fun b a cs w ha => by have := step_cond (P := P) (b := b) (k := ‹_›) (cs := cs) (w := w) (x := x) (y := y) (a := a) (c := c) (t := true) (by rw [ha.eval, hc j]); simpa using this⟩) (ht rfl j)
  | false =>
    exact runE_step (fun k' hk => by
      cases hk with
      | code hk => exact ⟨_, .code hk, fun b a cs w ha => by have := step_cond (P := P) (b := b) (k := ‹_›) (cs := cs) (w := w) (x := x) (y := y) (a := a) (c := c) (t := false) (by rw [ha.eval, hc j]); simpa using this⟩) (hf rfl j)
theorem map_getElem?_range (ops : Array Oper) : (List.range ops.size).map (fun i => ops[i]?) = ops.toList.map some := by
  apply List.ext_getElem?
  intro i
  simp only [List.getElem?_map]
  rcases Nat.lt_or_ge i ops.size with h | h
  · simp [h]
  · simp [h]
theorem run_region {id : Nat} {ops : List Oper} (h : Run P f n R (.ops ops.toArray ops :: k) l H M) : Run P f n R (.code (.region id ops.toArray false) :: k) l H M :=
  fun j => runE_step (fun k' hk => by
    cases hk with
    | code hk => exact ⟨_, .ops (by simpa using map_getElem?_range ops.toArray) hk, fun _ _ _ _ _ => step_region⟩) (h j)
theorem run_ops_nil {all : Array Oper} (h : Run P f n R k l H M) : Run P f n R (.ops all [] :: k) l H M :=
  fun j => runE_step (fun k' hk => by
    cases hk with
    | @ops _ _ is _ _ hi hk =>
      have : is = [] := by cases is with | nil => rfl | cons _ _ => simp at hi
      subst this
      exact ⟨_, hk, fun _ _ _ _ _ => step_region_end⟩) (h j)
end
end Go.Cam
