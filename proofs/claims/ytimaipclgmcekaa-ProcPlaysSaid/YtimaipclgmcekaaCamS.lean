/- Assertions of known blocks, laid side by side: what a walk knows of the memory, as a list. -/
import Derived.Test.YtimaipclgmcekaaCamQ
import Derived.Test.YtimaipclgmcekaaCamO
namespace Go.Cam
def Le (A B : Heap) : Prop := ∀ b o, A b = some o → B b = some o
theorem Le.refl (A : Heap) : Le A A := fun _ _ h => h
theorem Le.trans {A B C : Heap} (h : Le A B) (g : Le B C) : Le A C := fun b o e => g b o (h b o e)
/-- an assertion of held blocks and owned ones -/
structure HP where
  p : Heap → Heap → Prop
  mono : ∀ {H M H' M' : Heap}, Le H H' → Le M M' → p H M → p H' M'
def HP.own (b : Nat) (o : Obj) : HP := ⟨fun _ M => M b = some o, fun _ h2 h => h2 _ _ h⟩
def HP.star (A B : HP) : HP :=
  ⟨fun H M => ∃ M1 M2, Le M1 M ∧ Le M2 M ∧ (∀ b, M1 b = none ∨ M2 b = none) ∧ A.p H M1 ∧ B.p H M2,
   fun h1 h2 ⟨M1, M2, a, b, d, x, y⟩ => ⟨M1, M2, a.trans h2, b.trans h2, d, A.mono h1 (Le.refl _) x, B.mono h1 (Le.refl _) y⟩⟩
def HP.emp : HP := ⟨fun _ _ => True, fun _ _ _ => trivial⟩
def HP.per (φ : Heap → Prop) (m : ∀ {H H' : Heap}, Le H H' → φ H → φ H') : HP := ⟨fun H _ => φ H, fun h1 _ h => m h1 h⟩
def HP.ex {α : Type} (P : α → HP) : HP := ⟨fun H M => ∃ x, (P x).p H M, fun h1 h2 ⟨x, h⟩ => ⟨x, (P x).mono h1 h2 h⟩⟩
def HP.and (φ : Prop) (A : HP) : HP := ⟨fun H M => φ ∧ A.p H M, fun h1 h2 h => ⟨h.1, A.mono h1 h2 h.2⟩⟩
/-- an assertion that needs no block of its own -/
class Per (A : HP) : Prop where
  h : ∀ {H M M' : Heap}, A.p H M → A.p H M'
instance (φ : Heap → Prop) (m) : Per (HP.per φ m) := ⟨fun h => h⟩
instance : Per HP.emp := ⟨fun h => h⟩
def Sat : List HP → HP
  | [] => .emp
  | a :: r => a.star (Sat r)
theorem star_swap {A B C : HP} {H M : Heap} (h : (A.star (B.star C)).p H M) : (B.star (A.star C)).p H M := by
  obtain ⟨M1, M2, a1, a2, d, hA, N1, N2, b1, b2, e, hB, hC⟩ := h
  refine ⟨N1, fun c => match M1 c with | some o => some o | none => N2 c, b1.trans a2, ?_, ?_, hB, M1, N2, ?_, ?_, ?_, hA, hC⟩
  · intro c o hc
    dsimp only at hc
    cases h1 : M1 c with
    | some o' => rw [h1] at hc; cases hc; exact a1 _ _ h1
    | none => rw [h1] at hc; exact a2 _ _ (b2 _ _ hc)
  · intro c
    dsimp only
    cases h1 : N1 c with
    | none => exact .inl rfl
    | some o =>
      refine .inr ?_
      rcases d c with h2 | h2
      · rw [h2]
        rcases e c with h3 | h3
        · rw [h1] at h3; cases h3
        · exact h3
      · have := b1 _ _ h1; rw [h2] at this; cases this
  · intro c o hc; dsimp only; rw [hc]
  · intro c o hc
    dsimp only
    cases h1 : M1 c with
    | none => exact hc
    | some o' =>
      rcases d c with h2 | h2
      · rw [h1] at h2; cases h2
      · have := b2 _ _ hc; rw [h2] at this; cases this
  · intro c
    rcases d c with h2 | h2
    · exact .inl h2
    · cases h3 : N2 c with
      | none => exact .inr rfl
      | some o => have := b2 _ _ h3; rw [h2] at this; cases this
theorem star_mono {A B C : HP} (hBC : ∀ H M, B.p H M → C.p H M) {H M : Heap} (h : (A.star B).p H M) : (A.star C).p H M := by
  obtain ⟨M1, M2, a1, a2, d, hA, hB⟩ := h
  exact ⟨M1, M2, a1, a2, d, hA, hBC _ _ hB⟩
theorem star_monoL {A B C : HP} (hAC : ∀ H M, A.p H M → C.p H M) {H M : Heap} (h : (A.star B).p H M) : (C.star B).p H M := by
  obtain ⟨M1, M2, a1, a2, d, hA, hB⟩ := h
  exact ⟨M1, M2, a1, a2, d, hAC _ _ hA, hB⟩
/-- one assertion is picked out of a list -/
inductive Sel (a : HP) : List HP → List HP → Prop
  | here {r} : Sel a (a :: r) r
  | there {x r s} : Sel a r s → Sel a (x :: r) (x :: s)
theorem Sel.sat {a : HP} {As Bs : List HP} (s : Sel a As Bs) : ∀ {H M : Heap}, (Sat As).p H M → (a.star (Sat Bs)).p H M := by
  induction s with
  | here => exact fun h => h
  | there s ih => exact fun h => star_swap (star_mono (fun _ _ => ih) h)
theorem Sel.back {a : HP} {As Bs : List HP} (s : Sel a As Bs) : ∀ {H M : Heap}, (a.star (Sat Bs)).p H M → (Sat As).p H M := by
  induction s with
  | here => exact fun h => h
  | there s ih => exact fun h => star_mono (fun _ _ => ih) (star_swap h)
theorem star_fst {A B : HP} {H M : Heap} (h : (A.star B).p H M) : A.p H M := by
  obtain ⟨M1, M2, a1, a2, d, hA, hB⟩ := h; exact A.mono (Le.refl _) a1 hA
theorem star_snd {A B : HP} {H M : Heap} (h : (A.star B).p H M) : B.p H M := by
  obtain ⟨M1, M2, a1, a2, d, hA, hB⟩ := h; exact B.mono (Le.refl _) a2 hB
theorem Sel.hold {a : HP} {As Bs : List HP} (s : Sel a As Bs) {H M : Heap} (h : (Sat As).p H M) : a.p H M := star_fst (s.sat h)
/-- one assertion is put in another's place -/
inductive Upd (a b : HP) : List HP → List HP → Prop
  | here {r} : Upd a b (a :: r) (b :: r)
  | there {x r s} : Upd a b r s → Upd a b (x :: r) (x :: s)
theorem Upd.sels {a b : HP} {As Bs : List HP} (u : Upd a b As Bs) : ∃ Cs, Sel a As Cs ∧ Sel b Bs Cs := by
  induction u with
  | here => exact ⟨_, .here, .here⟩
  | there _ ih => obtain ⟨Cs, h1, h2⟩ := ih; exact ⟨_, h1.there, h2.there⟩
theorem own_write {b : Nat} {o o' : Obj} {X : HP} {H M : Heap} (h : ((HP.own b o).star X).p H M) : M b = some o ∧ ((HP.own b o').star X).p H (upd M b o') := by
  have hb : M b = some o := star_fst h
  refine ⟨hb, ?_⟩
  obtain ⟨M1, M2, a1, a2, d, hA, hB⟩ := h
  have h2 : M2 b = none := (d b).resolve_left (fun e => by rw [show M1 b = some o from hA] at e; cases e)
  refine ⟨upd M1 b o', M2, ?_, ?_, ?_, upd_same _ _ _, hB⟩
  · intro c o2 hc
    by_cases e : c = b
    · subst e; rw [upd_same] at hc ⊢; exact hc
    · rw [upd_ne e] at hc ⊢; exact a1 _ _ hc
  · intro c o2 hc
    by_cases e : c = b
    · subst e; rw [h2] at hc; cases hc
    · rw [upd_ne e]; exact a2 _ _ hc
  · intro c
    by_cases e : c = b
    · subst e; exact .inr h2
    · rw [upd_ne e]; exact d c
theorem own_new {o : Obj} {X : HP} {H M : Heap} {r : Nat} (hr : Fresh H M r) (h : X.p H M) : ((HP.own r o).star X).p H (upd M r o) := by
  refine ⟨upd (fun _ => none) r o, M, ?_, ?_, ?_, upd_same _ _ _, h⟩
  · intro c o2 hc
    by_cases e : c = r
    · subst e; rw [upd_same] at hc ⊢; exact hc
    · rw [upd_ne e] at hc; cases hc
  · intro c o2 hc; exact hr.old hc
  · intro c
    by_cases e : c = r
    · subst e; exact .inr hr.2
    · rw [upd_ne e]; exact .inl rfl
theorem own_freeze {b : Nat} {o : Obj} {X : HP} {H M : Heap} (hd : ∀ b, H b ≠ none → M b = none) (h : ((HP.own b o).star X).p H M) : Sub H M (upd H b o) (del M b) ∧ X.p (upd H b o) (del M b) := by
  have hb : M b = some o := star_fst h
  obtain ⟨M1, M2, a1, a2, d, hA, hB⟩ := h
  have h2 : M2 b = none := (d b).resolve_left (fun e => by rw [show M1 b = some o from hA] at e; cases e)
  refine ⟨Sub.freeze hb, X.mono ?_ ?_ hB⟩
  · intro c o2 hc
    by_cases e : c = b
    · subst e; have := hd c (by rw [hc]; simp); rw [hb] at this; cases this
    · rw [upd_ne e]; exact hc
  · intro c o2 hc
    by_cases e : c = b
    · subst e; rw [h2] at hc; cases hc
    · rw [del_ne e]; exact a2 _ _ hc
theorem per_dup {A X : HP} [Per A] {H M : Heap} (h : (A.star X).p H M) : (A.star (A.star X)).p H M := by
  obtain ⟨M1, M2, a1, a2, d, hA, hB⟩ := h
  refine ⟨fun _ => none, M, (fun _ _ h => nomatch h), Le.refl _, fun _ => .inl rfl, Per.h hA, M1, M2, a1, a2, d, hA, hB⟩
theorem per_add {A X : HP} [Per A] {H M M0 : Heap} (hA : A.p H M0) (h : X.p H M) : (A.star X).p H M :=
  ⟨fun _ => none, M, (fun _ _ h => nomatch h), Le.refl _, fun _ => .inl rfl, Per.h hA, h⟩
/-- what is asked of a list, and what is left -/
inductive Split : List HP → List HP → List HP → Prop
  | nil {As} : Split As [] As
  | cons {a As Bs Ps Rs} : Sel a As Bs → Split Bs Ps Rs → Split As (a :: Ps) Rs
  | per {a As Bs Ps Rs} [Per a] : Sel a As Bs → Split As Ps Rs → Split As (a :: Ps) Rs
theorem Split.sat {As Ps Rs : List HP} (s : Split As Ps Rs) : ∀ {H M : Heap}, (Sat As).p H M → (Sat (Ps ++ [Sat Rs])).p H M := by
  induction s with
  | nil => exact fun {H M} h => ⟨M, fun _ => none, Le.refl _, (fun _ _ h => nomatch h), fun _ => .inr rfl, h, trivial⟩
  | cons s _ ih => exact fun h => star_mono (fun _ _ => ih) (s.sat h)
  | per s _ ih => exact fun h => per_add (s.hold h) (ih h)
theorem Split.perx {a : HP} {As Bs Ps Rs : List HP} (s : Sel a As Bs) (_ : Per a) (r : Split As Ps Rs) : Split As (a :: Ps) Rs := .per s r
theorem Sat.app {As Rs : List HP} : ∀ {H M : Heap}, (Sat (As ++ [Sat Rs])).p H M → (Sat (As ++ Rs)).p H M := by
  induction As with
  | nil => exact fun h => star_fst h
  | cons a r ih => exact fun h => star_mono (fun _ _ => ih) h
/-- one list says what another one says -/
inductive Ent : List HP → List HP → Prop
  | nil {As} : Ent As []
  | cons {a As Bs Ps} : Sel a As Bs → Ent Bs Ps → Ent As (a :: Ps)
  | per {a As Bs Ps} [Per a] : Sel a As Bs → Ent As Ps → Ent As (a :: Ps)
theorem Ent.sat {As Ps : List HP} (s : Ent As Ps) : ∀ {H M : Heap}, (Sat As).p H M → (Sat Ps).p H M := by
  induction s with
  | nil => exact fun _ => trivial
  | cons s _ ih => exact fun h => star_mono (fun _ _ => ih) (s.sat h)
  | per s _ ih => exact fun h => per_add (s.hold h) (ih h)

class AppL (A B : List HP) (C : outParam (List HP)) : Prop where
  h : A ++ B = C
instance {B} : AppL [] B B := ⟨rfl⟩
instance {a A B C} [p : AppL A B C] : AppL (a :: A) B (a :: C) := ⟨by rw [List.cons_append, p.h]⟩
/-! ### What is still to be run, over a list of assertions -/
structure RunS (P : Program) (f : FuncId) (n : Nat) (R : Value → HP) (k : List It) (l : List (Nat × Value)) (As : List HP) : Prop where
  h : ∀ H M, (Sat As).p H M → Run P f n (fun v H' M' => (R v).p H' M') k l H M
instance {P f n R k l As} : CoeFun (RunS P f n R k l As) (fun _ => ∀ H M, (Sat As).p H M → Run P f n (fun v H' M' => (R v).p H' M') k l H M) := ⟨RunS.h⟩
def post (Q : Value → List HP → Prop) (F : HP) (v : Value) : HP :=
  ⟨fun H M => ∃ Bs, Q v Bs ∧ (Sat (Bs ++ [F])).p H M, fun h1 h2 ⟨Bs, q, s⟩ => ⟨Bs, q, (Sat _).mono h1 h2 s⟩⟩
/-- a contract: what it asks for, and what it comes to -/
def Ctr (P : Program) (f : FuncId) (args : List Value) (As : List HP) (Q : Value → List HP → Prop) : Prop :=
  ∀ (F : HP) H M, (Sat (As ++ [F])).p H M → ACalls P f args.toArray H M (fun v H' M' => (post Q F v).p H' M')
section
variable {P : Program} {f : FuncId} {n : Nat} {R : Value → HP} {k : List It} {l : List (Nat × Value)} {As : List HP} {all : Array Oper} {rest : List Oper}
theorem s_seq {x y : Code} (h : RunS P f n R (.code x :: .code y :: k) l As) : RunS P f n R (.code (.seq x y) :: k) l As := .mk fun _ _ s => run_seq (h _ _ s)
theorem s_skip (h : RunS P f n R k l As) : RunS P f n R (.code .skip :: k) l As := .mk fun _ _ s => run_skip (h _ _ s)
theorem s_block {id : Nat} {c : Code} (h : RunS P f n R (.code c :: .inBlock id :: k) l As) : RunS P f n R (.code (.block id c) :: k) l As := .mk fun _ _ s => run_block (h _ _ s)
theorem s_inBlock {id : Nat} (h : RunS P f n R k l As) : RunS P f n R (.inBlock id :: k) l As := .mk fun _ _ s => run_inBlock (h _ _ s)
theorem s_exit {id : Nat} {k2 : List It} (h : RunS P f n R k2 l As) (hx : xto id k = some k2 := by rfl) : RunS P f n R (.code (.exit id) :: k) l As := .mk fun _ _ s => run_exit hx (h _ _ s)
theorem s_region {id : Nat} {ops : List Oper} (h : RunS P f n R (.ops ops.toArray ops :: k) l As) : RunS P f n R (.code (.region id ops.toArray false) :: k) l As := .mk fun _ _ s => run_region (h _ _ s)
theorem s_nil (h : RunS P f n R k l As) : RunS P f n R (.ops all [] :: k) l As := .mk fun _ _ s => run_ops_nil (h _ _ s)
theorem s_cond {c : Operand} {x y : Code} (t : Bool) (ht : t = true → RunS P f n R (.code x :: k) l As) (hf : t = false → RunS P f n R (.code y :: k) l As)
    (hc : ∀ j, ev (mk l j) c = .bool t := by intro j; rfl) : RunS P f n R (.code (.cond c x y) :: k) l As :=
  .mk fun _ _ s => run_cond t hc (fun e => ht e _ _ s) (fun e => hf e _ _ s)
theorem s_if {c : Operand} {x y : Code} {p : Prop} [Decidable p] (ht : p → RunS P f n R (.code x :: k) l As) (hf : ¬ p → RunS P f n R (.code y :: k) l As)
    (hc : ∀ j, ev (mk l j) c = .bool (decide p) := by intro j; rfl) : RunS P f n R (.code (.cond c x y) :: k) l As :=
  s_cond (decide p) (fun h => ht (of_decide_eq_true h)) (fun h => hf (of_decide_eq_false h)) hc
theorem s_ieq {c : Operand} {x y : Code} {p q : Int} (ht : p = q → RunS P f n R (.code x :: k) l As) (hf : ¬ p = q → RunS P f n R (.code y :: k) l As)
    (hc : ∀ j, ev (mk l j) c = .bool (p == q) := by intro j; rfl) : RunS P f n R (.code (.cond c x y) :: k) l As :=
  s_cond (p == q) (fun h => ht (by simpa using h)) (fun h => hf (by simpa using h)) hc
theorem s_ine {c : Operand} {x y : Code} {p q : Int} (ht : ¬ p = q → RunS P f n R (.code x :: k) l As) (hf : p = q → RunS P f n R (.code y :: k) l As)
    (hc : ∀ j, ev (mk l j) c = .bool (p != q) := by intro j; rfl) : RunS P f n R (.code (.cond c x y) :: k) l As :=
  s_cond (p != q) (fun h => ht (by simpa using h)) (fun h => hf (by simpa using h)) hc
theorem s_not {c : Operand} {x y : Code} {p : Bool} (ht : p = false → RunS P f n R (.code x :: k) l As) (hf : p = true → RunS P f n R (.code y :: k) l As)
    (hc : ∀ j, ev (mk l j) c = .bool (!p) := by intro j; rfl) : RunS P f n R (.code (.cond c x y) :: k) l As :=
  s_cond (!p) (fun h => ht (by simpa using h)) (fun h => hf (by simpa using h)) hc
/-- a condition that is known -/
theorem s_true {c : Operand} {x y : Code} (h : RunS P f n R (.code x :: k) l As) (hc : ∀ j, ev (mk l j) c = .bool true := by intro j; rfl) : RunS P f n R (.code (.cond c x y) :: k) l As :=
  s_cond true (fun _ => h) (fun e => nomatch e) hc
theorem s_false {c : Operand} {x y : Code} (h : RunS P f n R (.code y :: k) l As) (hc : ∀ j, ev (mk l j) c = .bool false := by intro j; rfl) : RunS P f n R (.code (.cond c x y) :: k) l As :=
  s_cond false (fun e => nomatch e) (fun _ => h) hc
theorem s_keep (l' : List (Nat × Value)) (h : RunS P f n R k l' As) (hl : ∀ j, agrees (mk l j) l' := by intro j; repeat (first | exact trivial | refine ⟨rfl, ?_⟩)) : RunS P f n R k l As := .mk fun _ _ s => run_keep l' hl (h _ _ s)
theorem s_ent {Bs : List HP} (h : RunS P f n R k l Bs) (he : Ent As Bs) : RunS P f n R k l As := .mk fun _ _ s => h _ _ (he.sat s)
theorem s_entF {Bs : List HP} (he : Ent As Bs) (h : RunS P f n R k l Bs) : RunS P f n R k l As := s_ent h he
theorem s_imp {Bs : List HP} (he : ∀ H M, (Sat As).p H M → (Sat Bs).p H M) (h : RunS P f n R k l Bs) : RunS P f n R k l As := .mk fun _ _ s => h _ _ (he _ _ s)
theorem s_open {A B : HP} (he : ∀ H M, A.p H M → B.p H M) (h : RunS P f n R k l (B :: As)) : RunS P f n R k l (A :: As) := .mk fun _ _ s => h _ _ (star_monoL he s)
theorem s_ex {α : Type} {A : α → HP} (h : ∀ x, RunS P f n R k l (A x :: As)) : RunS P f n R k l (HP.ex A :: As) := .mk fun _ _ s => by
  obtain ⟨M1, M2, a1, a2, d, ⟨x, hA⟩, hB⟩ := s
  exact h x _ _ ⟨M1, M2, a1, a2, d, hA, hB⟩
theorem s_and {φ : Prop} {A : HP} (h : φ → RunS P f n R k l (A :: As)) : RunS P f n R k l (HP.and φ A :: As) := .mk fun _ _ s => by
  obtain ⟨M1, M2, a1, a2, d, ⟨x, hA⟩, hB⟩ := s
  exact h x _ _ ⟨M1, M2, a1, a2, d, hA, hB⟩
theorem s_star {A B : HP} (h : RunS P f n R k l (A :: B :: As)) : RunS P f n R k l (HP.star A B :: As) := .mk fun _ _ s => by
  refine h _ _ ?_
  obtain ⟨M1, M2, a1, a2, d, ⟨N1, N2, b1, b2, e, hA, hB⟩, hC⟩ := s
  have h0 : (Sat As |>.star (A.star B)).p _ _ := ⟨M2, M1, a2, a1, fun c => (d c).symm, hC, N1, N2, b1, b2, e, hA, hB⟩
  have h1 := star_swap h0
  refine star_mono (fun H M h => ?_) h1
  obtain ⟨K1, K2, c1, c2, g, x, y⟩ := h
  exact ⟨K2, K1, c2, c1, fun c => (g c).symm, y, x⟩
/-- to the front -/
theorem s_front {a : HP} {Bs : List HP} (s : Sel a As Bs) (h : RunS P f n R k l (a :: Bs)) : RunS P f n R k l As := .mk fun _ _ q => h _ _ (s.sat q)
theorem s_dup {a : HP} [Per a] {Bs : List HP} (s : Sel a As Bs) (h : RunS P f n R k l (a :: As)) : RunS P f n R k l As := .mk fun _ _ q => h _ _ (per_add (s.hold q) q)
/-- what holds of the memory may be known -/
theorem s_know {φ : Prop} {a : HP} {Bs : List HP} (s : Sel a As Bs) (hφ : ∀ H M, a.p H M → φ) (h : φ → RunS P f n R k l As) : RunS P f n R k l As := .mk fun _ _ q => h (hφ _ _ (s.hold q)) _ _ q

theorem s_nrm {A B C : List HP} [ap : AppL A B C] (h : RunS P f n R k l C) : RunS P f n R k l (A ++ B) := by rw [ap.h]; exact h
/-! an operation that looks -/
structure LookS (P : Program) (o : Oper) (l : List (Nat × Value)) (As : List HP) (v : Value) : Prop where
  h : ∀ j H M, (Sat As).p H M → Qs P o (mk l j) H M v
instance {P o l As v} : CoeFun (LookS P o l As v) (fun _ => ∀ j H M, (Sat As).p H M → Qs P o (mk l j) H M v) := ⟨LookS.h⟩
theorem s_look {d : Nat} {op : Op} {ty : TypeId} {pos : String} {af : Array Edge} {g : Option (Nat × Bool)} {v : Value} (hv : LookS P ⟨some d, op, ty, pos, af, g⟩ l As v)
    (h : RunS P f n R (.ops all rest :: k) ((d, v) :: l) As) (hd : Nat.blt d n = true := by rfl) (hw : ∀ j, wantE ⟨some d, op, ty, pos, af, g⟩ all (mk l j) = true := by intro j; rfl) :
    RunS P f n R (.ops all (⟨some d, op, ty, pos, af, g⟩ :: rest) :: k) l As := .mk fun _ _ s => run_qt v hd hw (fun j => (hv j _ _ s).qt) (h _ _ s)
theorem s_no {d : Nat} {op : Op} {ty : TypeId} {pos : String} {af : Array Edge} {g : Option (Nat × Bool)}
    (h : RunS P f n R (.ops all rest :: k) ((d, undef) :: l) As) (hw : ∀ j, wantE ⟨some d, op, ty, pos, af, g⟩ all (mk l j) = false := by intro j; rfl) (hd : Nat.blt d n = true := by rfl) :
    RunS P f n R (.ops all (⟨some d, op, ty, pos, af, g⟩ :: rest) :: k) l As := .mk fun _ _ s => run_no hd hw (h _ _ s)
/-- a pure operation -/
theorem s_p {d : Nat} {op : Op} {ty : TypeId} {pos : String} {af : Array Edge} {v : Value}
    (h : RunS P f n R (.ops all rest :: k) ((d, v) :: l) As) (hv : ∀ j, cst P (execOp (ev (mk l j)) ⟨some d, op, ty, pos, af, none⟩) = some (.value v) := by intro j; rfl) (hd : Nat.blt d n = true := by rfl) :
    RunS P f n R (.ops all (⟨some d, op, ty, pos, af, none⟩ :: rest) :: k) l As := .mk fun _ _ s => run_p hv hd (h _ _ s)
theorem s_y {d : Nat} {op : Op} {ty : TypeId} {pos : String} {af : Array Edge} {g : Option (Nat × Bool)} {v : Value}
    (h : RunS P f n R (.ops all rest :: k) ((d, v) :: l) As) (hw : ∀ j, wantE ⟨some d, op, ty, pos, af, g⟩ all (mk l j) = true := by intro j; rfl)
    (hv : ∀ j, cst P (execOp (ev (mk l j)) ⟨some d, op, ty, pos, af, g⟩) = some (.value v) := by intro j; rfl) (hd : Nat.blt d n = true := by rfl) :
    RunS P f n R (.ops all (⟨some d, op, ty, pos, af, g⟩ :: rest) :: k) l As := .mk fun _ _ s => run_y hv hd hw (h _ _ s)
/-- one block is made -/
theorem s_new {d : Nat} {op : Op} {ty : TypeId} {pos : String} {af : Array Edge} {g : Option (Nat × Bool)} (ob : Obj) (h : ∀ r, RunS P f n R (.ops all rest :: k) ((d, .pointer (some ⟨r, 0, none⟩)) :: l) (.own r ob :: As))
    (hx : ∀ j, (cstNew P (execOp (ev (mk l j)) ⟨some d, op, ty, pos, af, g⟩)).map (fun x => (x.1, fun r => cst P (x.2 r))) = some (ob, fun r => some (.value (.pointer (some ⟨r, 0, none⟩)))) := by intro j; rfl)
    (hd : Nat.blt d n = true := by rfl) (hw : ∀ j, wantE ⟨some d, op, ty, pos, af, g⟩ all (mk l j) = true := by intro j; rfl) :
    RunS P f n R (.ops all (⟨some d, op, ty, pos, af, g⟩ :: rest) :: k) l As := .mk fun _ _ s => run_newo ob _ hd hw hx (fun r hr => h r _ _ (own_new hr s))
/-- a loop -/
theorem s_loop {α : Type} {c : Code} (L : α → List (Nat × Value)) (I : α → List HP) (Pre : α → Prop) (μ : α → Nat) (a0 : α) (hp : Pre a0) (he : Ent As (I a0))
    (round : ∀ a, Pre a → (∀ a', Pre a' → μ a' < μ a → RunS P f n R (.inLoop c :: k) (L a') (I a')) → RunS P f n R (.code c :: .inLoop c :: k) (L a) (I a))
    (hl : ∀ j, agrees (mk l j) (L a0) := by intro j; repeat (first | exact trivial | refine ⟨rfl, ?_⟩)) : RunS P f n R (.code (.loop c) :: k) l As := .mk fun H M s =>
  run_loopI L (fun a H M => Pre a ∧ (Sat (I a)).p H M) μ a0 hl ⟨hp, he.sat s⟩ fun a H M ⟨hp, hs⟩ next =>
    round a hp (fun a' hp' hlt => .mk fun _ _ hs' => next a' _ _ ⟨hp', hs'⟩ hlt) H M hs
/-- a loop's first round, carried out -/
theorem s_unroll {c : Code} (h : RunS P f n R (.code c :: .inLoop c :: k) l As) : RunS P f n R (.code (.loop c) :: k) l As := .mk fun H M s => run_loop (h H M s)
/-- what is still to be done, proved once for all ways that come there -/
theorem s_join {k' : List It} {α : Type} (L : α → List (Nat × Value)) (I : α → List HP) (Pre : α → Prop) (K : ∀ a, Pre a → RunS P f n R k (L a) (I a))
    (h : (∀ a, Pre a → RunS P f n R k (L a) (I a)) → RunS P f n R k' l As) : RunS P f n R k' l As := h K
/-- the operations from number m on, proved once for all ways that come there -/
theorem s_cut {α : Type} {os : List Oper} (m : Nat) (L : α → List (Nat × Value)) (I : α → List HP) (Pre : α → Prop) (K : ∀ a, Pre a → RunS P f n R (.ops all (os.drop m) :: k) (L a) (I a))
    (h : (∀ a, Pre a → RunS P f n R (.ops all (os.drop m) :: k) (L a) (I a)) → RunS P f n R (.ops all os :: k) l As) : RunS P f n R (.ops all os :: k) l As := h K
/-- what the program's table says of a function that is called -/
class FN (P : Program) (q : FuncId) : Prop where
  h : ∀ args, cst P (callFunc q args) = some (.enter q args)
theorem exec_call {q : FuncId} [fn : FN P q] {e : Nat → Value} {as : List Operand} {tys : Array TypeId} {d : Option Nat} {ty : TypeId} {pos : String} {af : Array Edge} {g : Option (Nat × Bool)} :
    cst P (execOp (ev e) ⟨d, .call ⟨.value (.func q), as.toArray, tys⟩, ty, pos, af, g⟩) = some (.enter q (as.map (ev e)).toArray) := by
  show cst P (callFunc q (#[] ++ as.toArray.map (ev e) ++ #[])) = _
  rw [fn.h]
  simp
theorem s_call {d : Nat} {ty : TypeId} {pos : String} {af : Array Edge} {g : Option (Nat × Bool)} {q : FuncId} {as : List Operand} {tys : Array TypeId} {args : List Value} {Ps Rs : List HP} {Q : Value → List HP → Prop} [FN P q]
    (ha : ∀ j, as.map (ev (mk l j)) = args := by intro j; rfl) (sp : Split As Ps Rs) (hs : Ctr P q args Ps Q) (h : ∀ v Bs, Q v Bs → RunS P f n R (.ops all rest :: k) ((d, v) :: l) (Bs ++ Rs))
    (hd : Nat.blt d n = true := by rfl)
    (hw : ∀ j, wantE ⟨some d, .call ⟨.value (.func q), as.toArray, tys⟩, ty, pos, af, g⟩ all (mk l j) = true := by intro j; rfl) :
    RunS P f n R (.ops all (⟨some d, .call ⟨.value (.func q), as.toArray, tys⟩, ty, pos, af, g⟩ :: rest) :: k) l As := .mk fun _ _ s =>
  run_callo hd hw (fun j => by rw [exec_call, ha j]) (hs (Sat Rs) _ _ (sp.sat s)) fun v _ _ ⟨Bs, hq, hb⟩ => h v Bs hq _ _ (Sat.app hb)
theorem s_enter {fn : Func} {c : Code} {args : List Value} {Ps : List HP} {Q : Value → List HP → Prop} (n : Nat) (l : List (Nat × Value)) (Cs : HP → List HP) (hf : P.funcs[f]? = some fn) (h : ∀ F, RunS P f n (post Q F) [.code c] l (Cs F))
    (hb : fn.body = some c := by rfl) (hn : fn.ntmps = n := by rfl) (hl : Nat.ble args.length n = true := by rfl) (hz : zipArgs 0 args = l := by rfl) (hC : ∀ F, Ps ++ [F] = Cs F := by intro F; rfl) : Ctr P f args Ps Q :=
  fun F _ _ s => enter hf hb hn (Nat.le_of_ble_eq_true hl) (by rw [hz]; exact h F _ _ (by rw [← hC F]; exact s))
theorem s_ret {fn : Func} {v : Value} {Q : Value → List HP → Prop} {F : HP} {Bs : List HP} (hf : P.funcs[f]? = some fn) (hr : ∀ j, cst P (resE fn (mk l j)) = some v) (hq : Q v Bs) (he : Ent As (Bs ++ [F])) :
    RunS P f n (post Q F) (.code .ret :: k) l As := .mk fun _ _ s => run_retc hf hr ⟨Bs, hq, he.sat s⟩
/-- owned blocks may be frozen -/
theorem s_freeze {b : Nat} {o : Obj} {A : HP} [Per A] {Bs : List HP} (u : Sel (.own b o) As Bs) (hA : ∀ H M, H b = some o → A.p H M) (h : RunS P f n R k l (A :: Bs)) : RunS P f n R k l As := .mk fun H M s => by
  intro j w0 w a bb cs k' hk hh ha hf hn
  obtain ⟨h1, h2⟩ := own_freeze hh.d (u.sat s)
  have h3 : (A.star (Sat Bs)).p (upd H b o) (del M b) := per_add (M0 := M) (hA (upd H b o) M (upd_same _ _ _)) h2
  exact h _ _ h3 j w0 w a bb cs k' hk (h1 _ _ hh) ha hf hn
end
end Go.Cam
