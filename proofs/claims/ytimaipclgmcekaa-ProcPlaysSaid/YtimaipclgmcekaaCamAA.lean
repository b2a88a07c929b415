/- Whole stretches of a walk at one call. -/
import Derived.Test.YtimaipclgmcekaaCamY
namespace Go.Cam
structure Hid (A : Prop) : Prop where
  out : A
theorem go_ {A B : Prop} (a : A) (h : Hid A → B := by
    intro a_go
    repeat (first
      | refine s_nrm ?_ | refine s_true ?_ | refine s_false ?_ | refine s_seq ?_ | refine s_region ?_ | refine s_nil ?_ | refine s_skip ?_ | refine s_block ?_ | refine s_inBlock ?_ | refine s_exit ?_
      | refine s_look lk_zfa ?_ | refine s_look lk_faz ?_ | refine s_look lk_fa ?_ | refine s_look lk_fae ?_
      | refine s_look lk_ldA ?_ | refine s_look lk_ld ?_ | refine s_look lk_ldW ?_ | refine s_look lk_ldP ?_ | refine s_look lk_ldeA ?_ | refine s_look lk_lde ?_ | refine s_look lk_ldeN ?_
      | refine s_look lk_fldA ?_ | refine s_look lk_fld ?_ | refine s_look lk_fldN ?_
      | refine s_look lk_len ?_ | refine s_look lk_lens ?_ | refine s_look lk_bd0 ?_ | refine s_look lk_bd1 ?_ | refine s_look lk_bd2 ?_ | refine s_look lk_bd3 ?_ | refine s_look lk_bd4 ?_ | refine s_look lk_bd5 ?_ | refine s_look lk_bd6 ?_ | refine s_look lk_bd7 ?_ | refine s_look lk_bd8 ?_
      | refine s_look lk_inc ?_ | refine s_look lk_add ?_ | refine s_look lk_sub ?_
      | refine s_look lk_zix ?_ | refine s_look lk_ix ?_ | refine s_look lk_ixs ?_ | refine s_look lk_ixa ?_ | refine s_look lk_ixaN ?_
      | refine s_st ?_
      | refine s_no ?_ | refine s_p ?_ | refine s_y ?_)
    exact Hid.out a_go) : B := h ⟨a⟩
theorem qo_ {A B : Prop} (a : A) (h : Hid A → B := by
    intro a_go
    repeat (first
      | refine q_look lk_zfa ?_ | refine q_look lk_faz ?_ | refine q_look lk_fa ?_ | refine q_look lk_fae ?_
      | refine q_look lk_ldA ?_ | refine q_look lk_ld ?_ | refine q_look lk_ldW ?_ | refine q_look lk_ldP ?_ | refine q_look lk_ldeA ?_ | refine q_look lk_lde ?_ | refine q_look lk_ldeN ?_
      | refine q_look lk_fldA ?_ | refine q_look lk_fld ?_ | refine q_look lk_fldN ?_
      | refine q_look lk_len ?_ | refine q_look lk_lens ?_ | refine q_look lk_bd0 ?_ | refine q_look lk_bd1 ?_ | refine q_look lk_bd2 ?_ | refine q_look lk_bd3 ?_ | refine q_look lk_bd4 ?_ | refine q_look lk_bd5 ?_ | refine q_look lk_bd6 ?_ | refine q_look lk_bd7 ?_ | refine q_look lk_bd8 ?_
      | refine q_look lk_inc ?_ | refine q_look lk_add ?_ | refine q_look lk_sub ?_
      | refine q_look lk_zix ?_ | refine q_look lk_ix ?_ | refine q_look lk_ixs ?_ | refine q_look lk_ixa ?_ | refine q_look lk_ixaN ?_
      | refine q_no ?_ | refine q_p ?_ | refine q_y ?_)
    exact Hid.out a_go) : B := h ⟨a⟩
theorem do_ {A B : Prop} (a : A) (h : Hid A → B := by
    intro a_go
    repeat (first
      | refine d_nrm ?_ | refine d_look rfl lk_zfa ?_ | refine d_look rfl lk_faz ?_ | refine d_look rfl lk_fa ?_ | refine d_look rfl lk_fae ?_
      | refine d_look rfl lk_ldA ?_ | refine d_look rfl lk_ld ?_ | refine d_look rfl lk_ldW ?_ | refine d_look rfl lk_ldP ?_ | refine d_look rfl lk_ldeA ?_ | refine d_look rfl lk_lde ?_ | refine d_look rfl lk_ldeN ?_
      | refine d_look rfl lk_fldA ?_ | refine d_look rfl lk_fld ?_ | refine d_look rfl lk_fldN ?_
      | refine d_look rfl lk_len ?_ | refine d_look rfl lk_lens ?_ | refine d_look rfl lk_bd0 ?_ | refine d_look rfl lk_bd1 ?_ | refine d_look rfl lk_bd2 ?_ | refine d_look rfl lk_bd3 ?_ | refine d_look rfl lk_bd4 ?_ | refine d_look rfl lk_bd5 ?_ | refine d_look rfl lk_bd6 ?_ | refine d_look rfl lk_bd7 ?_ | refine d_look rfl lk_bd8 ?_
      | refine d_look rfl lk_inc ?_ | refine d_look rfl lk_add ?_ | refine d_look rfl lk_sub ?_
      | refine d_look rfl lk_zix ?_ | refine d_look rfl lk_ix ?_ | refine d_look rfl lk_ixs ?_ | refine d_look rfl lk_ixa ?_ | refine d_look rfl lk_ixaN ?_
      | refine d_look rfl lk_p ?_ | refine d_no rfl ?_ | refine d_nil ?_)
    exact Hid.out a_go) : B := h ⟨a⟩
end Go.Cam
namespace Go.Cam
section
variable {P : Program} {f : FuncId} {n : Nat} {R : Value → HP} {k : List It} {l : List (Nat × Value)} {As Bs : List HP} {all : Array Oper} {rest : List Oper} {d : Nat} {oty : TypeId} {pos : String} {af : Array Edge} {g : Option (Nat × Bool)}
def fset (f : Nat → Value) (i : Nat) (v : Value) : Nat → Value := fun q => if q = i then v else f q
/-- a store of one cell into a row of cells -/
theorem s_stt {t : TypeId} {x y : Operand} {b off m : Nat} {c : Nat → Value} {ty : TypeId} {v : Value} {As' : List HP} [hs : SZ P t 1] (h : RunS P f n R (.ops all rest :: k) l As')
    (hx : ∀ j, ev (mk l j) x = .pointer (some ⟨b, off, none⟩) := by intro j; rfl) (hy : ∀ j, ev (mk l j) y = v := by intro j; rfl)
    (u : Upd (.own b (.cells (tab m c) ty (0, 0))) (.own b (.cells (tab m (fset c off v)) ty (0, 0))) As As' := by repeat (first | with_reducible exact Upd.here | with_reducible apply Upd.there))
    (hcel : Cel v [v] := by infer_instance) (hl : off < m := by omega)
    (hw : ∀ j, wantE ⟨none, .store t x y, oty, pos, af, g⟩ all (mk l j) = true := by intro j; rfl) : RunS P f n R (.ops all (⟨none, .store t x y, oty, pos, af, g⟩ :: rest) :: k) l As := .mk fun H M q => by
  obtain ⟨Cs, s1, s2⟩ := u.sels
  obtain ⟨hb, hq⟩ := own_write (o' := .cells (tab m (fset c off v)) ty (0, 0)) (s1.sat q)
  have e := hcel.h
  refine run_st b off 1 v (tab m (fset c off v)) hw hx hy hb (by rw [e]; rfl) (by rw [tab_size]; omega) (by rw [e]; exact hcel.o) (by rw [e]; exact setL_tab1 (by simp [fset]) fun i _ hi => by simp [fset, hi]) (h _ _ (s2.back hq))
/-- a store of a whole block -/
theorem s_stw {t : TypeId} {x y : Operand} {b m : Nat} {c c' : Array Value} {ty : TypeId} {As' : List HP} [hs : SZ P t m] (h : RunS P f n R (.ops all rest :: k) l As')
    (hx : ∀ j, ev (mk l j) x = .pointer (some ⟨b, 0, none⟩) := by intro j; rfl) (hy : ∀ j, ev (mk l j) y = .agg c' := by intro j; rfl)
    (u : Upd (.own b (.cells c ty (0, 0))) (.own b (.cells c' ty (0, 0))) As As' := by repeat (first | with_reducible exact Upd.here | with_reducible apply Upd.there))
    (h1 : c.size = m := by first | rfl | simp [tab_size]) (h2 : c'.size = m := by first | rfl | simp [tab_size]) (h3 : c'.toList.all one = true := by first | rfl | exact tab_all (fun _ => rfl))
    (hw : ∀ j, wantE ⟨none, .store t x y, oty, pos, af, g⟩ all (mk l j) = true := by intro j; rfl) : RunS P f n R (.ops all (⟨none, .store t x y, oty, pos, af, g⟩ :: rest) :: k) l As := .mk fun H M q => by
  obtain ⟨Cs, s1, s2⟩ := u.sels
  obtain ⟨hb, hq⟩ := own_write (o' := .cells c' ty (0, 0)) (s1.sat q)
  refine run_st b 0 m (.agg c') c' hw hx hy hb (by simpa [Value.cells] using h2) (by omega) h3 (by show setL c 0 c'.toList = c'; rw [setL_whole (by simp [h1, h2])]) (h _ _ (s2.back hq))
theorem lk_ldt {t : TypeId} {x : Operand} {b off m d : Nat} {c : Nat → Value} {ty : TypeId} {fr : Nat × Nat} [hag : AG P t false] (hx : ∀ j, ev (mk l j) x = .pointer (some ⟨b, off, none⟩) := by intro j; rfl)
    (s : Sel (.own b (.cells (tab m c) ty fr)) As Bs := by repeat (first | with_reducible exact Sel.here | with_reducible apply Sel.there)) (hl : off < m := by omega) :
    LookS P ⟨some d, .load t x, oty, pos, af, g⟩ l As (c off) := .mk fun j _ _ q => qt_ld1 rfl (hx j) hag.h (.inl (s.hold q)) (tab_get hl)
end
section
variable {P : Program} {f : FuncId} {n : Nat} {R : Value → HP} {k : List It} {l : List (Nat × Value)} {As Bs : List HP} {all : Array Oper} {rest : List Oper} {d : Nat} {oty : TypeId} {pos : String} {af : Array Edge} {g : Option (Nat × Bool)}
theorem lk_ldv {t : TypeId} {x : Operand} {b off m : Nat} {c : Nat → Value} {v : Value} {ty : TypeId} {fr : Nat × Nat} [hag : AG P t false] (hx : ∀ j, ev (mk l j) x = .pointer (some ⟨b, off, none⟩) := by intro j; rfl)
    (s : Sel (.own b (.cells (tab m c) ty fr)) As Bs := by repeat (first | with_reducible exact Sel.here | with_reducible apply Sel.there)) (hv : c off = v) (hl : off < m := by omega) :
    LookS P ⟨some d, .load t x, oty, pos, af, g⟩ l As v := .mk fun j _ _ q => qt_ld1 rfl (hx j) hag.h (.inl (s.hold q)) (by rw [tab_get hl, hv])
theorem lk_ldNv {t : TypeId} {x : Operand} {b off m k : Nat} {c : Array Value} {vs : Array Value} {ty : TypeId} {fr : Nat × Nat} [hag : AG P t true] [hs : SZ P t k] (hx : ∀ j, ev (mk l j) x = .pointer (some ⟨b, off, none⟩) := by intro j; rfl)
    (s : Sel (.own b (.cells c ty fr)) As Bs := by repeat (first | with_reducible exact Sel.here | with_reducible apply Sel.there)) (hv : c.extract off (off + k) = vs) (hc : c.size = m := by first | rfl | exact tab_size _ _) (hl : off + k ≤ m := by omega) :
    LookS P ⟨some d, .load t x, oty, pos, af, g⟩ l As (.agg vs) := .mk fun j _ _ q => qt_ldN rfl (hx j) hag.h hs.h (.inl (s.hold q)) (by omega) hv
theorem s_sttN {t : TypeId} {x y : Operand} {b off m w : Nat} {c c' : Nat → Value} {vs : List Value} {ty : TypeId} {As' : List HP} [hs : SZ P t w]
    (hx : ∀ j, ev (mk l j) x = .pointer (some ⟨b, off, none⟩) := by intro j; rfl) (hy : ∀ j, ev (mk l j) y = .agg vs.toArray := by intro j; rfl)
    (u : Upd (.own b (.cells (tab m c) ty (0, 0))) (.own b (.cells (tab m c') ty (0, 0))) As As' := by repeat (first | with_reducible exact Upd.here | with_reducible apply Upd.there))
    (hv : setL (tab m c) off vs = tab m c') (h : RunS P f n R (.ops all rest :: k) l As') (h2 : Nat.beq vs.length w = true := by rfl) (h3 : vs.all one = true := by rfl) (hl : off + w ≤ m := by omega)
    (hw : ∀ j, wantE ⟨none, .store t x y, oty, pos, af, g⟩ all (mk l j) = true := by intro j; rfl) : RunS P f n R (.ops all (⟨none, .store t x y, oty, pos, af, g⟩ :: rest) :: k) l As := .mk fun H M q => by
  obtain ⟨Cs, s1, s2⟩ := u.sels
  obtain ⟨hb, hq⟩ := own_write (o' := .cells (tab m c') ty (0, 0)) (s1.sat q)
  have h2' := Nat.eq_of_beq_eq_true h2
  exact run_st b off w (.agg vs.toArray) (tab m c') hw hx hy hb (by simpa [Value.cells] using h2') (by rw [tab_size]; omega) (by simpa [Value.cells] using h3) (by simpa [Value.cells] using hv) (h _ _ (s2.back hq))
theorem st_sttN {dd : Option Nat} {t : TypeId} {x y : Operand} {b off m w : Nat} {c c' : Nat → Value} {vs : List Value} {ty : TypeId} {As' : List HP} [hs : SZ P t w]
    (hx : ∀ j, ev (mk l j) x = .pointer (some ⟨b, off, none⟩) := by intro j; rfl) (hy : ∀ j, ev (mk l j) y = .agg vs.toArray := by intro j; rfl)
    (u : Upd (.own b (.cells (tab m c) ty (0, 0))) (.own b (.cells (tab m c') ty (0, 0))) As As' := by repeat (first | with_reducible exact Upd.here | with_reducible apply Upd.there))
    (hv : setL (tab m c) off vs = tab m c') (h2 : Nat.beq vs.length w = true := by rfl) (h3 : vs.all one = true := by rfl) (hl : off + w ≤ m := by omega) :
    StepL P ⟨dd, .store t x y, oty, pos, af, g⟩ l As (fun _ Bs => Bs = As') := .mk fun j Fs H M q => by
  obtain ⟨Cs, s1, s2⟩ := (u.app Fs).sels
  obtain ⟨hb, hq⟩ := own_write (o' := .cells (tab m c') ty (0, 0)) (s1.sat q)
  have h2' := Nat.eq_of_beq_eq_true h2
  refine hmc_of_hm ?_
  show hm P (Instr.storeAt t (ev (mk l j) x) (ev (mk l j) y) >>= fun _ => pure Next.skip) H M _
  rw [hx j, hy j]
  refine hm_bind (hm_st hs.h hb (by simpa [Value.cells] using h2') (by rw [tab_size]; omega) (fun j _ _ h => by omega) (fun u hu => List.all_eq_true.1 h3 u (by simpa [Value.cells] using hu)) (hm_pure ⟨undef, .inr ⟨rfl, rfl⟩, As', rfl, ?_⟩))
  have : setL (tab m c) off (Value.agg vs.toArray).cells.toList = tab m c' := by simpa [Value.cells] using hv
  rw [this]; exact s2.back hq
theorem st_lk {o : Oper} {v : Value} (hv : LookS P o l As v) : StepL P o l As (fun u Bs => u = v ∧ Bs = As) := .mk fun j Fs H M s w0 w hh =>
  ⟨_, w, hv j H M (star_fst (Sat.part s)) w0 w hh, H, M, hh, As, ⟨rfl, rfl⟩, s⟩
inductive RVS (P : Program) (As : List HP) (e : Nat → Value) : List ResultVar → List Value → Prop
  | nil : RVS P As e [] []
  | tmp {t r vs} (v : Value) : e t = v → RVS P As e r vs → RVS P As e (.tmp t :: r) (v :: vs)
  | cell {a t r vs} (b m : Nat) {c : Array Value} {ty : TypeId} {fr : Nat × Nat} {Bs : List HP} [AG P t true] [SZ P t m] : e a = .pointer (some ⟨b, 0, none⟩) → Sel (.own b (.cells c ty fr)) As Bs → c.size = m → RVS P As e r vs → RVS P As e (.cell a t :: r) (.agg c :: vs)
theorem RVS.rv {e : Nat → Value} {rs : List ResultVar} {vs : List Value} (h : RVS P As e rs vs) {H M : Heap} (s : (Sat As).p H M) : RV P H M e rs vs := by
  induction h with
  | nil => exact .nil
  | tmp v hv _ ih => exact .tmp v hv ih
  | cell b m ha sl hc _ ih => rename_i ag sz _; exact .cell b 0 m _ ha ag.h sz.h (.inl (sl.hold s)) (by omega) (extract_whole hc) ih
theorem s_retv {fn : Func} {rs : List ResultVar} {vs : List Value} {Q : Value → List HP → Prop} {F : HP} (hf : P.funcs[f]? = some fn) (hr : ∀ j, RVS P As (mk l j) rs vs) (hq : Q (resv vs) Bs) (he : Ent As (Bs ++ [F])) (hrs : fn.results.toList = rs := by rfl) :
    RunS P f n (post Q F) (.code .ret :: k) l As := .mk fun H M s => run_retv vs hf hrs (fun j => (hr j).rv s) ⟨Bs, hq, he.sat s⟩
end
section
variable {P : Program} {f : FuncId} {n : Nat} {k : List It} {l : List (Nat × Value)} {As Bs : List HP}
theorem s_rett {fn : Func} {rs : List ResultVar} {vs : List Value} {Q : Value → List HP → Prop} {F : HP} (hf : P.funcs[f]? = some fn) (hrs : fn.results.toList = rs) (hr : ∀ j, RVS P As (mk l j) rs vs) (h2 : Nat.beq vs.length 1 = false) (hq : Q (.tuple vs.toArray) Bs) (he : Ent As (Bs ++ [F])) :
    RunS P f n (post Q F) (.code .ret :: k) l As := s_retv hf hr (by
      match vs, h2 with
      | [], _ => exact hq
      | [v], h => cases h
      | _ :: _ :: _, _ => exact hq) he hrs
theorem s_ret1 {fn : Func} {rs : List ResultVar} {v : Value} {Q : Value → List HP → Prop} {F : HP} (hf : P.funcs[f]? = some fn) (hrs : fn.results.toList = rs) (hr : ∀ j, RVS P As (mk l j) rs [v]) (hq : Q v Bs) (he : Ent As (Bs ++ [F])) :
    RunS P f n (post Q F) (.code .ret :: k) l As := s_retv (vs := [v]) hf hr hq he hrs
end
/-- a contract over known blocks, as one over assertions: a block that is read; one that is changed -/
theorem Ctr.same {P : Program} {q : FuncId} {args : List Value} {b : Nat} {o : Obj} {φ : Value → Prop} (h : ∀ H M, M b = some o → ACalls P q args.toArray H M (fun v H' M' => φ v ∧ H' = H ∧ Ch [] M M')) : Ctr P q args [.own b o] (fun v Bs => φ v ∧ Bs = [.own b o]) := fun F H M s =>
  (h H M (star_fst s)).mono fun v H' M' ⟨hv, hH, hc⟩ => ⟨_, ⟨hv, rfl⟩, by subst hH; exact (Sat _).mono (Le.refl _) (fun c o hc' => hc c o (by simp) hc') s⟩
theorem Ctr.chg {P : Program} {q : FuncId} {args : List Value} {b : Nat} {o : Obj} {φ : Value → Obj → Prop} (h : ∀ H M, M b = some o → ACalls P q args.toArray H M (fun v H' M' => ∃ o', φ v o' ∧ H' = H ∧ M' b = some o' ∧ Ch [b] M M')) : Ctr P q args [.own b o] (fun v Bs => ∃ o', φ v o' ∧ Bs = [.own b o']) := fun F H M s => by
  refine (h H M (star_fst s)).mono fun v H' M' ⟨o', hv, hH, hb, hc⟩ => ⟨_, ⟨o', hv, rfl⟩, ?_⟩
  subst hH
  obtain ⟨M1, M2, a1, a2, dj, hA, hB⟩ := s
  have h2 : ∀ c, M2 c ≠ none → c ≠ b := fun c hne e => by
    subst e
    rcases dj c with h3 | h3
    · rw [show M1 c = some o from hA] at h3; cases h3
    · exact hne h3
  refine ⟨fun c => if c = b then some o' else none, M2, ?_, ?_, ?_, if_pos rfl, hB⟩
  · intro c u hu
    dsimp only at hu
    split at hu
    · rename_i e; subst e; rw [hb]; exact hu
    · cases hu
  · intro c u hu
    exact hc c u (by simpa using h2 c (by rw [hu]; simp)) (a2 c u hu)
  · intro c
    by_cases e : c = b
    · subst e
      refine .inr ?_
      cases h3 : M2 c with
      | none => rfl
      | some u => exact absurd rfl (h2 c (by rw [h3]; simp))
    · exact .inl (if_neg e)
theorem Ctr.pure {P : Program} {q : FuncId} {args : List Value} {φ : Value → Prop} (h : ∀ H M, ACalls P q args.toArray H M (fun v H' M' => φ v ∧ H' = H ∧ Ch [] M M')) : Ctr P q args [] (fun v Bs => φ v ∧ Bs = []) := fun F H M s =>
  (h H M).mono fun v H' M' ⟨hv, hH, hc⟩ => ⟨_, ⟨hv, rfl⟩, by subst hH; exact (Sat _).mono (Le.refl _) (fun c o hc' => hc c o (by simp) hc') s⟩
end Go.Cam
