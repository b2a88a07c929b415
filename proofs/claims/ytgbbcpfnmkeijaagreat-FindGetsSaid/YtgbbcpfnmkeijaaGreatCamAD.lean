/- Whole stretches of a walk at one call. -/
import Derived.Test.YtgbbcpfnmkeijaaGreatCamY
import Derived.Test.YtgbbcpfnmkeijaaGreatCamN
namespace Go.Cam
structure Hid (A : Prop) : Prop where
  out : A
theorem go_ {A B : Prop} (a : A) (h : Hid A → B := by
    intro a_go
    repeat (first
      | refine s_nrm ?_ | refine s_true ?_ | refine s_false ?_ | refine s_seq ?_ | refine s_region ?_ | refine s_nil ?_ | refine s_skip ?_ | refine s_block ?_ | refine s_inBlock ?_ | refine s_exit ?_
      | refine s_look lk_zfa ?_ | refine s_look lk_faz ?_ | refine s_look lk_fa ?_ | refine s_look lk_fae ?_
      | refine s_look lk_ldA ?_ | refine s_look lk_ld ?_ | refine s_look lk_ldW ?_ | refine s_look lk_ldP ?_ | refine s_look lk_ldeA ?_ | refine s_look lk_lde ?_ | refine s_look lk_ldeN ?_
      | refine s_look lk_fldA ?_ | refine s_look lk_fld ?_ | refine s_look lk_fldN ?_
      | refine s_look lk_len ?_ | refine s_look lk_lens ?_ | refine s_look lk_bd0 ?_ | refine s_look lk_bd1 ?_ | refine s_look lk_bd2 ?_ | refine s_look lk_bd3 ?_ | refine s_look lk_bd4 ?_ | refine s_look lk_bd5 ?_ | refine s_look lk_bd6 ?_ | refine s_look lk_bd7 ?_ | refine s_look lk_bd8 ?_
      | refine s_look lk_inc ?_ | refine s_look lk_add ?_ | refine s_look lk_sub ?_
      | refine s_look lk_zix ?_ | refine s_look lk_ix ?_ | refine s_look lk_ixs ?_ | refine s_look lk_ixa ?_ | refine s_look lk_ixaN ?_
      | refine s_st ?_
      | refine s_no ?_ | refine s_p ?_ | refine s_y ?_)
    exact Hid.out a_go) : B := h ⟨a⟩
theorem qo_ {A B : Prop} (a : A) (h : Hid A → B := by
    intro a_go
    repeat (first
      | refine q_look lk_zfa ?_ | refine q_look lk_faz ?_ | refine q_look lk_fa ?_ | refine q_look lk_fae ?_
      | refine q_look lk_ldA ?_ | refine q_look lk_ld ?_ | refine q_look lk_ldW ?_ | refine q_look lk_ldP ?_ | refine q_look lk_ldeA ?_ | refine q_look lk_lde ?_ | refine q_look lk_ldeN ?_
      | refine q_look lk_fldA ?_ | refine q_look lk_fld ?_ | refine q_look lk_fldN ?_
      | refine q_look lk_len ?_ | refine q_look lk_lens ?_ | refine q_look lk_bd0 ?_ | refine q_look lk_bd1 ?_ | refine q_look lk_bd2 ?_ | refine q_look lk_bd3 ?_ | refine q_look lk_bd4 ?_ | refine q_look lk_bd5 ?_ | refine q_look lk_bd6 ?_ | refine q_look lk_bd7 ?_ | refine q_look lk_bd8 ?_
      | refine q_look lk_inc ?_ | refine q_look lk_add ?_ | refine q_look lk_sub ?_
      | refine q_look lk_zix ?_ | refine q_look lk_ix ?_ | refine q_look lk_ixs ?_ | refine q_look lk_ixa ?_ | refine q_look lk_ixaN ?_
      | refine q_no ?_ | refine q_p ?_ | refine q_y ?_)
    exact Hid.out a_go) : B := h ⟨a⟩
theorem do_ {A B : Prop} (a : A) (h : Hid A → B := by
    intro a_go
    repeat (first
      | refine d_nrm ?_ | refine d_look rfl lk_zfa ?_ | refine d_look rfl lk_faz ?_ | refine d_look rfl lk_fa ?_ | refine d_look rfl lk_fae ?_
      | refine d_look rfl lk_ldA ?_ | refine d_look rfl lk_ld ?_ | refine d_look rfl lk_ldW ?_ | refine d_look rfl lk_ldP ?_ | refine d_look rfl lk_ldeA ?_ | refine d_look rfl lk_lde ?_ | refine d_look rfl lk_ldeN ?_
      | refine d_look rfl lk_fldA ?_ | refine d_look rfl lk_fld ?_ | refine d_look rfl lk_fldN ?_
      | refine d_look rfl lk_len ?_ | refine d_look rfl lk_lens ?_ | refine d_look rfl lk_bd0 ?_ | refine d_look rfl lk_bd1 ?_ | refine d_look rfl lk_bd2 ?_ | refine d_look rfl lk_bd3 ?_ | refine d_look rfl lk_bd4 ?_ | refine d_look rfl lk_bd5 ?_ | refine d_look rfl lk_bd6 ?_ | refine d_look rfl lk_bd7 ?_ | refine d_look rfl lk_bd8 ?_
      | refine d_look rfl lk_inc ?_ | refine d_look rfl lk_add ?_ | refine d_look rfl lk_sub ?_
      | refine d_look rfl lk_zix ?_ | refine d_look rfl lk_ix ?_ | refine d_look rfl lk_ixs ?_ | refine d_look rfl lk_ixa ?_ | refine d_look rfl lk_ixaN ?_
      | refine d_look rfl lk_p ?_ | refine d_no rfl ?_ | refine d_nil ?_)
    exact Hid.out a_go) : B := h ⟨a⟩
end Go.Cam
namespace Go.Cam
section
variable {P : Program} {f : FuncId} {n : Nat} {R : Value → HP} {k : List It} {l : List (Nat × Value)} {As Bs : List HP} {all : Array Oper} {rest : List Oper} {d : Nat} {oty : TypeId} {pos : String} {af : Array Edge} {g : Option (Nat × Bool)}
def fset (f : Nat → Value) (i : Nat) (v : Value) : Nat → Value := fun q => if q = i then v else f q
/-- a store of one cell into a row of cells -/
theorem s_stt {t : TypeId} {x y : Operand} {b off m : Nat} {c : Nat → Value} {ty : TypeId} {v : Value} {As' : List HP} [hs : SZ P t 1] (h : RunS P f n R (.ops all rest :: k) l As')
    (hx : ∀ j, ev (mk l j) x = .pointer (some ⟨b, off, none⟩) := by intro j; rfl) (hy : ∀ j, ev (mk l j) y = v := by intro j; rfl)
    (u : Upd (.own b (.cells (tab m c) ty (0, 0))) (.own b (.cells (tab m (fset c off v)) ty (0, 0))) As As' := by repeat (first | with_reducible exact Upd.here | with_reducible apply Upd.there))
    (hcel : Cel v [v] := by infer_instance) (hl : off < m := by omega)
    (hw : ∀ j, wantE ⟨none, .store t x y, oty, pos, af, g⟩ all (mk l j) = true := by intro j; rfl) : RunS P f n R (.ops all (⟨none, .store t x y, oty, pos, af, g⟩ :: rest) :: k) l As := .mk fun H M q => by
  obtain ⟨Cs, s1, s2⟩ := u.sels
  obtain ⟨hb, hq⟩ := own_write (o' := .cells (tab m (fset c off v)) ty (0, 0)) (s1.sat q)
  have e := hcel.h
  refine run_st b off 1 v (tab m (fset c off v)) hw hx hy hb (by rw [e]; rfl) (by rw [tab_size]; omega) (by rw [e]; exact hcel.o) (by rw [e]; exact setL_tab1 (by simp [fset]) fun i _ hi => by simp [fset, hi]) (h _ _ (s2.back hq))
/-- a store of a whole block -/
theorem s_stw {t : TypeId} {x y : Operand} {b m : Nat} {c c' : Array Value} {ty : TypeId} {As' : List HP} [hs : SZ P t m] (h : RunS P f n R (.ops all rest :: k) l As')
    (hx : ∀ j, ev (mk l j) x = .pointer (some ⟨b, 0, none⟩) := by intro j; rfl) (hy : ∀ j, ev (mk l j) y = .agg c' := by intro j; rfl)
    (u : Upd (.own b (.cells c ty (0, 0))) (.own b (.cells c' ty (0, 0))) As As' := by repeat (first | with_reducible exact Upd.here | with_reducible apply Upd.there))
    (h1 : c.size = m := by first | rfl | simp [tab_size]) (h2 : c'.size = m := by first | rfl | simp [tab_size]) (h3 : c'.toList.all one = true := by first | rfl | exact tab_all (fun _ => rfl))
    (hw : ∀ j, wantE ⟨none, .store t x y, oty, pos, af, g⟩ all (mk l j) = true := by intro j; rfl) : RunS P f n R (.ops all (⟨none, .store t x y, oty, pos, af, g⟩ :: rest) :: k) l As := .mk fun H M q => by
  obtain ⟨Cs, s1, s2⟩ := u.sels
  obtain ⟨hb, hq⟩ := own_write (o' := .cells c' ty (0, 0)) (s1.sat q)
  refine run_st b 0 m (.agg c') c' hw hx hy hb (by simpa [Value.cells] using h2) (by omega) h3 (by show setL c 0 c'.toList = c'; rw [setL_whole (by simp [h1, h2])]) (h _ _ (s2.back hq))
theorem lk_ldt {t : TypeId} {x : Operand} {b off m d : Nat} {c : Nat → Value} {ty : TypeId} {fr : Nat × Nat} [hag : AG P t false] (hx : ∀ j, ev (mk l j) x = .pointer (some ⟨b, off, none⟩) := by intro j; rfl)
    (s : Sel (.own b (.cells (tab m c) ty fr)) As Bs := by repeat (first | with_reducible exact Sel.here | with_reducible apply Sel.there)) (hl : off < m := by omega) :
    LookS P ⟨some d, .load t x, oty, pos, af, g⟩ l As (c off) := .mk fun j _ _ q => qt_ld1 rfl (hx j) hag.h (.inl (s.hold q)) (tab_get hl)
end
section
variable {P : Program} {f : FuncId} {n : Nat} {R : Value → HP} {k : List It} {l : List (Nat × Value)} {As Bs : List HP} {all : Array Oper} {rest : List Oper} {d : Nat} {oty : TypeId} {pos : String} {af : Array Edge} {g : Option (Nat × Bool)}
theorem lk_ldv {t : TypeId} {x : Operand} {b off m : Nat} {c : Nat → Value} {v : Value} {ty : TypeId} {fr : Nat × Nat} [hag : AG P t false] (hx : ∀ j, ev (mk l j) x = .pointer (some ⟨b, off, none⟩) := by intro j; rfl)
    (s : Sel (.own b (.cells (tab m c) ty fr)) As Bs := by repeat (first | with_reducible exact Sel.here | with_reducible apply Sel.there)) (hv : c off = v) (hl : off < m := by omega) :
    LookS P ⟨some d, .load t x, oty, pos, af, g⟩ l As v := .mk fun j _ _ q => qt_ld1 rfl (hx j) hag.h (.inl (s.hold q)) (by rw [tab_get hl, hv])
theorem lk_ldNv {t : TypeId} {x : Operand} {b off m k : Nat} {c : Array Value} {vs : Array Value} {ty : TypeId} {fr : Nat × Nat} [hag : AG P t true] [hs : SZ P t k] (hx : ∀ j, ev (mk l j) x = .pointer (some ⟨b, off, none⟩) := by intro j; rfl)
    (s : Sel (.own b (.cells c ty fr)) As Bs := by repeat (first | with_reducible exact Sel.here | with_reducible apply Sel.there)) (hv : c.extract off (off + k) = vs) (hc : c.size = m := by first | rfl | exact tab_size _ _) (hl : off + k ≤ m := by omega) :
    LookS P ⟨some d, .load t x, oty, pos, af, g⟩ l As (.agg vs) := .mk fun j _ _ q => qt_ldN rfl (hx j) hag.h hs.h (.inl (s.hold q)) (by omega) hv
theorem s_sttN {t : TypeId} {x y : Operand} {b off m w : Nat} {c c' : Nat → Value} {vs : List Value} {ty : TypeId} {As' : List HP} [hs : SZ P t w]
    (hx : ∀ j, ev (mk l j) x = .pointer (some ⟨b, off, none⟩) := by intro j; rfl) (hy : ∀ j, ev (mk l j) y = .agg vs.toArray := by intro j; rfl)
    (u : Upd (.own b (.cells (tab m c) ty (0, 0))) (.own b (.cells (tab m c') ty (0, 0))) As As' := by repeat (first | with_reducible exact Upd.here | with_reducible apply Upd.there))
    (hv : setL (tab m c) off vs = tab m c') (h : RunS P f n R (.ops all rest :: k) l As') (h2 : Nat.beq vs.length w = true := by rfl) (h3 : vs.all one = true := by rfl) (hl : off + w ≤ m := by omega)
    (hw : ∀ j, wantE ⟨none, .store t x y, oty, pos, af, g⟩ all (mk l j) = true := by intro j; rfl) : RunS P f n R (.ops all (⟨none, .store t x y, oty, pos, af, g⟩ :: rest) :: k) l As := .mk fun H M q => by
  obtain ⟨Cs, s1, s2⟩ := u.sels
  obtain ⟨hb, hq⟩ := own_write (o' := .cells (tab m c') ty (0, 0)) (s1.sat q)
  have h2' := Nat.eq_of_beq_eq_true h2
  exact run_st b off w (.agg vs.toArray) (tab m c') hw hx hy hb (by simpa [Value.cells] using h2') (by rw [tab_size]; omega) (by simpa [Value.cells] using h3) (by simpa [Value.cells] using hv) (h _ _ (s2.back hq))
theorem st_sttN {dd : Option Nat} {t : TypeId} {x y : Operand} {b off m w : Nat} {c c' : Nat → Value} {vs : List Value} {ty : TypeId} {As' : List HP} [hs : SZ P t w]
    (hx : ∀ j, ev (mk l j) x = .pointer (some ⟨b, off, none⟩) := by intro j; rfl) (hy : ∀ j, ev (mk l j) y = .agg vs.toArray := by intro j; rfl)
    (u : Upd (.own b (.cells (tab m c) ty (0, 0))) (.own b (.cells (tab m c') ty (0, 0))) As As' := by repeat (first | with_reducible exact Upd.here | with_reducible apply Upd.there))
    (hv : setL (tab m c) off vs = tab m c') (h2 : Nat.beq vs.length w = true := by rfl) (h3 : vs.all one = true := by rfl) (hl : off + w ≤ m := by omega) :
    StepL P ⟨dd, .store t x y, oty, pos, af, g⟩ l As (fun _ Bs => Bs = As') := .mk fun j Fs H M q => by
  obtain ⟨Cs, s1, s2⟩ := (u.app Fs).sels
  obtain ⟨hb, hq⟩ := own_write (o' := .cells (tab m c') ty (0, 0)) (s1.sat q)
  have h2' := Nat.eq_of_beq_eq_true h2
  refine hmc_of_hm ?_
  show hm P (Instr.storeAt t (ev (mk l j) x) (ev (mk l j) y) >>= fun _ => pure Next.skip) H M _
  rw [hx j, hy j]
  refine hm_bind (hm_st hs.h hb (by simpa [Value.cells] using h2') (by rw [tab_size]; omega) (fun j _ _ h => by omega) (fun u hu => List.all_eq_true.1 h3 u (by simpa [Value.cells] using hu)) (hm_pure ⟨undef, .inr ⟨rfl, rfl⟩, As', rfl, ?_⟩))
  have : setL (tab m c) off (Value.agg vs.toArray).cells.toList = tab m c' := by simpa [Value.cells] using hv
  rw [this]; exact s2.back hq
theorem st_lk {o : Oper} {v : Value} (hv : LookS P o l As v) : StepL P o l As (fun u Bs => u = v ∧ Bs = As) := .mk fun j Fs H M s w0 w hh =>
  ⟨_, w, hv j H M (star_fst (Sat.part s)) w0 w hh, H, M, hh, As, ⟨rfl, rfl⟩, s⟩
inductive RVS (P : Program) (As : List HP) (e : Nat → Value) : List ResultVar → List Value → Prop
  | nil : RVS P As e [] []
  | tmp {t r vs} (v : Value) : e t = v → RVS P As e r vs → RVS P As e (.tmp t :: r) (v :: vs)
  | cell {a t r vs} (b m : Nat) {c : Array Value} {ty : TypeId} {fr : Nat × Nat} {Bs : List HP} [AG P t true] [SZ P t m] : e a = .pointer (some ⟨b, 0, none⟩) → Sel (.own b (.cells c ty fr)) As Bs → c.size = m → RVS P As e r vs → RVS P As e (.cell a t :: r) (.agg c :: vs)
theorem RVS.rv {e : Nat → Value} {rs : List ResultVar} {vs : List Value} (h : RVS P As e rs vs) {H M : Heap} (s : (Sat As).p H M) : RV P H M e rs vs := by
  induction h with
  | nil => exact .nil
  | tmp v hv _ ih => exact .tmp v hv ih
  | cell b m ha sl hc _ ih => rename_i ag sz _; exact .cell b 0 m _ ha ag.h sz.h (.inl (sl.hold s)) (by omega) (extract_whole hc) ih
theorem s_retv {fn : Func} {rs : List ResultVar} {vs : List Value} {Q : Value → List HP → Prop} {F : HP} (hf : P.funcs[f]? = some fn) (hr : ∀ j, RVS P As (mk l j) rs vs) (hq : Q (resv vs) Bs) (he : Ent As (Bs ++ [F])) (hrs : fn.results.toList = rs := by rfl) :
    RunS P f n (post Q F) (.code .ret :: k) l As := .mk fun H M s => run_retv vs hf hrs (fun j => (hr j).rv s) ⟨Bs, hq, he.sat s⟩
end
section
variable {P : Program} {f : FuncId} {n : Nat} {k : List It} {l : List (Nat × Value)} {As Bs : List HP}
theorem s_rett {fn : Func} {rs : List ResultVar} {vs : List Value} {Q : Value → List HP → Prop} {F : HP} (hf : P.funcs[f]? = some fn) (hrs : fn.results.toList = rs) (hr : ∀ j, RVS P As (mk l j) rs vs) (h2 : Nat.beq vs.length 1 = false) (hq : Q (.tuple vs.toArray) Bs) (he : Ent As (Bs ++ [F])) :
    RunS P f n (post Q F) (.code .ret :: k) l As := s_retv hf hr (by
      match vs, h2 with
      | [], _ => exact hq
      | [v], h => cases h
      | _ :: _ :: _, _ => exact hq) he hrs
theorem s_ret1 {fn : Func} {rs : List ResultVar} {v : Value} {Q : Value → List HP → Prop} {F : HP} (hf : P.funcs[f]? = some fn) (hrs : fn.results.toList = rs) (hr : ∀ j, RVS P As (mk l j) rs [v]) (hq : Q v Bs) (he : Ent As (Bs ++ [F])) :
    RunS P f n (post Q F) (.code .ret :: k) l As := s_retv (vs := [v]) hf hr hq he hrs
end
/-- a contract over known blocks, as one over assertions: a block that is read; one that is changed -/
theorem Ctr.same {P : Program} {q : FuncId} {args : List Value} {b : Nat} {o : Obj} {φ : Value → Prop} (h : ∀ H M, M b = some o → ACalls P q args.toArray H M (fun v H' M' => φ v ∧ H' = H ∧ Ch [] M M')) : Ctr P q args [.own b o] (fun v Bs => φ v ∧ Bs = [.own b o]) := fun F H M s =>
  (h H M (star_fst s)).mono fun v H' M' ⟨hv, hH, hc⟩ => ⟨_, ⟨hv, rfl⟩, by subst hH; exact (Sat _).mono (Le.refl _) (fun c o hc' => hc c o (by simp) hc') s⟩
theorem Ctr.chg {P : Program} {q : FuncId} {args : List Value} {b : Nat} {o : Obj} {φ : Value → Obj → Prop} (h : ∀ H M, M b = some o → ACalls P q args.toArray H M (fun v H' M' => ∃ o', φ v o' ∧ H' = H ∧ M' b = some o' ∧ Ch [b] M M')) : Ctr P q args [.own b o] (fun v Bs => ∃ o', φ v o' ∧ Bs = [.own b o']) := fun F H M s => by
  refine (h H M (star_fst s)).mono fun v H' M' ⟨o', hv, hH, hb, hc⟩ => ⟨_, ⟨o', hv, rfl⟩, ?_⟩
  subst hH
  obtain ⟨M1, M2, a1, a2, dj, hA, hB⟩ := s
  have h2 : ∀ c, M2 c ≠ none → c ≠ b := fun c hne e => by
    subst e
    rcases dj c with h3 | h3
    · rw [show M1 c = some o from hA] at h3; cases h3
    · exact hne h3
  refine ⟨fun c => if c = b then some o' else none, M2, ?_, ?_, ?_, if_pos rfl, hB⟩
  · intro c u hu
    dsimp only at hu
    split at hu
    · rename_i e; subst e; rw [hb]; exact hu
    · cases hu
  · intro c u hu
    exact hc c u (by simpa using h2 c (by rw [hu]; simp)) (a2 c u hu)
  · intro c
    by_cases e : c = b
    · subst e
      refine .inr ?_
      cases h3 : M2 c with
      | none => rfl
      | some u => exact absurd rfl (h2 c (by rw [h3]; simp))
    · exact .inl (if_neg e)
theorem Ctr.pure {P : Program} {q : FuncId} {args : List Value} {φ : Value → Prop} (h : ∀ H M, ACalls P q args.toArray H M (fun v H' M' => φ v ∧ H' = H ∧ Ch [] M M')) : Ctr P q args [] (fun v Bs => φ v ∧ Bs = []) := fun F H M s =>
  (h H M).mono fun v H' M' ⟨hv, hH, hc⟩ => ⟨_, ⟨hv, rfl⟩, by subst hH; exact (Sat _).mono (Le.refl _) (fun c o hc' => hc c o (by simp) hc') s⟩
end Go.Cam
/- From what a row of the law hands over to assertions, and from a contract to what the row asks. -/
namespace Go.Cam
open Go.ChangeShapes Go.WideShapes Go.ChangeAt Go.RowKit Go.Deep
theorem extract_rows {c : Array Value} {off sz : Nat} {row : Nat → List Value} : ∀ {n : Nat}, (∀ i, i < n → c.extract (off + i * sz) (off + i * sz + sz) = (row i).toArray ∧ off + i * sz + sz ≤ c.size) → c.extract off (off + n * sz) = (flat n row).toArray
  | 0, _ => by simp [flat]; omega
  | n + 1, h => by
    have ih := extract_rows (n := n) fun i hi => h i (by omega)
    obtain ⟨h1, h2⟩ := h n (by omega)
    have e1 := congrArg Array.toList ih
    have e2 := congrArg Array.toList h1
    rw [Array.toList_extract, List.extract_eq_take_drop, Nat.add_sub_cancel_left] at e1 e2
    dsimp only at e1 e2
    apply Array.ext'
    rw [Array.toList_extract, List.extract_eq_take_drop, Nat.add_sub_cancel_left, flat_succ, Nat.add_mul, Nat.one_mul, List.take_add, e1, List.drop_drop, e2]
section
variable {H : Type} {enc : TypeId × Value → H} {P : Program} {w : World} {base : Nat} {held : Bool}
theorem rows_sa {t e : TypeId} {sz : Nat} {ks : List Kd} {v : Value} {x : DataW H} {ps : List MemPlace} (ht : P.underlying t = some (.slice e)) (hsz : P.cellsOf e = sz) (h0 : 0 < sz) (d : Nat) (hk : flatK P d e = some ks) (hks : ks.length = sz)
    (hv : ∃ a len cap, v = .slice a len cap) (h : DataW.Trod enc P w base (fun _ => true) true t v x ps) : ∃ a len cap row, v = .slice a len cap ∧ (∀ i, i < len → Fit ks (row i)) ∧ ∀ M, (SA none sz (.slice a len cap) len row).p (fun b => w.heap[b]?) M := by
  have hcap : ∃ a len cap, v = .slice a len cap ∧ len ≤ cap := by
    obtain ⟨fuel, hf⟩ := h
    obtain ⟨a0, len0, cap0, rfl⟩ := hv
    rcases open_slice ht hf with ⟨hcs, hx⟩ | ⟨a, len, cap, m, n, D, Pl, hcs, _, hl, hm, hmm, hx, hi⟩
    · simp [Value.cells] at hcs
      obtain ⟨rfl, rfl, rfl⟩ := hcs
      exact ⟨_, _, _, rfl, Nat.le_refl _⟩
    · simp [Value.cells] at hcs
      obtain ⟨rfl, rfl, rfl⟩ := hcs
      simp only [if_true] at hmm
      exact ⟨_, _, _, rfl, by omega⟩
  obtain ⟨len, row, ⟨bs, cap, rfl, hr⟩, hf⟩ := rows_of ht hsz h0 d hk hv h
  obtain ⟨a1, len1, cap1, e1, hle⟩ := hcap
  cases e1
  refine ⟨bs, len, cap, row, rfl, hf, fun M => ⟨bs, cap, rfl, hle, fun i hi => by rw [(hf i hi).len, hks], fun hn => ?_⟩⟩
  obtain ⟨b, off, c, ty, fr, rfl, hb, _, _⟩ := hr 0 hn
  have hall : ∀ i, i < len → c.extract (off + i * sz) (off + i * sz + sz) = (row i).toArray ∧ off + i * sz + sz ≤ c.size := fun i hi => by
    obtain ⟨b2, off2, c2, ty2, fr2, e2, hb2, h3, h4⟩ := hr i hi
    cases e2
    have : some (Obj.cells c ty fr) = some (.cells c2 ty2 fr2) := hb.symm.trans hb2
    cases this
    exact ⟨h4, h3⟩
  refine ⟨b, off, c, ty, fr, rfl, hb, ?_, extract_rows hall⟩
  obtain ⟨k, rfl⟩ : ∃ k, len = k + 1 := ⟨len - 1, by omega⟩
  have := (hall k (by omega)).2
  rw [Nat.add_mul, Nat.one_mul]; omega
end
theorem below_ctr {P : Program} {f : FuncId} {args : List Value} {As : List HP} {W : World} {V : Value} (h : Ctr P f args As (fun v Bs => v = V ∧ Bs = [])) (hA : (Sat As).p (held W) nil) :
    Calls P f args.toArray W (fun e W' => e = .returned V ∧ Below W.heap.size W W') := by
  let F : HP := .per (fun H => Le (held W) H) fun h1 h2 => h2.trans h1
  have s : (Sat (As ++ [F])).p (held W) nil := Sat.join (star_comm (per_add (M0 := nil) (A := F) (Le.refl _) hA))
  refine (h F (held W) nil s W W (Has.start W)).mono fun e W' ⟨v, H', M', he, hh, Bs, ⟨hv, hb⟩, hs⟩ => ?_
  subst he; subst hv; subst hb
  have hle : Le (held W) H' := star_fst hs
  refine ⟨rfl, hh.os, hh.tape, hh.output, hh.size, fun k hk => ?_⟩
  have : W.heap[k]? = some W.heap[k] := Array.getElem?_eq_getElem hk
  rw [this]
  exact hh.h k _ (hle k _ this)
end Go.Cam
/- Parts of slices, over assertions; append of zeros to nothing. -/
namespace Go.Cam
def sladdr (a : Option Addr) (sz p cap : Nat) : Option Addr := if cap = p then a else a.map fun x => x.add (p * sz)
section
variable {P : Program} {f : FuncId} {n : Nat} {R : Value → HP} {k : List It} {l : List (Nat × Value)} {As Bs : List HP} {all : Array Oper} {rest os : List Oper} {d : Nat} {oty : TypeId} {pos : String} {af : Array Edge} {g : Option (Nat × Bool)}
theorem qs_slc' {H M : Heap} {d : Option Nat} {t : TypeId} {x : Operand} {lo hi : Option Operand} {e : Nat → Value} {a : Option Addr} {len cap el sz : Nat} (p q : Nat) [sc : SC P t el] [hs : SZ P el sz]
    (hx : ev e x = .slice a len cap) (hlo : loB e lo p) (hhi : hiB e hi len q) (hl : p ≤ q) (hh : q ≤ cap) :
    Qs P ⟨d, .slice t x lo hi none, oty, pos, af, g⟩ e H M (.slice (sladdr a sz p cap) (q - p) (cap - p)) := by
  refine qt_exec (s := Instr.sliceAt t (ev e x) (lo.map (ev e)) (hi.map (ev e)) none) (by unfold execOp; rfl) fun w0 w _ => ?_
  refine cst_run _ ?_ w
  rw [hx]
  unfold Instr.sliceAt
  rw [cst_bind sc.h]
  dsimp only
  unfold Instr.slice
  rw [cst_bind sc.h]
  dsimp only
  have hb : cst P (Instr.sliceBounds true len cap (lo.map (ev e)) (hi.map (ev e)) none) = some (p, q, cap) := by
    unfold Instr.sliceBounds
    cases lo with
    | none =>
      simp only [loB] at hlo
      subst hlo
      cases hi with
      | none => simp only [hiB] at hhi; subst hhi; rfl
      | some y =>
        obtain ⟨k, hy⟩ := hhi
        simp only [Option.map_none, Option.map_some, pure_bind]
        rw [cst_bind (cst_sliceBound hy hh)]; rfl
    | some z =>
      obtain ⟨k', hz⟩ := hlo
      cases hi with
      | none =>
        simp only [hiB] at hhi
        subst hhi
        simp only [Option.map_none, Option.map_some, pure_bind]
        rw [cst_bind (cst_sliceBound hz hl)]; rfl
      | some y =>
        obtain ⟨k, hy⟩ := hhi
        simp only [Option.map_some, pure_bind]
        rw [cst_bind (cst_sliceBound hy hh), cst_bind (cst_sliceBound hz hl)]; rfl
  rw [cst_bind hb]
  dsimp only
  rw [cst_bind hs.h]
  unfold sladdr
  by_cases hc : cap = p
  · simp only [if_pos hc]; rfl
  · simp only [if_neg hc]; rfl
/-- a part of a slice -/
theorem lk_slc (p q : Nat) {t : TypeId} {x : Operand} {lo hi : Option Operand} {a : Option Addr} {len cap el sz : Nat} [SC P t el] [SZ P el sz]
    (hl : p ≤ q) (hh : q ≤ cap) (hx : ∀ j, ev (mk l j) x = .slice a len cap := by intro j; rfl) (hlo : ∀ j, loB (mk l j) lo p := by intro j; first | rfl | exact ⟨_, rfl⟩) (hhi : ∀ j, hiB (mk l j) hi len q := by intro j; first | rfl | exact ⟨_, rfl⟩) :
    LookS P ⟨some d, .slice t x lo hi none, oty, pos, af, g⟩ l As (.slice (sladdr a sz p cap) (q - p) (cap - p)) := .mk fun j _ _ _ => qs_slc' p q (hx j) (hlo j) (hhi j) hl hh
end
theorem sladdr0 (a : Option Addr) (sz cap : Nat) : sladdr a sz 0 cap = a := by
  unfold sladdr
  split
  · rfl
  · cases a with
    | none => rfl
    | some x => simp [Addr.add]
/-- what is read of a slice is read of its part -/
theorem SA.part {sz : Nat} {a : Option Addr} {n cap : Nat} {row : Nat → List Value} (p q : Nat) (hp : p ≤ q) (hq : q ≤ n) (H M : Heap) (h : (SA none sz (.slice a n cap) n row).p H M) :
    (SA none sz (.slice (sladdr a sz p cap) (q - p) (cap - p)) (q - p) (fun i => row (p + i))).p H M := by
  obtain ⟨base, cap', e, hc, h1, h2⟩ := h
  cases e
  refine ⟨_, _, rfl, by omega, fun i hi => h1 _ (by omega), fun h0 => ?_⟩
  obtain ⟨b, off, c, ty, fr, rfl, kn, hs, hx⟩ := h2 (by omega)
  have hne : cap ≠ p := by omega
  have hle : (p + (q - p)) * sz ≤ n * sz := Nat.mul_le_mul_right _ (by omega)
  rw [Nat.add_mul] at hle
  refine ⟨b, off + p * sz, c, ty, fr, by unfold sladdr; rw [if_neg hne]; simp [addr_add], kn, by omega, ?_⟩
  have h3 := flat_part (k := q - p) h1 (show p + (q - p) ≤ n by omega)
  have h4 : ((flat n row).toArray.extract (p * sz) (p * sz + (q - p) * sz)) = (flat (q - p) fun i => row (p + i)).toArray := by
    rw [← h3]
    apply Array.ext'
    rw [Array.toList_extract, List.extract_eq_take_drop]
    simp
  rw [← h4, ← hx]
  rw [Array.extract_extract]
  congr 1
  omega
/-- a slice of one's own, cut -/
theorem SA.cut {e sz : Nat} {a : Option Addr} {n cap : Nat} {row : Nat → List Value} (m : Nat) (hm : m ≤ n) (H M : Heap) (h : (SA (some e) sz (.slice a n cap) n row).p H M) : (SA (some e) sz (.slice a m cap) m row).p H M := by
  obtain ⟨h1, h2, h3, _⟩ := h
  obtain ⟨d, rfl⟩ : ∃ d, n = m + d := ⟨n - m, by omega⟩
  have hf : flat (m + d) row = flat m row ++ flat d (fun q => row (m + q)) := flat_add m d row
  refine ⟨fun i hi => h1 i (by omega), ?_, ?_, _, _, rfl⟩
  · rw [hf, List.all_append, Bool.and_eq_true] at h2; exact h2.1
  · generalize hN : m + d = N at *
    rcases h3 with ⟨e1, e2⟩ | ⟨b, len, cap', cs, e1, h4, h5, h6, h7, h8⟩
    · cases e1
      obtain rfl : m = 0 := by omega
      exact .inl ⟨rfl, rfl⟩
    · cases e1
      refine .inr ⟨b, m, cap, cs, rfl, flat_len fun i hi => h1 i (by omega), h5, by omega, h7, ?_⟩
      rw [hf] at h8
      have := congrArg (fun l => l.take (flat m row).length) h8
      rw [List.take_take, List.length_append, Nat.min_eq_left (by omega), List.take_left' rfl] at this
      exact this
/-! append of zeros to nothing -/
theorem hm_appz {P : Program} {H M : Heap} {t ti e sz bytes m : Nat} {it : IntKind} [sl : SL P t e sz bytes] {K : Value → Heap → Heap → Prop} {z : Value} [zv : ZV P e z] (hti : cst P (underlying ti) = some (.int it)) (hm0 : 0 < m)
    (hroom : (m + 512) * bytes ≤ 140737488355328) (h63 : m < 9223372036854775808)
    (h : ∀ r nc, Fresh H M r → m ≤ nc → K (.slice (some ⟨r, 0, none⟩) m nc) H (upd M r (.cells (Builtin.zeroCells z.cells m ++ Builtin.zeroCells z.cells (nc - m)) e))) :
    hm P (Builtin.append_ #[t, ti] t #[.slice none 0 0, .int .i64 (m : Int)]) H M K := by
  obtain ⟨i, z', hu, hs, hi, hby, hb0, hz, hzs, hsz⟩ := sl.h
  have hzz : z' = z := by have := hz.symm.trans zv.h; exact Option.some.inj this
  subst hzz
  unfold Builtin.append_
  simp only [List.getElem?_toArray, List.getElem?_cons_zero, List.getElem?_cons_succ]
  refine hm_bind (hm_cst hu ?_)
  dsimp only
  refine hm_bind (hm_cst hs ?_)
  refine hm_bind (hm_cst hti ?_)
  dsimp only
  refine hm_bind (hm_pure ?_)
  simp only [if_true, Bool.not_true, Bool.false_eq_true, if_false]
  refine hm_bind (hm_cst (a := (m : Int)) rfl ?_)
  rw [wrap_id (by omega) (by omega)]
  rw [if_neg (by omega)]
  refine hm_bind (hm_cst hi ?_)
  have hmb : (m : Int) * (i.bytes : Int) ≤ 2 ^ 48 := by
    rw [hby]
    have h2 : m * bytes ≤ 140737488355328 := Nat.le_trans (Nat.mul_le_mul_right _ (by omega)) hroom
    have h3 : ((m * bytes : Nat) : Int) ≤ 140737488355328 := by omega
    rw [Int.natCast_mul] at h3; omega
  rw [if_neg (by omega)]
  refine hm_bind (hm_pure ?_)
  simp only [Int.toNat_natCast, Nat.zero_add]
  rw [if_neg (by omega)]
  refine hm_bind (hm_cst hi ?_)
  rw [if_neg (by simp [IntKind.max, IntKind.signed, IntKind.bits]; omega)]
  refine hm_bind (hm_cst hi ?_)
  have hns := nextslicecap_le m 0 (by omega)
  have hle : Builtin.nextslicecap m 0 * i.bytes ≤ 2 ^ 48 := by
    rw [hby]
    have h2 : Builtin.nextslicecap m 0 * bytes ≤ (2 * m + 1024) * bytes := Nat.mul_le_mul_right _ hns
    have h3 : (2 * m + 1024) * bytes = 2 * ((m + 512) * bytes) := by rw [show 2 * m + 1024 = 2 * (m + 512) from by omega, Nat.mul_assoc]
    omega
  rw [if_neg (by omega)]
  refine hm_bind (hm_choose fun newCap _ hcut => ?_)
  obtain ⟨tt, rfl⟩ := hcut rfl
  refine hm_bind (hm_cst hi ?_)
  refine hm_bind (hm_askRoom ?_)
  have hnc : m ≤ (Question.appendCap m 0 e).cut tt := by simp [Question.cut]
  generalize (Question.appendCap m 0 e).cut tt = nc at hnc
  refine hm_bind (hm_cst (a := #[]) rfl ?_)
  rw [if_neg (by have := Nat.mul_pos hm0 hsz; omega)]
  refine hm_bind ?_
  refine hm_bind (hm_cst hz ?_)
  refine hm_pure ?_
  refine hm_bind (hm_cst hz ?_)
  refine hm_bind (hm_newRow fun r hr => hm_pure ?_)
  have := h r nc hr hnc
  simpa using this
theorem zeroCells_flat (z : Array Value) {sz : Nat} (hz : z.size = sz) (hsz : 0 < sz) (m : Nat) : Builtin.zeroCells z m = (flat m (fun _ => z.toList)).toArray := by
  unfold Builtin.zeroCells
  rw [hz, range_map]
  symm
  have hln : (flat m (fun _ => z.toList)).length = m * sz := flat_len fun _ _ => by simpa using hz
  refine arr_eq_tab (by simpa using hln) fun i hi => ?_
  have h1 : i / sz < m := Nat.div_lt_of_lt_mul (by rw [Nat.mul_comm]; exact hi)
  have h2 := flat_row (row := fun _ => z.toList) (n := m) (fun _ _ => by simpa using hz) h1
  have h3 := congrArg (fun l => l[i % sz]?) h2
  simp only [List.getElem?_take, Nat.mod_lt i hsz, if_true, List.getElem?_drop] at h3
  rw [show i / sz * sz + i % sz = i by rw [Nat.mul_comm]; exact Nat.div_add_mod i sz] at h3
  have h4 : i % sz < z.size := by rw [hz]; exact Nat.mod_lt i hsz
  rw [List.getElem?_toArray, h3, getElem!_pos z (i % sz) h4]
  simp [h4]
theorem execOp_appz (e : Nat → Value) {d : Option Nat} {pos : String} {af : Array Edge} {g : Option (Nat × Bool)} {t ti : TypeId} {p q : Operand} : execOp (ev e) ⟨d, .call ⟨.builtin .append, #[p, q], #[t, ti]⟩, t, pos, af, g⟩ = (Builtin.append_ #[t, ti] t #[ev e p, ev e q] >>= fun v => pure (Next.value v)) := by
  show (resolve (ev e) ⟨.builtin .append, #[p, q], #[t, ti]⟩ t >>= fun d => invoke d.target d.args) = _
  have : #[p, q].map (ev e) = #[ev e p, ev e q] := by simp
  unfold resolve
  dsimp only
  rw [this]; rfl
section
variable {P : Program} {f : FuncId} {n : Nat} {R : Value → HP} {k : List It} {l : List (Nat × Value)} {As Bs : List HP} {all : Array Oper} {rest os : List Oper} {d : Nat} {dd : Option Nat} {oty : TypeId} {pos : String} {af : Array Edge} {g : Option (Nat × Bool)}
/-- append(nil, make([]T, m)...) -/
theorem st_appz {t ti e sz bytes m : Nat} {p q : Operand} {it : IntKind} {z : Value} [sl : SL P t e sz bytes] [zv : ZV P e z] [o1 : OneL z.cells.toList] (hti : cst P (underlying ti) = some (.int it)) (hm0 : 0 < m)
    (hp : ∀ j, ev (mk l j) p = .slice none 0 0 := by intro j; rfl) (hq : ∀ j, ev (mk l j) q = .int .i64 (m : Int) := by intro j; rfl)
    (hroom : (m + 512) * bytes ≤ 140737488355328 := by omega) (h63 : m < 9223372036854775808 := by omega) :
    StepL P ⟨dd, .call ⟨.builtin .append, #[p, q], #[t, ti]⟩, t, pos, af, g⟩ l As (fun v Bs => ∃ a cap, v = .slice a m cap ∧ m ≤ cap ∧ Bs = SA (some e) sz (.slice a m cap) m (fun _ => z.cells.toList) :: As) := .mk fun j Fs H M s => by
  obtain ⟨i, z', hu, hs, hi, hby, hb0, hz, hzs, hsz⟩ := sl.h
  have hzz : z' = z := by have := hz.symm.trans zv.h; simpa using this
  subst hzz
  refine hmc_of_hm ?_
  rw [execOp_appz, hp j, hq j]
  refine hm_bind (hm_appz hti hm0 hroom h63 fun r nc hr hnc => hm_pure ⟨_, .inl rfl, _, ⟨_, _, rfl, hnc, rfl⟩, star_monoL (fun H M h => ?_) (own_new hr s)⟩)
  have hln : (flat m (fun _ => z'.cells.toList)).length = m * sz := flat_len fun _ _ => by simpa using hzs
  refine ⟨fun _ _ => by simpa using hzs, ?_, .inr ⟨r, m, nc, _, rfl, hln, ?_, hnc, h, ?_⟩, _, _, rfl⟩
  · rw [List.all_eq_true]
    intro u hu
    obtain ⟨i, _, h2⟩ := List.mem_flatMap.1 hu
    exact List.all_eq_true.1 o1.h u h2
  · rw [zeroCells_flat _ hzs hsz, zeroCells_flat _ hzs hsz]
    have h2 : (flat (nc - m) (fun _ => z'.cells.toList)).length = (nc - m) * sz := flat_len fun _ _ => by simpa using hzs
    simp only [Array.size_append, List.size_toArray, hln, h2]
    rw [← Nat.add_mul]; congr 1; omega
  · rw [zeroCells_flat _ hzs hsz]
    simp only [Array.toList_append]
    exact List.take_left' rfl
end
section
variable {P : Program} {H M : Heap} {l : List (Nat × Value)} {As : List HP} {oty : TypeId} {pos : String} {af : Array Edge} {g : Option (Nat × Bool)}
theorem qs_cap {d : Option Nat} {t : TypeId} {p : Operand} {e : Nat → Value} {b : Option Addr} {m c el : Nat} [sc : SC P t el] (hp : ev e p = .slice b m c) :
    Qs P ⟨d, .call ⟨.builtin .cap, #[p], #[t]⟩, oty, pos, af, g⟩ e H M (.int .i64 c) := by
  refine qt_cst ?_
  show cst P (resolve (ev e) ⟨.builtin .cap, #[p], #[t]⟩ oty >>= fun d => invoke d.target d.args) = _
  have e1 : #[p].map (ev e) = #[ev e p] := by simp
  unfold resolve
  dsimp only
  rw [e1, hp]
  show cst P (Builtin.cap_ #[t] oty #[.slice b m c] >>= fun v => pure (Next.value v)) = _
  unfold Builtin.cap_
  simp only [List.getElem?_toArray, List.getElem?_cons_zero]
  rw [cst_of_run, cst_of_run, sc.h]
  rfl
theorem lk_cap {d : Nat} {t : TypeId} {p : Operand} {a : Option Addr} {n c el : Nat} [sc : SC P t el] (hx : ∀ j, ev (mk l j) p = .slice a n c := by intro j; rfl) :
    LookS P ⟨some d, .call ⟨.builtin .cap, #[p], #[t]⟩, oty, pos, af, g⟩ l As (.int .i64 (c : Int)) := .mk fun j _ _ _ => qs_cap (hx j)
end
theorem s_again {P : Program} {f : FuncId} {n : Nat} {R : Value → HP} {k : List It} {l : List (Nat × Value)} {As : List HP} {c : Code} (h : RunS P f n R (.code c :: .inLoop c :: k) l As) : RunS P f n R (.inLoop c :: k) l As := .mk fun H M s => run_inLoop (h H M s)
theorem SA.cap {m : Option Nat} {sz : Nat} {a : Option Addr} {n c : Nat} {row : Nat → List Value} (H M : Heap) (h : (SA m sz (.slice a n c) n row).p H M) : n ≤ c := by
  obtain ⟨_, _, e, h2⟩ := SA.val h; cases e; exact h2
/-- what is read of a slice, and its part too -/
theorem s_part (p q : Nat) {P : Program} {f : FuncId} {n : Nat} {R : Value → HP} {k : List It} {l : List (Nat × Value)} {As Bs : List HP} {sz : Nat} {a : Option Addr} {m cap : Nat} {row : Nat → List Value} (hp : p ≤ q) (hq : q ≤ m) (s : Sel (SA none sz (.slice a m cap) m row) As Bs)
    (h : RunS P f n R k l (SA none sz (.slice (sladdr a sz p cap) (q - p) (cap - p)) (q - p) (fun i => row (p + i)) :: As)) : RunS P f n R k l As :=
  s_dup s (s_open (SA.part p q hp hq) h)
theorem s_nilN {P : Program} {f : FuncId} {n : Nat} {R : Value → HP} {k : List It} {l : List (Nat × Value)} {As : List HP} {sz m : Nat} {row : Nat → List Value} (hm : m = 0) (h : RunS P f n R k l (SA none sz (.slice none m 0) m row :: As)) : RunS P f n R k l As := .mk fun H M s =>
  h H M (per_add (M0 := M) ⟨none, 0, rfl, by omega, fun i h => by omega, fun h => by omega⟩ s)
theorem shl8_or (x c : Nat) (hx : x < 281474976710656) (hc : c < 256) : IntKind.i64.wrap ((BitVec.ofInt IntKind.i64.bits (IntKind.i64.wrap ((x : Int) * 2 ^ min (Int.toNat 8) IntKind.i64.bits)) ||| BitVec.ofInt IntKind.i64.bits (IntKind.i64.wrap (c : Int))).toNat : Nat) = ((x * 256 + c : Nat) : Int) := by
  have e1 : ((x : Int) * 2 ^ min (Int.toNat 8) IntKind.i64.bits) = ((x * 256 : Nat) : Int) := by
    rw [show (min (Int.toNat 8) IntKind.i64.bits) = 8 from rfl]; omega
  rw [e1, wrap_id (x := ((x * 256 : Nat) : Int)) (by omega) (by omega), wrap_id (x := (c : Int)) (by omega) (by omega)]
  have e2 : (BitVec.ofInt IntKind.i64.bits ((x * 256 : Nat) : Int) ||| BitVec.ofInt IntKind.i64.bits (c : Int)).toNat = x * 256 + c := by
    show (BitVec.ofInt 64 ((x * 256 : Nat) : Int) ||| BitVec.ofInt 64 (c : Int)).toNat = x * 256 + c
    rw [BitVec.toNat_or, BitVec.ofInt_natCast, BitVec.ofInt_natCast, BitVec.toNat_ofNat, BitVec.toNat_ofNat, Nat.mod_eq_of_lt (by omega), Nat.mod_eq_of_lt (by omega)]
    have := Nat.two_pow_add_eq_or_of_lt (i := 8) (b := c) (by omega) x
    rw [show 2 ^ 8 * x = x * 256 by omega] at this
    omega
  rw [e2, wrap_id (by omega) (by omega)]
end Go.Cam
/- Arrays that are cut into slices, over assertions. -/
namespace Go.Cam
section
variable {P : Program} {f : FuncId} {n : Nat} {R : Value → HP} {k : List It} {l : List (Nat × Value)} {As Bs : List HP} {d : Nat} {oty : TypeId} {pos : String} {af : Array Edge} {g : Option (Nat × Bool)}
theorem qs_slca {H M : Heap} {d : Option Nat} {t : TypeId} {x : Operand} {lo hi : Option Operand} {e : Nat → Value} {b off m el sz : Nat} (p q : Nat) [hu : AR P t m el] [hs : SZ P el sz]
    (hx : ev e x = .pointer (some ⟨b, off, none⟩)) (hlo : loB e lo p) (hhi : hiB e hi m q) (hl : p ≤ q) (hh : q ≤ m) (hpm : p < m) :
    Qs P ⟨d, .slice t x lo hi none, oty, pos, af, g⟩ e H M (.slice (some ⟨b, off + p * sz, none⟩) (q - p) (m - p)) := by
  refine qt_exec (s := Instr.sliceAt t (ev e x) (lo.map (ev e)) (hi.map (ev e)) none) (by unfold execOp; rfl) fun w0 w _ => ?_
  refine cst_run _ ?_ w
  rw [hx]
  unfold Instr.sliceAt
  rw [cst_bind hu.h]
  dsimp only
  have ha : cst P (Instr.sureAddr (.pointer (some ⟨b, off, none⟩))) = some ⟨b, off, none⟩ := rfl
  rw [cst_bind ha]
  have hb : cst P (Instr.sliceBounds false m m (lo.map (ev e)) (hi.map (ev e)) none) = some (p, q, m) := by
    unfold Instr.sliceBounds
    cases lo with
    | none =>
      simp only [loB] at hlo
      subst hlo
      cases hi with
      | none => simp only [hiB] at hhi; subst hhi; rfl
      | some y =>
        obtain ⟨k, hy⟩ := hhi
        simp only [Option.map_none, Option.map_some, pure_bind]
        rw [cst_bind (cst_sliceBound hy hh)]; rfl
    | some z =>
      obtain ⟨k', hz⟩ := hlo
      cases hi with
      | none =>
        simp only [hiB] at hhi
        subst hhi
        simp only [Option.map_none, Option.map_some, pure_bind]
        rw [cst_bind (cst_sliceBound hz hl)]; rfl
      | some y =>
        obtain ⟨k, hy⟩ := hhi
        simp only [Option.map_some, pure_bind]
        rw [cst_bind (cst_sliceBound hy hh), cst_bind (cst_sliceBound hz hl)]; rfl
  rw [cst_bind hb]
  dsimp only
  rw [cst_bind hs.h]
  simp only [if_neg (show ¬ m = p by omega), addr_add]; rfl
/-- a part of an array -/
theorem lk_slca (p q : Nat) {t : TypeId} {x : Operand} {lo hi : Option Operand} {b off m el sz : Nat} [AR P t m el] [SZ P el sz]
    (hl : p ≤ q) (hh : q ≤ m) (hpm : p < m) (hx : ∀ j, ev (mk l j) x = .pointer (some ⟨b, off, none⟩) := by intro j; rfl) (hlo : ∀ j, loB (mk l j) lo p := by intro j; first | rfl | exact ⟨_, rfl⟩) (hhi : ∀ j, hiB (mk l j) hi m q := by intro j; first | rfl | exact ⟨_, rfl⟩) :
    LookS P ⟨some d, .slice t x lo hi none, oty, pos, af, g⟩ l As (.slice (some ⟨b, off + p * sz, none⟩) (q - p) (m - p)) := .mk fun j _ _ _ => qs_slca p q (hx j) (hlo j) (hhi j) hl hh hpm
/-- a block of one's own may be only read from now on: as a slice -/
theorem s_fzo {sz m c off b : Nat} {cs : Array Value} {ty : TypeId} {fr : Nat × Nat} {row : Nat → List Value} (u : Sel (.own b (.cells cs ty fr)) As Bs) (hr : ∀ i, i < m → (row i).length = sz) (hm : m ≤ c) (hl : off + m * sz ≤ cs.size)
    (hx : cs.extract off (off + m * sz) = (flat m row).toArray) (h : RunS P f n R k l (SA none sz (.slice (some ⟨b, off, none⟩) m c) m row :: Bs)) : RunS P f n R k l As := .mk fun H M s => by
  have hs := u.sat s
  intro j w0 w a bb cs' k' hk hh ha hf hn
  obtain ⟨g1, g2⟩ := own_freeze (b := b) (o := .cells cs ty fr) (X := Sat Bs) hh.d hs
  exact h _ _ (per_add (M0 := M) ⟨_, _, rfl, hm, hr, fun _ => ⟨b, off, cs, ty, fr, rfl, upd_same _ _ _, hl, hx⟩⟩ g2) j w0 w a bb cs' k' hk (g1 _ _ hh) ha hf hn
theorem fdiv_pow (a m : Nat) : (a : Int).fdiv (2 ^ m) = ((a / 2 ^ m : Nat) : Int) := by
  have h2 : ((2 : Int) ^ m) = ((2 ^ m : Nat) : Int) := by simp
  rw [h2, Int.fdiv_eq_ediv_of_nonneg _ (Int.natCast_nonneg _), Int.natCast_ediv]
/-- a number that is not negative, shifted -/
theorem lk_shr {t t2 : TypeId} {x y : Operand} {k1 k2 : IntKind} {a m : Nat} (hx : ∀ j, ev (mk l j) x = .int k1 (a : Int) := by intro j; rfl) (hy : ∀ j, ev (mk l j) y = .int k2 (m : Int) := by intro j; rfl) (hm : m ≤ k1.bits) :
    LookS P ⟨some d, .binOp .shr t x y t2, oty, pos, af, g⟩ l As (.int k1 ((a / 2 ^ m : Nat) : Int)) := .mk fun j _ _ _ => by
  refine qs_binw rfl ?_ fun w => ?_
  · rw [hx j, hy j]; rfl
  · rw [hx j, hy j]; show (Op.shift .shr k1 a k2 m).run P w = _
    unfold Op.shift
    rw [if_neg (by omega), Int.toNat_natCast, Nat.min_eq_left hm]
    dsimp only
    rw [fdiv_pow]; rfl
theorem wrap_u64 (a : Nat) (h : a < 18446744073709551616) : IntKind.u64.wrap (a : Int) = (a : Int) := by
  simp only [IntKind.wrap, IntKind.signed, IntKind.bits]
  simp; omega
theorem wrap_u8 (a : Nat) : IntKind.u8.wrap (a : Int) = ((a % 256 : Nat) : Int) := by
  simp only [IntKind.wrap, IntKind.signed, IntKind.bits]
  simp
theorem wrap_u32 (a : Nat) (h : a < 4294967296) : IntKind.u32.wrap (a : Int) = (a : Int) := by
  simp only [IntKind.wrap, IntKind.signed, IntKind.bits]
  simp; omega
theorem and_u32 (a b : Nat) {x y : Int} (hx : x = a) (hy : y = b) (ha : a < 4294967296) (hb : b < 4294967296) : IntKind.u32.wrap (((BitVec.ofInt IntKind.u32.bits x &&& BitVec.ofInt IntKind.u32.bits y).toNat : Nat) : Int) = ((a &&& b : Nat) : Int) := by
  subst hx hy
  have e : (BitVec.ofInt IntKind.u32.bits (a : Int) &&& BitVec.ofInt IntKind.u32.bits (b : Int)).toNat = a &&& b := by
    show (BitVec.ofInt 32 (a : Int) &&& BitVec.ofInt 32 (b : Int)).toNat = a &&& b
    rw [BitVec.toNat_and, BitVec.ofInt_natCast, BitVec.ofInt_natCast, BitVec.toNat_ofNat, BitVec.toNat_ofNat, Nat.mod_eq_of_lt (by omega), Nat.mod_eq_of_lt (by omega)]
  rw [e, wrap_u32 _ (Nat.and_lt_two_pow (n := 32) _ (by omega))]
theorem xor_u32 (a b : Nat) {x y : Int} (hx : x = a) (hy : y = b) (ha : a < 4294967296) (hb : b < 4294967296) : IntKind.u32.wrap (((BitVec.ofInt IntKind.u32.bits x ^^^ BitVec.ofInt IntKind.u32.bits y).toNat : Nat) : Int) = ((a ^^^ b : Nat) : Int) := by
  subst hx hy
  have e : (BitVec.ofInt IntKind.u32.bits (a : Int) ^^^ BitVec.ofInt IntKind.u32.bits (b : Int)).toNat = a ^^^ b := by
    show (BitVec.ofInt 32 (a : Int) ^^^ BitVec.ofInt 32 (b : Int)).toNat = a ^^^ b
    rw [BitVec.toNat_xor, BitVec.ofInt_natCast, BitVec.ofInt_natCast, BitVec.toNat_ofNat, BitVec.toNat_ofNat, Nat.mod_eq_of_lt (by omega), Nat.mod_eq_of_lt (by omega)]
  rw [e, wrap_u32 _ (Nat.xor_lt_two_pow (n := 32) (by omega) (by omega))]
end
end Go.Cam
