/- Single operations that act, for walks and for regions that draw. -/
import Derived.Test.YtimaipclgmcekaaCamW
namespace Go.Cam
theorem Sel.app {a : HP} {As Bs : List HP} (s : Sel a As Bs) (Fs : List HP) : Sel a (As ++ Fs) (Bs ++ Fs) := by
  induction s with
  | here => exact .here
  | there _ ih => exact .there ih
theorem Upd.app {a b : HP} {As Bs : List HP} (s : Upd a b As Bs) (Fs : List HP) : Upd a b (As ++ Fs) (Bs ++ Fs) := by
  induction s with
  | here => exact .here
  | there _ ih => exact .there ih
theorem SelR.app {As : List HP} {sz : Nat} {v : Value} {n : Nat} {row : Nat → List Value} (s : SelR As sz v n row) (Fs : List HP) : SelR (As ++ Fs) sz v n row := by
  induction s with
  | here => exact .here
  | there _ ih => exact .there ih
theorem Split.app {As Ps Rs : List HP} (s : Split As Ps Rs) (Fs : List HP) : Split (As ++ Fs) Ps (Rs ++ Fs) := by
  induction s with
  | nil => exact .nil
  | cons s _ ih => exact .cons (s.app Fs) ih
  | per s _ ih => exact .per (s.app Fs) ih
theorem star_comm {A B : HP} {H M : Heap} (h : (A.star B).p H M) : (B.star A).p H M := by
  obtain ⟨N1, N2, c1, c2, g, x, y⟩ := h
  exact ⟨N2, N1, c2, c1, fun c => (g c).symm, y, x⟩
theorem Sat.join {F : HP} : ∀ {As : List HP} {H M : Heap}, ((Sat As).star F).p H M → (Sat (As ++ [F])).p H M
  | [], H, M, h => by
    obtain ⟨N1, N2, c1, c2, g, x, y⟩ := h
    exact ⟨N2, N1, c2, c1, fun c => (g c).symm, y, trivial⟩
  | a :: r, H, M, h => by
    have h1 := star_comm h
    have h2 : (a.star (F.star (Sat r))).p H M := star_swap h1
    exact star_mono (fun _ _ h => Sat.join (star_comm h)) h2
theorem Sat.part {Fs : List HP} : ∀ {As : List HP} {H M : Heap}, (Sat (As ++ Fs)).p H M → ((Sat As).star (Sat Fs)).p H M
  | [], H, M, h => ⟨fun _ => none, M, (fun _ _ h => nomatch h), Le.refl _, fun _ => .inl rfl, trivial, h⟩
  | a :: r, H, M, h => by
    have h1 : (a.star ((Sat r).star (Sat Fs))).p H M := star_mono (fun _ _ h => Sat.part h) h
    have h2 : ((Sat Fs).star (Sat (a :: r))).p H M := by
      have := star_mono (fun _ _ h => star_comm h) h1
      exact star_swap this
    exact star_comm h2
theorem sat_one {F : HP} {H M : Heap} (h : (Sat [F]).p H M) : F.p H M := star_fst h
theorem hmc_of_hm {P : Program} {e : Sem Next} {H M : Heap} {K : Value → Heap → Heap → Prop} (h : hm P e H M fun nx H' M' => ∃ v, (nx = .value v ∨ nx = .skip ∧ v = undef) ∧ K v H' M') : hmc P e H M K := by
  intro w0 w hh
  obtain ⟨nx, w1, H', M', hr, h1, v, hv, hk⟩ := h w0 w hh
  refine ⟨nx, w1, hr, ?_⟩
  rcases hv with rfl | ⟨rfl, rfl⟩
  · exact ⟨H', M', h1, hk⟩
  · exact ⟨H', M', h1, hk⟩
structure StepL (P : Program) (o : Oper) (l : List (Nat × Value)) (As : List HP) (K : Value → List HP → Prop) : Prop where
  h : ∀ j (Fs : List HP) H M, (Sat (As ++ Fs)).p H M → hmc P (execOp (ev (mk l j)) o) H M fun v H' M' => ∃ Bs, K v Bs ∧ (Sat (Bs ++ Fs)).p H' M'
section
variable {P : Program} {f : FuncId} {n : Nat} {R : Value → HP} {k : List It} {l : List (Nat × Value)} {As Bs Rs Ps Zs : List HP} {all : Array Oper} {rest os : List Oper} {d i : Nat} {op : Op} {oty : TypeId} {pos : String} {af : Array Edge} {g : Option (Nat × Bool)}
theorem run_hmc {f : FuncId} {R : Post} {k : List It} {H M : Heap} {o : Oper} (hd : din n o.dst = true) (hw : ∀ j, wantE o all (mk l j) = true)
    (h : ∀ j, hmc P (execOp (ev (mk l j)) o) H M fun v H' M' => Run P f n R (.ops all rest :: k) (putl l o.dst v) H' M') : Run P f n R (.ops all (o :: rest) :: k) l H M := by
  intro j w0 w a b cs k' hk hh ha hf hn
  cases hk with
  | ops hi hk =>
    obtain ⟨i, is', rfl, ho, hi'⟩ := ops_cons hi
    have hwa : Region.wanted o (yielded all a.tmps) = true := by rw [wantE_ok ha, hw j]
    obtain ⟨nx, w1, hrun, hnx⟩ := h j w0 w hh
    rw [← ha.eval] at hrun
    have hgo : ∀ v w2 H' M', Has w0 w2 H' M' → Run P f n R (.ops all rest :: _) (putl l o.dst v) H' M' → _ := fun v w2 H' M' h2 hr => hr j w0 w2 (a.put o.dst v) b cs _ (.ops hi' hk) h2 (by rw [← putl_ok]; exact ha.put _ _ (din_ok hd)) hf hn
    cases nx with
    | value v =>
      obtain ⟨H', M', h1, hr⟩ := hnx
      obtain ⟨v', w', fr, hst, r⟩ := hgo v w1 H' M' h1 hr
      exact ⟨v', w', fr, .head (op_value ho hwa hrun) hst, r⟩
    | skip =>
      obtain ⟨H', M', h1, hr⟩ := hnx
      obtain ⟨v', w', fr, hst, r⟩ := hgo undef w1 H' M' h1 hr
      exact ⟨v', w', fr, .head (op_unit ho hwa hrun) hst, r⟩
    | enter q args =>
      obtain ⟨v, w2, ⟨v2, H', M', he, h2, hr⟩, hst2⟩ := op_call (b := b) (k := ‹_›) (cs := cs) (is := is') ho hwa hrun hnx (fun e w2 ⟨v, _, _, he, _⟩ => ⟨v, he⟩)
      cases he
      obtain ⟨v', w', fr, hst, r⟩ := hgo v w2 H' M' h2 hr
      exact ⟨v', w', fr, hst2.trans hst, r⟩
    | _ => exact hnx.elim
theorem s_step {K : Value → List HP → Prop} (hs : StepL P ⟨some d, op, oty, pos, af, g⟩ l As K) (h : ∀ v Bs, K v Bs → RunS P f n R (.ops all rest :: k) ((d, v) :: l) Bs) (hd : Nat.blt d n = true := by rfl)
    (hw : ∀ j, wantE ⟨some d, op, oty, pos, af, g⟩ all (mk l j) = true := by intro j; rfl) : RunS P f n R (.ops all (⟨some d, op, oty, pos, af, g⟩ :: rest) :: k) l As := .mk fun H M s =>
  run_hmc hd hw fun j => hmc_mono (hs.h j [] H M (by rw [List.append_nil]; exact s)) fun v H' M' ⟨Bs, hk, hb⟩ => h v Bs hk _ _ (by rw [List.append_nil] at hb; exact hb)
theorem s_stepU {K : Value → List HP → Prop} (hs : StepL P ⟨none, op, oty, pos, af, g⟩ l As K) (h : ∀ v Bs, K v Bs → RunS P f n R (.ops all rest :: k) l Bs)
    (hw : ∀ j, wantE ⟨none, op, oty, pos, af, g⟩ all (mk l j) = true := by intro j; rfl) : RunS P f n R (.ops all (⟨none, op, oty, pos, af, g⟩ :: rest) :: k) l As := .mk fun H M s =>
  run_hmc rfl hw fun j => hmc_mono (hs.h j [] H M (by rw [List.append_nil]; exact s)) fun v H' M' ⟨Bs, hk, hb⟩ => h v Bs hk _ _ (by rw [List.append_nil] at hb; exact hb)
/-! regions that draw -/
structure DS (P : Program) (f : FuncId) (n : Nat) (R : Value → HP) (k : List It) (os : List Oper) (Zs : List HP) (p : List (Bool × Nat)) (l : List (Nat × Value)) (As : List HP) : Prop where
  h : DW P n os (Sat Zs) (fun l' A' => ∀ H M, ((Sat Zs).star A').p H M → Run P f n (fun v H' M' => (R v).p H' M') k l' H M) p l (Sat As)
theorem s_draw {id : Nat} {ops : List Oper} (p : List (Bool × Nat)) (sp : Split As Zs Rs) (h : DS P f n R k ops Zs p l Rs) (hmx : P.follows .mixedOrders = true := by kernel_rfl) (hB : drawB ops = true := by kernel_rfl)
    (hO : ordB ops p [] [] = true := by kernel_rfl) (hI : (p.all fun x => match ops[x.2]? with | some o => din n o.dst | none => false) = true := by kernel_rfl) : RunS P f n R (.code (.region id ops.toArray true) :: k) l As := .mk fun H M s => by
  intro j w0 w a b cs k' hk hh ha hf hn
  cases hk with
  | @code _ _ k1 hk =>
    have hin : ∀ x ∈ p, ∃ o, ops[x.2]? = some o ∧ din n o.dst = true := fun x hx => by
      have := List.all_eq_true.1 hI x hx
      cases ho : ops[x.2]? with
      | none => rw [ho] at this; cases this
      | some o => rw [ho] at this; exact ⟨o, rfl, this⟩
    have h1 := wp_region_any (P := P) (id := id) (ops := ops.toArray) (Q := fun e a' w' => e = .normal ∧ ∃ l' A' H' M', Agr n a' (mk l' j) ∧ Has w0 w' H' M' ∧ (∀ H M, ((Sat Zs).star A').p H M → Run P f n (fun v H' M' => (R v).p H' M') k l' H M) ∧ ((Sat Zs).star A').p H' M') (a := a) (w := w) hmx
      (by
        have s2 := sp.sat s
        have s3 : ((Sat Zs).star (Sat Rs)).p H M := star_mono (fun _ _ => sat_one) (Sat.part s2)
        have := dw_draw (drawB_spec hB) (ordB_spec hO) hin h.h s3 j hh.drew ha
        rw [List.size_toArray]; exact this)
    obtain ⟨e, a', w1, ⟨rfl, l', A', H', M', ha', hw1, hgo, hst⟩, harr⟩ := h1 b k1 cs
    obtain ⟨v, w', fr, hst, r⟩ := hgo H' M' hst j w0 w1 a' b cs k1 hk hw1 ha' hf hn
    exact ⟨v, w', fr, Steps.trans harr hst, r⟩
class TakeL (k : Nat) (As : List HP) (Rs Zs : outParam (List HP)) : Prop where
  h : As = Rs ++ Zs
instance {As} : TakeL 0 As [] As := ⟨rfl⟩
instance {k a As Rs Zs} [t : TakeL k As Rs Zs] : TakeL (k + 1) (a :: As) (a :: Rs) Zs := ⟨by rw [t.h]; rfl⟩
theorem splitL {Zs : List HP} : ∀ (Rs : List HP), Split (Rs ++ Zs) Zs Rs := by
  intro Rs
  induction Zs with
  | nil => rw [List.append_nil]; exact .nil
  | cons z Zs ih =>
    refine .cons (Bs := Rs ++ Zs) ?_ ih
    clear ih
    induction Rs with
    | nil => exact .here
    | cons r Rs ih => exact .there ih
theorem s_drawN (k' : Nat) {id : Nat} {ops : List Oper} (p : List (Bool × Nat)) [tk : TakeL k' As Rs Zs] (h : DS P f n R k ops Zs p l Rs) (hmx : P.follows .mixedOrders = true := by kernel_rfl) (hB : drawB ops = true := by kernel_rfl)
    (hO : ordB ops p [] [] = true := by kernel_rfl) (hI : (p.all fun x => match ops[x.2]? with | some o => din n o.dst | none => false) = true := by kernel_rfl) : RunS P f n R (.code (.region id ops.toArray true) :: k) l As :=
  s_draw p (by rw [tk.h]; exact splitL Rs) h hmx hB hO hI
theorem d_nil (h : RunS P f n R k l (As ++ Zs)) : DS P f n R k os Zs [] l As := .mk fun H M s => by
  refine h H M ?_
  have := star_comm s
  have h2 := Sat.join this
  exact Sat.app h2
variable {p : List (Bool × Nat)}
theorem d_look {v : Value} (ho : os[i]? = some ⟨some d, op, oty, pos, af, g⟩) (hv : LookS P ⟨some d, op, oty, pos, af, g⟩ l Zs v) (h : DS P f n R k os Zs p ((d, v) :: l) As) (hd : Nat.blt d n = true := by rfl)
    (hw : ∀ j, wantE ⟨some d, op, oty, pos, af, g⟩ os.toArray (mk l j) = true := by intro j; rfl) : DS P f n R k os Zs ((true, i) :: p) l As :=
  .mk ⟨_, ho, hd, v, .inl ⟨hw, fun j F H M s => fun w0 w hh => ⟨_, w, hv j H M (star_fst s) w0 w hh, H, M, hh, rfl, s⟩⟩, h.h⟩
theorem d_no (ho : os[i]? = some ⟨some d, op, oty, pos, af, g⟩) (h : DS P f n R k os Zs p ((d, undef) :: l) As) (hw : ∀ j, wantE ⟨some d, op, oty, pos, af, g⟩ os.toArray (mk l j) = false := by intro j; rfl) (hd : Nat.blt d n = true := by rfl) :
    DS P f n R k os Zs ((true, i) :: p) l As := .mk ⟨_, ho, hd, undef, .inr ⟨hw, rfl⟩, h.h⟩
theorem d_noU {b : Bool} (ho : os[i]? = some ⟨some d, op, oty, pos, af, g⟩) (h : DS P f n R k os Zs p ((d, undef) :: l) As) (hw : ∀ j, wantE ⟨some d, op, oty, pos, af, g⟩ os.toArray (mk l j) = false := by intro j; rfl) (hd : Nat.blt d n = true := by rfl) :
    DS P f n R k os Zs ((false, i) :: p) l As := .mk ⟨_, ho, hd, .inr ⟨hw, h.h⟩⟩
theorem d_step {K : Value → List HP → Prop} (ho : os[i]? = some ⟨some d, op, oty, pos, af, g⟩) (hs : StepL P ⟨some d, op, oty, pos, af, g⟩ l As K) (h : ∀ v Bs, K v Bs → DS P f n R k os Zs p ((d, v) :: l) Bs) (hd : Nat.blt d n = true := by rfl)
    (hw : ∀ j, wantE ⟨some d, op, oty, pos, af, g⟩ os.toArray (mk l j) = true := by intro j; rfl) : DS P f n R k os Zs ((false, i) :: p) l As :=
  .mk ⟨_, ho, hd, .inl ⟨hw, fun j F H M s => hmc_mono (hs.h j [F] H M (Sat.join s)) fun v H' M' ⟨Bs, hk, hb⟩ => ⟨Sat Bs, (h v Bs hk).h, star_mono (fun _ _ => sat_one) (Sat.part hb)⟩⟩⟩
theorem d_stepU {K : Value → List HP → Prop} (ho : os[i]? = some ⟨none, op, oty, pos, af, g⟩) (hs : StepL P ⟨none, op, oty, pos, af, g⟩ l As K) (h : ∀ v Bs, K v Bs → DS P f n R k os Zs p l Bs)
    (hw : ∀ j, wantE ⟨none, op, oty, pos, af, g⟩ os.toArray (mk l j) = true := by intro j; rfl) : DS P f n R k os Zs ((false, i) :: p) l As :=
  .mk ⟨_, ho, rfl, .inl ⟨hw, fun j F H M s => hmc_mono (hs.h j [F] H M (Sat.join s)) fun v H' M' ⟨Bs, hk, hb⟩ => ⟨Sat Bs, (h v Bs hk).h, star_mono (fun _ _ => sat_one) (Sat.part hb)⟩⟩⟩
theorem Ent.app {As Ps : List HP} (s : Ent As Ps) (F : HP) {H M : Heap} (h : (Sat (As ++ [F])).p H M) : (Sat (Ps ++ [F])).p H M :=
  Sat.join (star_monoL (fun _ _ => s.sat) (star_mono (fun _ _ => sat_one) (Sat.part h)))
/-- a call that leaves what it was handed -/
theorem d_call {q : FuncId} {as : List Operand} {tys : Array TypeId} {args : List Value} {Q : Value → List HP → Prop} [FN P q] (ho : os[i]? = some ⟨some d, .call ⟨.value (.func q), as.toArray, tys⟩, oty, pos, af, g⟩) (ha : ∀ j, as.map (ev (mk l j)) = args := by intro j; rfl) (v : Value) (sp : Split Zs Ps Rs) (hs : Ctr P q args Ps Q) (hq : ∀ r Bs, Q r Bs → r = v ∧ Ent (Bs ++ Rs) Zs)
    (h : DS P f n R k os Zs p ((d, v) :: l) As)
    (hd : Nat.blt d n = true := by rfl)
    (hw : ∀ j, wantE ⟨some d, .call ⟨.value (.func q), as.toArray, tys⟩, oty, pos, af, g⟩ os.toArray (mk l j) = true := by intro j; rfl) : DS P f n R k os Zs ((true, i) :: p) l As :=
  .mk ⟨_, ho, hd, v, .inl ⟨hw, fun j F H M s w0 w hh => ⟨_, w, cst_run _ (by rw [exec_call, ha j]) w, by
    have s1 := (sp.app [F]).sat (Sat.join s)
    refine (hs (Sat (Rs ++ [F])) H M s1 w0 w hh).mono fun e w2 ⟨r, H', M', he, h2, Bs, hq', hb⟩ => ⟨r, H', M', he, h2, ?_⟩
    obtain ⟨rfl, he2⟩ := hq r Bs hq'
    have h3 := Sat.app hb
    rw [← List.append_assoc] at h3
    exact ⟨rfl, star_mono (fun _ _ => sat_one) (Sat.part (he2.app F h3))⟩⟩⟩, h.h⟩
/-! ### The operations -/
theorem st_call {q : FuncId} {as : List Operand} {tys : Array TypeId} {args : List Value} {Q : Value → List HP → Prop} [FN P q] (ha : ∀ j, as.map (ev (mk l j)) = args := by intro j; rfl) (sp : Split As Ps Rs) (hs : Ctr P q args Ps Q) :
    StepL P ⟨some d, .call ⟨.value (.func q), as.toArray, tys⟩, oty, pos, af, g⟩ l As (fun v Bs => ∃ Cs, Q v Cs ∧ Bs = Cs ++ Rs) := .mk fun j Fs H M s w0 w hh => ⟨_, w, cst_run _ (by rw [exec_call, ha j]) w, by
  refine (hs (Sat (Rs ++ Fs)) H M ((sp.app Fs).sat s) w0 w hh).mono fun e w2 ⟨r, H', M', he, h2, Bs, hq', hb⟩ => ⟨r, H', M', he, h2, _, ⟨Bs, hq', rfl⟩, ?_⟩
  rw [List.append_assoc]; exact Sat.app hb⟩
theorem exec_callC {q : FuncId} [fn : FN P q] {e : Nat → Value} {x : Operand} {as : List Operand} {tys : Array TypeId} {cap : List Value} {d : Option Nat} {ty : TypeId} {pos : String} {af : Array Edge} {g : Option (Nat × Bool)} (hx : ev e x = .func (.func q) #[] cap.toArray) :
    cst P (execOp (ev e) ⟨d, .call ⟨.value x, as.toArray, tys⟩, ty, pos, af, g⟩) = some (.enter q (as.map (ev e) ++ cap).toArray) := by
  show cst P (Deferred.ofValue (ev e x) (as.toArray.map (ev e)) >>= fun d => invoke d.target d.args) = _
  rw [hx]
  show cst P (callFunc q ((#[] ++ as.toArray.map (ev e)) ++ cap.toArray)) = _
  rw [fn.h]
  simp
/-- a closure is called -/
theorem st_callC {q : FuncId} {x : Operand} {cap : List Value} {as : List Operand} {tys : Array TypeId} {args : List Value} {Q : Value → List HP → Prop} [FN P q] (hx : ∀ j, ev (mk l j) x = .func (.func q) #[] cap.toArray := by intro j; rfl) (ha : ∀ j, as.map (ev (mk l j)) ++ cap = args := by intro j; rfl) (sp : Split As Ps Rs) (hs : Ctr P q args Ps Q) :
    StepL P ⟨some d, .call ⟨.value x, as.toArray, tys⟩, oty, pos, af, g⟩ l As (fun v Bs => ∃ Cs, Q v Cs ∧ Bs = Cs ++ Rs) := .mk fun j Fs H M s w0 w hh => ⟨_, w, cst_run _ (by rw [exec_callC (hx j), ha j]) w, by
  refine (hs (Sat (Rs ++ Fs)) H M ((sp.app Fs).sat s) w0 w hh).mono fun e w2 ⟨r, H', M', he, h2, Bs, hq', hb⟩ => ⟨r, H', M', he, h2, _, ⟨Bs, hq', rfl⟩, ?_⟩
  rw [List.append_assoc]; exact Sat.app hb⟩
end
end Go.Cam
