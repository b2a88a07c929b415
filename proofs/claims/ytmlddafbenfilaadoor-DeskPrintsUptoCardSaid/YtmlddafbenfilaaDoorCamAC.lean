/- Single operations that act, for walks and for regions that draw. -/
import Derived.Test.YtmlddafbenfilaaDoorCamWR
import Derived.Test.YtmlddafbenfilaaDoorCamS
namespace Go.Cam
theorem Sel.app {a : HP} {As Bs : List HP} (s : Sel a As Bs) (Fs : List HP) : Sel a (As ++ Fs) (Bs ++ Fs) := by
  induction s with
  | here => exact .here
  | there _ ih => exact .there ih
theorem Upd.app {a b : HP} {As Bs : List HP} (s : Upd a b As Bs) (Fs : List HP) : Upd a b (As ++ Fs) (Bs ++ Fs) := by
  induction s with
  | here => exact .here
  | there _ ih => exact .there ih
theorem SelR.app {As : List HP} {sz : Nat} {v : Value} {n : Nat} {row : Nat → List Value} (s : SelR As sz v n row) (Fs : List HP) : SelR (As ++ Fs) sz v n row := by
  induction s with
  | here => exact .here
  | there _ ih => exact .there ih
theorem Split.app {As Ps Rs : List HP} (s : Split As Ps Rs) (Fs : List HP) : Split (As ++ Fs) Ps (Rs ++ Fs) := by
  induction s with
  | nil => exact .nil
  | cons s _ ih => exact .cons (s.app Fs) ih
  | per s _ ih => exact .per (s.app Fs) ih
theorem star_comm {A B : HP} {H M : Heap} (h : (A.star B).p H M) : (B.star A).p H M := by
  obtain ⟨N1, N2, c1, c2, g, x, y⟩ := h
  exact ⟨N2, N1, c2, c1, fun c => (g c).symm, y, x⟩
theorem Sat.join {F : HP} : ∀ {As : List HP} {H M : Heap}, ((Sat As).star F).p H M → (Sat (As ++ [F])).p H M
  | [], H, M, h => by
    obtain ⟨N1, N2, c1, c2, g, x, y⟩ := h
    exact ⟨N2, N1, c2, c1, fun c => (g c).symm, y, trivial⟩
  | a :: r, H, M, h => by
    have h1 := star_comm h
    have h2 : (a.star (F.star (Sat r))).p H M := star_swap h1
    exact star_mono (fun _ _ h => Sat.join (star_comm h)) h2
theorem Sat.part {Fs : List HP} : ∀ {As : List HP} {H M : Heap}, (Sat (As ++ Fs)).p H M → ((Sat As).star (Sat Fs)).p H M
  | [], H, M, h => ⟨fun _ => none, M, (fun _ _ h => nomatch h), Le.refl _, fun _ => .inl rfl, trivial, h⟩
  | a :: r, H, M, h => by
    have h1 : (a.star ((Sat r).star (Sat Fs))).p H M := star_mono (fun _ _ h => Sat.part h) h
    have h2 : ((Sat Fs).star (Sat (a :: r))).p H M := by
      have := star_mono (fun _ _ h => star_comm h) h1
      exact star_swap this
    exact star_comm h2
theorem sat_one {F : HP} {H M : Heap} (h : (Sat [F]).p H M) : F.p H M := star_fst h
theorem hmc_of_hm {P : Program} {e : Sem Next} {H M : Heap} {K : Value → Heap → Heap → Prop} (h : hm P e H M fun nx H' M' => ∃ v, (nx = .value v ∨ nx = .skip ∧ v = undef) ∧ K v H' M') : hmc P e H M K := by
  intro w0 w hh
  obtain ⟨nx, w1, H', M', hr, h1, v, hv, hk⟩ := h w0 w hh
  refine ⟨nx, w1, hr, ?_⟩
  rcases hv with rfl | ⟨rfl, rfl⟩
  · exact ⟨H', M', h1, hk⟩
  · exact ⟨H', M', h1, hk⟩
structure StepL (P : Program) (o : Oper) (l : List (Nat × Value)) (As : List HP) (K : Value → List HP → Prop) : Prop where
  h : ∀ j (Fs : List HP) H M, (Sat (As ++ Fs)).p H M → hmc P (execOp (ev (mk l j)) o) H M fun v H' M' => ∃ Bs, K v Bs ∧ (Sat (Bs ++ Fs)).p H' M'
section
variable {P : Program} {f : FuncId} {n : Nat} {R : Value → HP} {k : List It} {l : List (Nat × Value)} {As Bs Rs Ps Zs : List HP} {all : Array Oper} {rest os : List Oper} {d i : Nat} {op : Op} {oty : TypeId} {pos : String} {af : Array Edge} {g : Option (Nat × Bool)}
theorem run_hmc {f : FuncId} {R : Post} {k : List It} {H M : Heap} {o : Oper} (hd : din n o.dst = true) (hw : ∀ j, wantE o all (mk l j) = true)
    (h : ∀ j, hmc P (execOp (ev (mk l j)) o) H M fun v H' M' => Run P f n R (.ops all rest :: k) (putl l o.dst v) H' M') : Run P f n R (.ops all (o :: rest) :: k) l H M := by
  intro j w0 w a b cs k' hk hh ha hf hn
  cases hk with
  | ops hi hk =>
    obtain ⟨i, is', rfl, ho, hi'⟩ := ops_cons hi
    have hwa : Region.wanted o (yielded all a.tmps) = true := by rw [wantE_ok ha, hw j]
    obtain ⟨nx, w1, hrun, hnx⟩ := h j w0 w hh
    rw [← ha.eval] at hrun
    have hgo : ∀ v w2 H' M', Has w0 w2 H' M' → Run P f n R (.ops all rest :: _) (putl l o.dst v) H' M' → _ := fun v w2 H' M' h2 hr => hr j w0 w2 (a.put o.dst v) b cs _ (.ops hi' hk) h2 (by rw [← putl_ok]; exact ha.put _ _ (din_ok hd)) hf hn
    cases nx with
    | value v =>
      obtain ⟨H', M', h1, hr⟩ := hnx
      obtain ⟨v', w', fr, hst, r⟩ := hgo v w1 H' M' h1 hr
      exact ⟨v', w', fr, .head (op_value ho hwa hrun) hst, r⟩
    | skip =>
      obtain ⟨H', M', h1, hr⟩ := hnx
      obtain ⟨v', w', fr, hst, r⟩ := hgo undef w1 H' M' h1 hr
      exact ⟨v', w', fr, .head (op_unit ho hwa hrun) hst, r⟩
    | enter q args =>
      obtain ⟨v, w2, ⟨v2, H', M', he, h2, hr⟩, hst2⟩ := op_call (b := b) (k := ‹_›) (cs := cs) (is := is') ho hwa hrun hnx (fun e w2 ⟨v, _, _, he, _⟩ => ⟨v, he⟩)
      cases he
      obtain ⟨v', w', fr, hst, r⟩ := hgo v w2 H' M' h2 hr
      exact ⟨v', w', fr, hst2.trans hst, r⟩
    | _ => exact hnx.elim
theorem s_step {K : Value → List HP → Prop} (hs : StepL P ⟨some d, op, oty, pos, af, g⟩ l As K) (h : ∀ v Bs, K v Bs → RunS P f n R (.ops all rest :: k) ((d, v) :: l) Bs) (hd : Nat.blt d n = true := by rfl)
    (hw : ∀ j, wantE ⟨some d, op, oty, pos, af, g⟩ all (mk l j) = true := by intro j; rfl) : RunS P f n R (.ops all (⟨some d, op, oty, pos, af, g⟩ :: rest) :: k) l As := .mk fun H M s =>
  run_hmc hd hw fun j => hmc_mono (hs.h j [] H M (by rw [List.append_nil]; exact s)) fun v H' M' ⟨Bs, hk, hb⟩ => h v Bs hk _ _ (by rw [List.append_nil] at hb; exact hb)
theorem s_stepU {K : Value → List HP → Prop} (hs : StepL P ⟨none, op, oty, pos, af, g⟩ l As K) (h : ∀ v Bs, K v Bs → RunS P f n R (.ops all rest :: k) l Bs)
    (hw : ∀ j, wantE ⟨none, op, oty, pos, af, g⟩ all (mk l j) = true := by intro j; rfl) : RunS P f n R (.ops all (⟨none, op, oty, pos, af, g⟩ :: rest) :: k) l As := .mk fun H M s =>
  run_hmc rfl hw fun j => hmc_mono (hs.h j [] H M (by rw [List.append_nil]; exact s)) fun v H' M' ⟨Bs, hk, hb⟩ => h v Bs hk _ _ (by rw [List.append_nil] at hb; exact hb)
structure DS (P : Program) (f : FuncId) (n : Nat) (R : Value → HP) (k : List It) (os : List Oper) (Zs : List HP) (p : List Dw) (l : List (Nat × Value)) (As : List HP) : Prop where
  h : DWR P n os (fun Z' l' A' => ∀ H M, (Z'.star A').p H M → Run P f n (fun v H' M' => (R v).p H' M') k l' H M) p (Sat Zs) l (Sat As)
theorem s_draw {id : Nat} {ops : List Oper} (p : List Dw) (sp : Split As Zs Rs) (h : DS P f n R k ops Zs p l Rs) (hmx : P.follows .mixedOrders = true := by kernel_rfl) (hB : drawB ops = true := by kernel_rfl)
    (hO : linB ops p = true := by kernel_rfl) (hI : (ops.all fun o => din n o.dst) = true := by kernel_rfl) (hR : okR ops p [] [] = true := by kernel_rfl) : RunS P f n R (.code (.region id ops.toArray true) :: k) l As := .mk fun H M s => by
  intro j w0 w a b cs k' hk hh ha hf hn
  cases hk with
  | @code _ _ k1 hk =>
    have hin : ∀ (i : Nat) (o : Oper), ops[i]? = some o → din n o.dst = true := fun i o ho => List.all_eq_true.1 hI o (List.mem_of_getElem? ho)
    have h1 := wp_region_any (P := P) (id := id) (ops := ops.toArray) (Q := fun e a' w' => e = .normal ∧ ∃ l', ∃ Z' A' : HP, ∃ H' M', Agr n a' (mk l' j) ∧ Has w0 w' H' M' ∧ (∀ H M, (Z'.star A').p H M → Run P f n (fun v H' M' => (R v).p H' M') k l' H M) ∧ (Z'.star A').p H' M') (a := a) (w := w) hmx
      (by
        have s2 := sp.sat s
        have s3 : ((Sat Zs).star (Sat Rs)).p H M := star_mono (fun _ _ => sat_one) (Sat.part s2)
        have := dwr_draw (drawB_spec hB) hO hin hR h.h s3 j hh.drew ha
        rw [List.size_toArray]; exact this)
    obtain ⟨e, a', w1, ⟨rfl, l', Z', A', H', M', ha', hw1, hgo, hst⟩, harr⟩ := h1 b k1 cs
    obtain ⟨v, w', fr, hst, r⟩ := hgo H' M' hst j w0 w1 a' b cs k1 hk hw1 ha' hf hn
    exact ⟨v, w', fr, Steps.trans harr hst, r⟩
class TakeL (k : Nat) (As : List HP) (Rs Zs : outParam (List HP)) : Prop where
  h : As = Rs ++ Zs
instance {As} : TakeL 0 As [] As := ⟨rfl⟩
instance {k a As Rs Zs} [t : TakeL k As Rs Zs] : TakeL (k + 1) (a :: As) (a :: Rs) Zs := ⟨by rw [t.h]; rfl⟩
theorem splitL {Zs : List HP} : ∀ (Rs : List HP), Split (Rs ++ Zs) Zs Rs := by
  intro Rs
  induction Zs with
  | nil => rw [List.append_nil]; exact .nil
  | cons z Zs ih =>
    refine .cons (Bs := Rs ++ Zs) ?_ ih
    clear ih
    induction Rs with
    | nil => exact .here
    | cons r Rs ih => exact .there ih
theorem s_drawN (k' : Nat) {id : Nat} {ops : List Oper} (p : List Dw) [tk : TakeL k' As Rs Zs] (h : DS P f n R k ops Zs p l Rs) (hmx : P.follows .mixedOrders = true := by kernel_rfl) (hB : drawB ops = true := by kernel_rfl)
    (hO : linB ops p = true := by kernel_rfl) (hI : (ops.all fun o => din n o.dst) = true := by kernel_rfl) (hR : okR ops p [] [] = true := by kernel_rfl) : RunS P f n R (.code (.region id ops.toArray true) :: k) l As :=
  s_draw p (by rw [tk.h]; exact splitL Rs) h hmx hB hO hI hR
/-- two steps that may come in either order -/
theorem d_alt {a b : Nat} {p : List Dw} (h1 : DS P f n R k os Zs (.s a :: .s b :: p) l As) (h2 : DS P f n R k os Zs (.s b :: .s a :: p) l As) : DS P f n R k os Zs (.alt a b :: p) l As := .mk ⟨h1.h, h2.h⟩
/-- two steps, one behind the other, and a third one that may come anywhere -/
theorem d_alt2 {a b c : Nat} {p : List Dw} (h1 : DS P f n R k os Zs (.s a :: .alt c b :: p) l As) (h2 : DS P f n R k os Zs (.s b :: .s a :: .s c :: p) l As) : DS P f n R k os Zs (.alt2 a c b :: p) l As := .mk ⟨h1.h, h2.h⟩
/-- the same, where something that only looks waits for the second one -/
theorem d_altq1 {b c q : Nat} {p : List Dw} (h1 : DS P f n R k os Zs (.s c :: .q q :: .s b :: p) l As) (h2 : DS P f n R k os Zs (.s b :: .s c :: .q q :: p) l As) : DS P f n R k os Zs (.altq1 c q b :: p) l As := .mk ⟨h1.h, h2.h⟩
theorem d_altq {a b c q : Nat} {p : List Dw} (h1 : DS P f n R k os Zs (.s a :: .altq1 c q b :: p) l As) (h2 : DS P f n R k os Zs (.s b :: .s a :: .s c :: .q q :: p) l As) : DS P f n R k os Zs (.altq a c q b :: p) l As := .mk ⟨h1.h, h2.h⟩
theorem d_nil (h : RunS P f n R k l (As ++ Zs)) : DS P f n R k os Zs [] l As := .mk fun H M s => by
  refine h H M ?_
  have := star_comm s
  have h2 := Sat.join this
  exact Sat.app h2
variable {p : List Dw}
theorem d_look {v : Value} (ho : os[i]? = some ⟨some d, op, oty, pos, af, g⟩) (hv : LookS P ⟨some d, op, oty, pos, af, g⟩ l Zs v) (h : DS P f n R k os Zs p ((d, v) :: l) As) (hd : Nat.blt d n = true := by rfl)
    (hw : ∀ j, wantE ⟨some d, op, oty, pos, af, g⟩ os.toArray (mk l j) = true := by intro j; rfl) : DS P f n R k os Zs (.q i :: p) l As :=
  .mk ⟨_, ho, hd, v, .inl ⟨hw, fun j F H M s => fun w0 w hh => ⟨_, w, hv j H M (star_fst s) w0 w hh, H, M, hh, rfl, s⟩⟩, h.h⟩
theorem d_no (ho : os[i]? = some ⟨some d, op, oty, pos, af, g⟩) (h : DS P f n R k os Zs p ((d, undef) :: l) As) (hw : ∀ j, wantE ⟨some d, op, oty, pos, af, g⟩ os.toArray (mk l j) = false := by intro j; rfl) (hd : Nat.blt d n = true := by rfl) :
    DS P f n R k os Zs (.q i :: p) l As := .mk ⟨_, ho, hd, undef, .inr ⟨hw, rfl⟩, h.h⟩
theorem d_noU (ho : os[i]? = some ⟨some d, op, oty, pos, af, g⟩) (h : DS P f n R k os Zs p ((d, undef) :: l) As) (hw : ∀ j, wantE ⟨some d, op, oty, pos, af, g⟩ os.toArray (mk l j) = false := by intro j; rfl) (hd : Nat.blt d n = true := by rfl) :
    DS P f n R k os Zs (.s i :: p) l As := .mk ⟨_, ho, hd, .inr ⟨hw, h.h⟩⟩
theorem d_step {K : Value → List HP → Prop} (ho : os[i]? = some ⟨some d, op, oty, pos, af, g⟩) (hs : StepL P ⟨some d, op, oty, pos, af, g⟩ l As K) (h : ∀ v Bs, K v Bs → DS P f n R k os Zs p ((d, v) :: l) Bs) (hd : Nat.blt d n = true := by rfl)
    (hw : ∀ j, wantE ⟨some d, op, oty, pos, af, g⟩ os.toArray (mk l j) = true := by intro j; rfl) : DS P f n R k os Zs (.s i :: p) l As :=
  .mk ⟨_, ho, hd, .inl ⟨hw, fun j F H M s => hmc_mono (hs.h j [F] H M (Sat.join s)) fun v H' M' ⟨Bs, hk, hb⟩ => ⟨Sat Bs, (h v Bs hk).h, star_mono (fun _ _ => sat_one) (Sat.part hb)⟩⟩⟩
theorem d_stepU {K : Value → List HP → Prop} (ho : os[i]? = some ⟨none, op, oty, pos, af, g⟩) (hs : StepL P ⟨none, op, oty, pos, af, g⟩ l As K) (h : ∀ v Bs, K v Bs → DS P f n R k os Zs p l Bs)
    (hw : ∀ j, wantE ⟨none, op, oty, pos, af, g⟩ os.toArray (mk l j) = true := by intro j; rfl) : DS P f n R k os Zs (.s i :: p) l As :=
  .mk ⟨_, ho, rfl, .inl ⟨hw, fun j F H M s => hmc_mono (hs.h j [F] H M (Sat.join s)) fun v H' M' ⟨Bs, hk, hb⟩ => ⟨Sat Bs, (h v Bs hk).h, star_mono (fun _ _ => sat_one) (Sat.part hb)⟩⟩⟩
theorem Ent.app {As Ps : List HP} (s : Ent As Ps) (F : HP) {H M : Heap} (h : (Sat (As ++ [F])).p H M) : (Sat (Ps ++ [F])).p H M :=
  Sat.join (star_monoL (fun _ _ => s.sat) (star_mono (fun _ _ => sat_one) (Sat.part h)))
/-- a call that leaves what it was handed -/
theorem d_call {q : FuncId} {as : List Operand} {tys : Array TypeId} {args : List Value} {Q : Value → List HP → Prop} [FN P q] (ho : os[i]? = some ⟨some d, .call ⟨.value (.func q), as.toArray, tys⟩, oty, pos, af, g⟩) (ha : ∀ j, as.map (ev (mk l j)) = args := by intro j; rfl) (v : Value) (sp : Split Zs Ps Rs) (hs : Ctr P q args Ps Q) (hq : ∀ r Bs, Q r Bs → r = v ∧ Ent (Bs ++ Rs) Zs)
    (h : DS P f n R k os Zs p ((d, v) :: l) As)
    (hd : Nat.blt d n = true := by rfl)
    (hw : ∀ j, wantE ⟨some d, .call ⟨.value (.func q), as.toArray, tys⟩, oty, pos, af, g⟩ os.toArray (mk l j) = true := by intro j; rfl) : DS P f n R k os Zs (.q i :: p) l As :=
  .mk ⟨_, ho, hd, v, .inl ⟨hw, fun j F H M s w0 w hh => ⟨_, w, cst_run _ (by rw [exec_call, ha j]) w, by
    have s1 := (sp.app [F]).sat (Sat.join s)
    refine (hs (Sat (Rs ++ [F])) H M s1 w0 w hh).mono fun e w2 ⟨r, H', M', he, h2, Bs, hq', hb⟩ => ⟨r, H', M', he, h2, ?_⟩
    obtain ⟨rfl, he2⟩ := hq r Bs hq'
    have h3 := Sat.app hb
    rw [← List.append_assoc] at h3
    exact ⟨rfl, star_mono (fun _ _ => sat_one) (Sat.part (he2.app F h3))⟩⟩⟩, h.h⟩
theorem st_call {q : FuncId} {as : List Operand} {tys : Array TypeId} {args : List Value} {Q : Value → List HP → Prop} [FN P q] (ha : ∀ j, as.map (ev (mk l j)) = args := by intro j; rfl) (sp : Split As Ps Rs) (hs : Ctr P q args Ps Q) :
    StepL P ⟨some d, .call ⟨.value (.func q), as.toArray, tys⟩, oty, pos, af, g⟩ l As (fun v Bs => ∃ Cs, Q v Cs ∧ Bs = Cs ++ Rs) := .mk fun j Fs H M s w0 w hh => ⟨_, w, cst_run _ (by rw [exec_call, ha j]) w, by
  refine (hs (Sat (Rs ++ Fs)) H M ((sp.app Fs).sat s) w0 w hh).mono fun e w2 ⟨r, H', M', he, h2, Bs, hq', hb⟩ => ⟨r, H', M', he, h2, _, ⟨Bs, hq', rfl⟩, ?_⟩
  rw [List.append_assoc]; exact Sat.app hb⟩
end
end Go.Cam
/- Operations that act: stores, new blocks, slices made, appended to, copied. -/
namespace Go.Cam
section
variable {P : Program} {f : FuncId} {n : Nat} {R : Value → HP} {k : List It} {l : List (Nat × Value)} {As Bs Rs Ps Zs : List HP} {all : Array Oper} {rest os : List Oper} {d i : Nat} {dd : Option Nat} {op : Op} {oty : TypeId} {pos : String} {af : Array Edge} {g : Option (Nat × Bool)}
theorem st_st {t : TypeId} {x y : Operand} {b off m : Nat} {c c' vs : List Value} {ty : TypeId} {v : Value} {As' : List HP} [hs : SZ P t m]
    (hx : ∀ j, ev (mk l j) x = .pointer (some ⟨b, off, none⟩) := by intro j; rfl) (hy : ∀ j, ev (mk l j) y = v := by intro j; rfl)
    (u : Upd (Box b ty c) (Box b ty c') As As' := by repeat (first | with_reducible exact Upd.here | with_reducible apply Upd.there))
    (hcel : Cel v vs := by infer_instance) (hc : SetsL c off vs c' := by infer_instance) (hn : Nat.beq vs.length m = true := by rfl) (hl : Nat.ble (off + m) c.length = true := by rfl) :
    StepL P ⟨dd, .store t x y, oty, pos, af, g⟩ l As (fun _ Bs => Bs = As') := .mk fun j Fs H M q => by
  obtain ⟨Cs, s1, s2⟩ := (u.app Fs).sels
  obtain ⟨hb, hq⟩ := own_write (o' := .cells c'.toArray ty (0, 0)) (s1.sat q)
  have e := hcel.h
  refine hmc_of_hm ?_
  show hm P (Instr.storeAt t (ev (mk l j) x) (ev (mk l j) y) >>= fun _ => pure Next.skip) H M _
  rw [hx j, hy j]
  refine hm_bind (hm_st hs.h hb ?_ ?_ (fun j _ _ h => by omega) (fun u hu => List.all_eq_true.1 (by rw [e]; exact hcel.o) u hu) (hm_pure ⟨undef, .inr ⟨rfl, rfl⟩, As', rfl, ?_⟩))
  · rw [e]; exact Nat.eq_of_beq_eq_true hn
  · simpa using Nat.le_of_ble_eq_true hl
  · rw [e, hc.h]; exact s2.back hq
theorem st_bs {t e sz bytes len : Nat} {ps : List (Nat × Operand)} {z : Value} {cells : List Value} [sl : SL P t e sz bytes] [zv : ZV P e z] [ol : OneL cells]
    (hf : ∀ j, fillG (fun i => some (i * sz, sz)) (tab (len * sz) fun i => z.cells[i % z.cells.size]!) (ps.map fun x => (x.1, ev (mk l j) x.2)) = some cells.toArray)
    (hlen : 0 < len * sz := by decide) (hmax : len * sz ≤ 16777216 := by decide) (hc : Nat.beq cells.length (len * sz) = true := by rfl) :
    StepL P ⟨dd, .buildSlice t len ps.toArray, oty, pos, af, g⟩ l As (fun v Bs => ∃ a, v = .slice a len len ∧ Bs = SA (some e) sz (.slice a len len) len (rowsOf sz cells) :: As) := .mk fun j Fs H M s => by
  have e1 : execOp (ev (mk l j)) ⟨dd, .buildSlice t len ps.toArray, oty, pos, af, g⟩ = (Instr.buildSlice t len (ps.toArray.map fun x => (x.1, ev (mk l j) x.2)) >>= fun v => pure (Next.value v)) := by
    unfold execOp; rfl
  rw [e1, List.map_toArray]
  obtain ⟨i, z', hu, hs, _, _, _, _, _, _⟩ := sl.h
  refine hmc_of_hm (hm_bind (hm_bs hu hs zv.h hlen hmax _ (hf j) fun r hr => hm_pure ⟨_, .inl rfl, _, ⟨_, rfl, rfl⟩, ?_⟩))
  exact star_monoL (fun H M h => own_SA h (Nat.eq_of_beq_eq_true hc) ol.h) (own_new hr s)
theorem sa_app {P : Program} {t e sz bytes m c : Nat} {a b : Option Addr} {len cap : Nat} {row row2 : Nat → List Value} [sl' : SL P t e sz bytes] {X : HP} {H M : Heap}
    (hs0 : ((SA (some e) sz (.slice a len cap) len row).star X).p H M) (hxr : SlK (Kn H M) sz (.slice b m c) m row2) (hx1 : (flat m row2).all one = true) (hroom : (len + m + 512) * bytes ≤ 140737488355328) :
    hm P (Builtin.append_ #[t, t] t #[.slice a len cap, .slice b m c]) H M fun v H' M' => ∃ a' cap', v = .slice a' (len + m) cap' ∧ ((SA (some e) sz (.slice a' (len + m) cap') (len + m) (rcat len row row2)).star X).p H' M' := by
  obtain ⟨M1, M2, a1, a2, dj, ⟨hr1, hr2, hown, _⟩, hB⟩ := hs0
  have hownM : Own M e sz (.slice a len cap) (flat len row) := hown.frame fun c o _ hc => a1 c o hc
  have hsz : 0 < sz := by obtain ⟨_, _, _, _, _, _, _, _, _, h⟩ := sl'.h; exact h
  have hcap : len ≤ cap := by
    rcases hownM with ⟨h1, _⟩ | ⟨_, _, _, _, h1, _, _, h2, _⟩ <;> cases h1
    · exact Nat.le_refl _
    · exact h2
  have hxl : ∀ i, i < m → (row2 i).length = sz := by obtain ⟨_, _, _, _, h1, _⟩ := hxr; exact h1
  rcases Nat.eq_zero_or_pos m with rfl | hm
  · refine hm_app0 hcap ⟨a, cap, rfl, M1, M2, a1, a2, dj, ?_, hB⟩
    have e1 : flat (len + 0) (rcat len row row2) = flat len row := by rw [flat_rcat]; simp [flat]
    exact ⟨fun i hi => by simp only [rcat]; rw [if_pos (by omega)]; exact hr1 i (by omega), by rw [e1]; exact hr2, by rw [e1]; exact hown, _, _, rfl⟩
  · obtain ⟨base, cap2, e2, _, _, h3⟩ := hxr
    obtain ⟨bx, off, cx, tx, fx, rfl, kx, hs, hx⟩ := h3 hm
    cases e2
    refine hm_app (flat m row2) hownM kx hx hs (flat_len hxl) hx1 ?_ fun v' M' ho ha => ?_
    · rw [flat_len hr1, Nat.mul_div_cancel _ hsz]; exact hroom
    · have hlen : (flat len row ++ flat m row2).length = (len + m) * sz := by rw [List.length_append, flat_len hr1, flat_len hxl, Nat.add_mul]
      obtain ⟨a', cap', rfl⟩ := ho.len (len + m) hlen hsz
      refine ⟨a', cap', rfl, fun c => if ob (.slice a' (len + m) cap') = some c then M' c else none, M2, ?_, ?_, ?_, ?_, hB⟩
      · intro c o hc; dsimp only at hc; split at hc
        · exact hc
        · cases hc
      · intro c o hc
        refine (ha c o (fun e => ?_) (a2 c o hc)).1
        rcases hown with ⟨h1, _⟩ | ⟨_, _, _, _, h1, _, _, _, h4, _⟩
        · cases h1; simp [ob] at e
        · cases h1
          simp only [ob, Option.some.injEq] at e
          subst e
          rcases dj _ with h5 | h5
          · rw [h4] at h5; cases h5
          · rw [hc] at h5; cases h5
      · intro c
        dsimp only
        cases hc : M2 c with
        | none => exact .inr rfl
        | some o =>
          refine .inl ?_
          rw [if_neg]
          refine (ha c o (fun e => ?_) (a2 c o hc)).2
          rcases hown with ⟨h1, _⟩ | ⟨_, _, _, _, h1, _, _, _, h4, _⟩
          · cases h1; simp [ob] at e
          · cases h1
            simp only [ob, Option.some.injEq] at e
            subst e
            rcases dj _ with h5 | h5
            · rw [h4] at h5; cases h5
            · rw [hc] at h5; cases h5
      · refine ⟨fun i hi => ?_, ?_, ?_, _, _, rfl⟩
        · simp only [rcat]
          split
          · exact hr1 i ‹_›
          · exact hxl _ (by omega)
        · rw [flat_rcat, List.all_append, hr2, hx1]; rfl
        · rw [flat_rcat]
          exact ho.frame fun c o hc ho => by rw [if_pos hc]; exact ho
theorem SelR.one {As : List HP} {sz : Nat} {v : Value} {n : Nat} {row : Nat → List Value} (s : SelR As sz v n row) {H M : Heap} (h : (Sat As).p H M) : SlK (Kn H M) sz v n row := s.rd h
theorem st_app {t e sz bytes m c : Nat} {p q : Operand} {a b : Option Addr} {len cap : Nat} {row row2 : Nat → List Value} [SL P t e sz bytes]
    (u : Sel (SA (some e) sz (.slice a len cap) len row) As Bs) (x : SelR As sz (.slice b m c) m row2) (hx1 : (flat m row2).all one = true) (hroom : (len + m + 512) * bytes ≤ 140737488355328 := by omega)
    (hp : ∀ j, ev (mk l j) p = .slice a len cap := by intro j; rfl) (hq : ∀ j, ev (mk l j) q = .slice b m c := by intro j; rfl) :
    StepL P ⟨dd, .call ⟨.builtin .append, #[p, q], #[t, t]⟩, t, pos, af, g⟩ l As (fun v Cs => ∃ a' cap', v = .slice a' (len + m) cap' ∧ Cs = SA (some e) sz (.slice a' (len + m) cap') (len + m) (rcat len row row2) :: Bs) := .mk fun j Fs H M s => by
  rw [execOp_app, hp j, hq j]
  exact hmc_of_hm (hm_bind (hm_mono (sa_app ((u.app Fs).sat s) ((x.app Fs).rd s) hx1 hroom) fun v H' M' ⟨a', cap', hv, hs⟩ => hm_pure ⟨v, .inl rfl, _, ⟨a', cap', hv, rfl⟩, hs⟩))
end
end Go.Cam
namespace Go.Cam
section
variable {P : Program} {f : FuncId} {n : Nat} {R : Value → HP} {k : List It} {l : List (Nat × Value)} {As Bs Rs Ps Zs : List HP} {all : Array Oper} {rest os : List Oper} {d i : Nat} {dd : Option Nat} {op : Op} {oty : TypeId} {pos : String} {af : Array Edge} {g : Option (Nat × Bool)}
theorem hm_newVar {H M : Heap} {t : Nat} {v : Value} {c : List Value} {K : Addr → Heap → Heap → Prop} (hc : v.cells.toList = c) (h : ∀ r, Fresh H M r → K ⟨r, 0, none⟩ H (upd M r (.cells c.toArray t))) : hm P (newVar t v) H M K := by
  subst hc
  exact hm_newRow h
theorem st_box {t : TypeId} {x : Operand} {v : Value} {c : List Value} (hx : ∀ j, ev (mk l j) x = v := by intro j; rfl) (hc : Cel v c := by infer_instance) :
    StepL P ⟨dd, .box t x, oty, pos, af, g⟩ l As (fun v Bs => ∃ r, v = .pointer (some ⟨r, 0, none⟩) ∧ Bs = Box r t c :: As) := .mk fun j Fs H M s => by
  refine hmc_of_hm ?_
  show hm P (Instr.box t (ev (mk l j) x) >>= fun v => pure (Next.value v)) H M _
  rw [hx j]
  exact hm_bind (hm_bind (hm_newVar hc.h fun r hr => hm_pure (hm_pure ⟨_, .inl rfl, _, ⟨r, rfl, rfl⟩, own_new hr s⟩)))
theorem st_alloc {t : TypeId} {z : Value} {c : List Value} [zv : ZV P t z] [hc : Cel z c] :
    StepL P ⟨dd, .alloc t, oty, pos, af, g⟩ l As (fun v Bs => ∃ r, v = .pointer (some ⟨r, 0, none⟩) ∧ Bs = Box r t c :: As) := .mk fun j Fs H M s => by
  refine hmc_of_hm ?_
  show hm P (Instr.alloc t true (.tuple #[]) >>= fun v => pure (Next.value v)) H M _
  unfold Instr.alloc
  refine hm_bind (hm_bind (hm_cst zv.h ?_))
  exact hm_bind (hm_newVar hc.h fun r hr => hm_pure (hm_pure ⟨_, .inl rfl, _, ⟨r, rfl, rfl⟩, own_new hr s⟩))
theorem s_box {t : TypeId} {x : Operand} {v : Value} {c : List Value} (h : ∀ r, RunS P f n R (.ops all rest :: k) ((d, .pointer (some ⟨r, 0, none⟩)) :: l) (Box r t c :: As)) (hx : ∀ j, ev (mk l j) x = v := by intro j; rfl) (hc : Cel v c := by infer_instance)
    (hd : Nat.blt d n = true := by rfl) (hw : ∀ j, wantE ⟨some d, .box t x, oty, pos, af, g⟩ all (mk l j) = true := by intro j; rfl) : RunS P f n R (.ops all (⟨some d, .box t x, oty, pos, af, g⟩ :: rest) :: k) l As :=
  s_step (st_box hx hc) (fun v Bs ⟨r, hv, hb⟩ => by subst hv; subst hb; exact h r) hd hw
theorem s_alloc {t : TypeId} {z : Value} {c : List Value} [zv : ZV P t z] [hc : Cel z c] (h : ∀ r, RunS P f n R (.ops all rest :: k) ((d, .pointer (some ⟨r, 0, none⟩)) :: l) (Box r t c :: As))
    (hd : Nat.blt d n = true := by rfl) (hw : ∀ j, wantE ⟨some d, .alloc t, oty, pos, af, g⟩ all (mk l j) = true := by intro j; rfl) : RunS P f n R (.ops all (⟨some d, .alloc t, oty, pos, af, g⟩ :: rest) :: k) l As :=
  s_step (st_alloc (t := t)) (fun v Bs ⟨r, hv, hb⟩ => by subst hv; subst hb; exact h r) hd hw
theorem d_nrm {A B C : List HP} {p : List Dw} [ap : AppL A B C] (h : DS P f n R k os Zs p l C) : DS P f n R k os Zs p l (A ++ B) := by rw [ap.h]; exact h
theorem stp_mono {i : Nat} {k : List (Nat × Value) → HP → Prop} {l : List (Nat × Value)} {A1 A2 : HP} (hk : ∀ l, k l A1 → k l A2) (hi : ∀ H M, A2.p H M → A1.p H M) (h : Stp P n os i l A1 k) : Stp P n os i l A2 k := by
  obtain ⟨o, h1, h2, h3⟩ := h
  refine ⟨o, h1, h2, ?_⟩
  rcases h3 with ⟨h4, h5⟩ | ⟨h4, h5⟩
  · exact .inl ⟨h4, fun j F H M q => h5 j F H M (star_monoL hi q)⟩
  · exact .inr ⟨h4, hk _ h5⟩
theorem dwr_mono {K : HP → List (Nat × Value) → HP → Prop} (hK : ∀ Z l A1 A2, (∀ H M, A2.p H M → A1.p H M) → K Z l A1 → K Z l A2) : ∀ (p : List Dw) (Z : HP) l (A1 A2 : HP), (∀ H M, A2.p H M → A1.p H M) → DWR P n os K p Z l A1 → DWR P n os K p Z l A2 := by
  intro p
  induction p with
  | nil => intro Z l A1 A2 hi hd; exact hK Z l A1 A2 hi hd
  | cons x p ih =>
    intro Z l A1 A2 hi hd
    cases x with
    | q i => obtain ⟨o, h1, h2, v, h3, h4⟩ := hd; exact ⟨o, h1, h2, v, h3, ih _ _ _ _ hi h4⟩
    | s i => exact stp_mono (fun l => ih Z l A1 A2 hi) hi hd
    | r =>
      obtain ⟨B, Z', A', h0, h1, h2⟩ := hd
      exact ⟨B, Z', A', fun H M q => h0 H M (hi H M q), h1, h2⟩
    | alt2 a c b => exact ⟨stp_mono (fun l h => ⟨stp_mono (fun l h => stp_mono (fun l => ih Z l A1 A2 hi) hi h) hi h.1, stp_mono (fun l h => stp_mono (fun l => ih Z l A1 A2 hi) hi h) hi h.2⟩) hi hd.1, stp_mono (fun l h => stp_mono (fun l h => stp_mono (fun l => ih Z l A1 A2 hi) hi h) hi h) hi hd.2⟩
    | altq1 c q b => exact ⟨stp_mono (fun l ⟨o, g1, g2, v, g3, g4⟩ => ⟨o, g1, g2, v, g3, stp_mono (fun l => ih Z l A1 A2 hi) hi g4⟩) hi hd.1, stp_mono (fun l h => stp_mono (fun l ⟨o, g1, g2, v, g3, g4⟩ => ⟨o, g1, g2, v, g3, ih Z _ A1 A2 hi g4⟩) hi h) hi hd.2⟩
    | altq a c q b => exact ⟨stp_mono (fun l h => ⟨stp_mono (fun l ⟨o, g1, g2, v, g3, g4⟩ => ⟨o, g1, g2, v, g3, stp_mono (fun l => ih Z l A1 A2 hi) hi g4⟩) hi h.1, stp_mono (fun l h => stp_mono (fun l ⟨o, g1, g2, v, g3, g4⟩ => ⟨o, g1, g2, v, g3, ih Z _ A1 A2 hi g4⟩) hi h) hi h.2⟩) hi hd.1, stp_mono (fun l h => stp_mono (fun l h => stp_mono (fun l ⟨o, g1, g2, v, g3, g4⟩ => ⟨o, g1, g2, v, g3, ih Z _ A1 A2 hi g4⟩) hi h) hi h) hi hd.2⟩
    | alt i j => exact ⟨stp_mono (fun l h => stp_mono (fun l => ih Z l A1 A2 hi) hi h) hi hd.1, stp_mono (fun l h => stp_mono (fun l => ih Z l A1 A2 hi) hi h) hi hd.2⟩
theorem d_open {A B : HP} {p : List Dw} (he : ∀ H M, A.p H M → B.p H M) (h : DS P f n R k os Zs p l (B :: As)) : DS P f n R k os Zs p l (A :: As) :=
  .mk (dwr_mono (fun Z l A1 A2 hi hd H M q => hd H M (star_mono hi q)) p _ _ _ _ (fun H M q => star_monoL he q) h.h)
end
theorem SlK.congr {K : Nat → Obj → Prop} {sz : Nat} {v : Value} {n : Nat} {row row' : Nat → List Value} (h : SlK K sz v n row) (e : ∀ i, i < n → row i = row' i) : SlK K sz v n row' := by
  obtain ⟨b, c, h1, h2, h3, h4⟩ := h
  refine ⟨b, c, h1, h2, fun i hi => by rw [← e i hi]; exact h3 i hi, fun h0 => ?_⟩
  rw [← flat_congr e]; exact h4 h0
/-- the same rows, told otherwise -/
theorem SA.cg {m : Option Nat} {sz : Nat} {v : Value} {n : Nat} {row : Nat → List Value} (row' : Nat → List Value) (e : ∀ i, i < n → row i = row' i) (H M : Heap) (h : (SA m sz v n row).p H M) : (SA m sz v n row').p H M := by
  cases m with
  | none => exact SlK.congr (K := fun b o => H b = some o) h e
  | some t =>
    obtain ⟨h1, h2, h3, h4⟩ := h
    exact ⟨fun i hi => by rw [← e i hi]; exact h1 i hi, by rw [← flat_congr e]; exact h2, by rw [← flat_congr e]; exact h3, h4⟩
end Go.Cam
/- Whole stretches of a walk at one call. -/
namespace Go.Cam
structure Hid (A : Prop) : Prop where
  out : A
theorem do_ {A B : Prop} (a : A) (h : Hid A → B := by
    intro a_go
    repeat (first
      | refine d_nrm ?_ | refine d_look rfl lk_zfa ?_ | refine d_look rfl lk_faz ?_ | refine d_look rfl lk_fa ?_ | refine d_look rfl lk_fae ?_
      | refine d_look rfl lk_ldA ?_ | refine d_look rfl lk_ld ?_ | refine d_look rfl lk_ldW ?_ | refine d_look rfl lk_ldP ?_ | refine d_look rfl lk_ldeA ?_ | refine d_look rfl lk_lde ?_ | refine d_look rfl lk_ldeN ?_
      | refine d_look rfl lk_fldA ?_ | refine d_look rfl lk_fld ?_ | refine d_look rfl lk_fldN ?_
      | refine d_look rfl lk_len ?_ | refine d_look rfl lk_lens ?_ | refine d_look rfl lk_bd0 ?_ | refine d_look rfl lk_bd1 ?_ | refine d_look rfl lk_bd2 ?_ | refine d_look rfl lk_bd3 ?_ | refine d_look rfl lk_bd4 ?_ | refine d_look rfl lk_bd5 ?_ | refine d_look rfl lk_bd6 ?_ | refine d_look rfl lk_bd7 ?_ | refine d_look rfl lk_bd8 ?_
      | refine d_look rfl lk_inc ?_ | refine d_look rfl lk_add ?_ | refine d_look rfl lk_sub ?_
      | refine d_look rfl lk_zix ?_ | refine d_look rfl lk_ix ?_ | refine d_look rfl lk_ixs ?_ | refine d_look rfl lk_ixa ?_ | refine d_look rfl lk_ixaN ?_
      | refine d_look rfl lk_p ?_ | refine d_no rfl ?_ | refine d_nil ?_)
    exact Hid.out a_go) : B := h ⟨a⟩
end Go.Cam
namespace Go.Cam
section
variable {P : Program} {f : FuncId} {n : Nat} {R : Value → HP} {k : List It} {l : List (Nat × Value)} {As Bs : List HP} {all : Array Oper} {rest : List Oper} {d : Nat} {oty : TypeId} {pos : String} {af : Array Edge} {g : Option (Nat × Bool)}
end
section
variable {P : Program} {f : FuncId} {n : Nat} {R : Value → HP} {k : List It} {l : List (Nat × Value)} {As Bs : List HP} {all : Array Oper} {rest : List Oper} {d : Nat} {oty : TypeId} {pos : String} {af : Array Edge} {g : Option (Nat × Bool)}
theorem st_lk {o : Oper} {v : Value} (hv : LookS P o l As v) : StepL P o l As (fun u Bs => u = v ∧ Bs = As) := .mk fun j Fs H M s w0 w hh =>
  ⟨_, w, hv j H M (star_fst (Sat.part s)) w0 w hh, H, M, hh, As, ⟨rfl, rfl⟩, s⟩
inductive RVS (P : Program) (As : List HP) (e : Nat → Value) : List ResultVar → List Value → Prop
  | nil : RVS P As e [] []
  | tmp {t r vs} (v : Value) : e t = v → RVS P As e r vs → RVS P As e (.tmp t :: r) (v :: vs)
  | cell {a t r vs} (b m : Nat) {c : Array Value} {ty : TypeId} {fr : Nat × Nat} {Bs : List HP} [AG P t true] [SZ P t m] : e a = .pointer (some ⟨b, 0, none⟩) → Sel (.own b (.cells c ty fr)) As Bs → c.size = m → RVS P As e r vs → RVS P As e (.cell a t :: r) (.agg c :: vs)
theorem RVS.rv {e : Nat → Value} {rs : List ResultVar} {vs : List Value} (h : RVS P As e rs vs) {H M : Heap} (s : (Sat As).p H M) : RV P H M e rs vs := by
  induction h with
  | nil => exact .nil
  | tmp v hv _ ih => exact .tmp v hv ih
  | cell b m ha sl hc _ ih => rename_i ag sz _; exact .cell b 0 m _ ha ag.h sz.h (.inl (sl.hold s)) (by omega) (extract_whole hc) ih
theorem s_retv {fn : Func} {rs : List ResultVar} {vs : List Value} {Q : Value → List HP → Prop} {F : HP} (hf : P.funcs[f]? = some fn) (hr : ∀ j, RVS P As (mk l j) rs vs) (hq : Q (resv vs) Bs) (he : Ent As (Bs ++ [F])) (hrs : fn.results.toList = rs := by rfl) :
    RunS P f n (post Q F) (.code .ret :: k) l As := .mk fun H M s => run_retv vs hf hrs (fun j => (hr j).rv s) ⟨Bs, hq, he.sat s⟩
end
section
variable {P : Program} {f : FuncId} {n : Nat} {k : List It} {l : List (Nat × Value)} {As Bs : List HP}
theorem s_rett {fn : Func} {rs : List ResultVar} {vs : List Value} {Q : Value → List HP → Prop} {F : HP} (hf : P.funcs[f]? = some fn) (hrs : fn.results.toList = rs) (hr : ∀ j, RVS P As (mk l j) rs vs) (h2 : Nat.beq vs.length 1 = false) (hq : Q (.tuple vs.toArray) Bs) (he : Ent As (Bs ++ [F])) :
    RunS P f n (post Q F) (.code .ret :: k) l As := s_retv hf hr (by
      match vs, h2 with
      | [], _ => exact hq
      | [v], h => cases h
      | _ :: _ :: _, _ => exact hq) he hrs
theorem s_ret1 {fn : Func} {rs : List ResultVar} {v : Value} {Q : Value → List HP → Prop} {F : HP} (hf : P.funcs[f]? = some fn) (hrs : fn.results.toList = rs) (hr : ∀ j, RVS P As (mk l j) rs [v]) (hq : Q v Bs) (he : Ent As (Bs ++ [F])) :
    RunS P f n (post Q F) (.code .ret :: k) l As := s_retv (vs := [v]) hf hr hq he hrs
end
/-- a contract over known blocks, as one over assertions: a block that is read; one that is changed -/
theorem Ctr.same {P : Program} {q : FuncId} {args : List Value} {b : Nat} {o : Obj} {φ : Value → Prop} (h : ∀ H M, M b = some o → ACalls P q args.toArray H M (fun v H' M' => φ v ∧ H' = H ∧ Ch [] M M')) : Ctr P q args [.own b o] (fun v Bs => φ v ∧ Bs = [.own b o]) := fun F H M s =>
  (h H M (star_fst s)).mono fun v H' M' ⟨hv, hH, hc⟩ => ⟨_, ⟨hv, rfl⟩, by subst hH; exact (Sat _).mono (Le.refl _) (fun c o hc' => hc c o (by simp) hc') s⟩
theorem Ctr.pure {P : Program} {q : FuncId} {args : List Value} {φ : Value → Prop} (h : ∀ H M, ACalls P q args.toArray H M (fun v H' M' => φ v ∧ H' = H ∧ Ch [] M M')) : Ctr P q args [] (fun v Bs => φ v ∧ Bs = []) := fun F H M s =>
  (h H M).mono fun v H' M' ⟨hv, hH, hc⟩ => ⟨_, ⟨hv, rfl⟩, by subst hH; exact (Sat _).mono (Le.refl _) (fun c o hc' => hc c o (by simp) hc') s⟩
theorem sel_ {a : HP} {As Bs : List HP} (h : Sel a As Bs := by repeat (first | with_reducible exact Sel.here | with_reducible apply Sel.there)) : Sel a As Bs := h
theorem spl_ {As Bs Rs : List HP} (h : Split As Bs Rs := by repeat (first | exact Split.nil | apply Split.perx (by repeat (first | with_reducible exact Sel.here | with_reducible apply Sel.there)) (by infer_instance) | apply Split.cons (by repeat (first | with_reducible exact Sel.here | with_reducible apply Sel.there)))) : Split As Bs Rs := h
theorem ent_ {As Bs : List HP} (h : Ent As Bs := by repeat (first | exact Ent.nil | refine Ent.per (by repeat (first | with_reducible exact Sel.here | with_reducible apply Sel.there)) ?_ | refine Ent.cons (by repeat (first | with_reducible exact Sel.here | with_reducible apply Sel.there)) ?_)) : Ent As Bs := h
end Go.Cam
/- From what a row of the law hands over to assertions, and from a contract to what the row asks. -/
namespace Go.Cam
open Go.ChangeShapes Go.WideShapes Go.ChangeAt Go.RowKit Go.Deep
theorem extract_rows {c : Array Value} {off sz : Nat} {row : Nat → List Value} : ∀ {n : Nat}, (∀ i, i < n → c.extract (off + i * sz) (off + i * sz + sz) = (row i).toArray ∧ off + i * sz + sz ≤ c.size) → c.extract off (off + n * sz) = (flat n row).toArray
  | 0, _ => by simp [flat]; omega
  | n + 1, h => by
    have ih := extract_rows (n := n) fun i hi => h i (by omega)
    obtain ⟨h1, h2⟩ := h n (by omega)
    have e1 := congrArg Array.toList ih
    have e2 := congrArg Array.toList h1
    rw [Array.toList_extract, List.extract_eq_take_drop, Nat.add_sub_cancel_left] at e1 e2
    dsimp only at e1 e2
    apply Array.ext'
    rw [Array.toList_extract, List.extract_eq_take_drop, Nat.add_sub_cancel_left, flat_succ, Nat.add_mul, Nat.one_mul, List.take_add, e1, List.drop_drop, e2]
section
variable {H : Type} {enc : TypeId × Value → H} {P : Program} {w : World} {base : Nat} {held : Bool}
end
theorem below_ctr {P : Program} {f : FuncId} {args : List Value} {As : List HP} {W : World} {V : Value} (h : Ctr P f args As (fun v Bs => v = V ∧ Bs = [])) (hA : (Sat As).p (held W) nil) :
    Calls P f args.toArray W (fun e W' => e = .returned V ∧ Below W.heap.size W W') := by
  let F : HP := .per (fun H => Le (held W) H) fun h1 h2 => h2.trans h1
  have s : (Sat (As ++ [F])).p (held W) nil := Sat.join (star_comm (per_add (M0 := nil) (A := F) (Le.refl _) hA))
  refine (h F (held W) nil s W W (Has.start W)).mono fun e W' ⟨v, H', M', he, hh, Bs, ⟨hv, hb⟩, hs⟩ => ?_
  subst he; subst hv; subst hb
  have hle : Le (held W) H' := star_fst hs
  refine ⟨rfl, hh.os, hh.tape, hh.output, hh.size, fun k hk => ?_⟩
  have : W.heap[k]? = some W.heap[k] := Array.getElem?_eq_getElem hk
  rw [this]
  exact hh.h k _ (hle k _ this)
end Go.Cam
/- Parts of slices, over assertions; append of zeros to nothing. -/
namespace Go.Cam
def sladdr (a : Option Addr) (sz p cap : Nat) : Option Addr := if cap = p then a else a.map fun x => x.add (p * sz)
section
variable {P : Program} {f : FuncId} {n : Nat} {R : Value → HP} {k : List It} {l : List (Nat × Value)} {As Bs : List HP} {all : Array Oper} {rest os : List Oper} {d : Nat} {oty : TypeId} {pos : String} {af : Array Edge} {g : Option (Nat × Bool)}
theorem qs_slc' {H M : Heap} {d : Option Nat} {t : TypeId} {x : Operand} {lo hi : Option Operand} {e : Nat → Value} {a : Option Addr} {len cap el sz : Nat} (p q : Nat) [sc : SC P t el] [hs : SZ P el sz]
    (hx : ev e x = .slice a len cap) (hlo : loB e lo p) (hhi : hiB e hi len q) (hl : p ≤ q) (hh : q ≤ cap) :
    Qs P ⟨d, .slice t x lo hi none, oty, pos, af, g⟩ e H M (.slice (sladdr a sz p cap) (q - p) (cap - p)) := by
  refine qt_exec (s := Instr.sliceAt t (ev e x) (lo.map (ev e)) (hi.map (ev e)) none) (by unfold execOp; rfl) fun w0 w _ => ?_
  refine cst_run _ ?_ w
  rw [hx]
  unfold Instr.sliceAt
  rw [cst_bind sc.h]
  dsimp only
  unfold Instr.slice
  rw [cst_bind sc.h]
  dsimp only
  have hb : cst P (Instr.sliceBounds true len cap (lo.map (ev e)) (hi.map (ev e)) none) = some (p, q, cap) := by
    unfold Instr.sliceBounds
    cases lo with
    | none =>
      simp only [loB] at hlo
      subst hlo
      cases hi with
      | none => simp only [hiB] at hhi; subst hhi; rfl
      | some y =>
        obtain ⟨k, hy⟩ := hhi
        simp only [Option.map_none, Option.map_some, pure_bind]
        rw [cst_bind (cst_sliceBound hy hh)]; rfl
    | some z =>
      obtain ⟨k', hz⟩ := hlo
      cases hi with
      | none =>
        simp only [hiB] at hhi
        subst hhi
        simp only [Option.map_none, Option.map_some, pure_bind]
        rw [cst_bind (cst_sliceBound hz hl)]; rfl
      | some y =>
        obtain ⟨k, hy⟩ := hhi
        simp only [Option.map_some, pure_bind]
        rw [cst_bind (cst_sliceBound hy hh), cst_bind (cst_sliceBound hz hl)]; rfl
  rw [cst_bind hb]
  dsimp only
  rw [cst_bind hs.h]
  unfold sladdr
  by_cases hc : cap = p
  · simp only [if_pos hc]; rfl
  · simp only [if_neg hc]; rfl
/-- a part of a slice -/
theorem lk_slc (p q : Nat) {t : TypeId} {x : Operand} {lo hi : Option Operand} {a : Option Addr} {len cap el sz : Nat} [SC P t el] [SZ P el sz]
    (hl : p ≤ q) (hh : q ≤ cap) (hx : ∀ j, ev (mk l j) x = .slice a len cap := by intro j; rfl) (hlo : ∀ j, loB (mk l j) lo p := by intro j; first | rfl | exact ⟨_, rfl⟩) (hhi : ∀ j, hiB (mk l j) hi len q := by intro j; first | rfl | exact ⟨_, rfl⟩) :
    LookS P ⟨some d, .slice t x lo hi none, oty, pos, af, g⟩ l As (.slice (sladdr a sz p cap) (q - p) (cap - p)) := .mk fun j _ _ _ => qs_slc' p q (hx j) (hlo j) (hhi j) hl hh
end
/-- what is read of a slice is read of its part -/
theorem SA.part {sz : Nat} {a : Option Addr} {n cap : Nat} {row : Nat → List Value} (p q : Nat) (hp : p ≤ q) (hq : q ≤ n) (H M : Heap) (h : (SA none sz (.slice a n cap) n row).p H M) :
    (SA none sz (.slice (sladdr a sz p cap) (q - p) (cap - p)) (q - p) (fun i => row (p + i))).p H M := by
  obtain ⟨base, cap', e, hc, h1, h2⟩ := h
  cases e
  refine ⟨_, _, rfl, by omega, fun i hi => h1 _ (by omega), fun h0 => ?_⟩
  obtain ⟨b, off, c, ty, fr, rfl, kn, hs, hx⟩ := h2 (by omega)
  have hne : cap ≠ p := by omega
  have hle : (p + (q - p)) * sz ≤ n * sz := Nat.mul_le_mul_right _ (by omega)
  rw [Nat.add_mul] at hle
  refine ⟨b, off + p * sz, c, ty, fr, by unfold sladdr; rw [if_neg hne]; simp [addr_add], kn, by omega, ?_⟩
  have h3 := flat_part (k := q - p) h1 (show p + (q - p) ≤ n by omega)
  have h4 : ((flat n row).toArray.extract (p * sz) (p * sz + (q - p) * sz)) = (flat (q - p) fun i => row (p + i)).toArray := by
    rw [← h3]
    apply Array.ext'
    rw [Array.toList_extract, List.extract_eq_take_drop]
    simp
  rw [← h4, ← hx]
  rw [Array.extract_extract]
  congr 1
  omega
/-- a slice of one's own, cut -/
theorem SA.cut {e sz : Nat} {a : Option Addr} {n cap : Nat} {row : Nat → List Value} (m : Nat) (hm : m ≤ n) (H M : Heap) (h : (SA (some e) sz (.slice a n cap) n row).p H M) : (SA (some e) sz (.slice a m cap) m row).p H M := by
  obtain ⟨h1, h2, h3, _⟩ := h
  obtain ⟨d, rfl⟩ : ∃ d, n = m + d := ⟨n - m, by omega⟩
  have hf : flat (m + d) row = flat m row ++ flat d (fun q => row (m + q)) := flat_add m d row
  refine ⟨fun i hi => h1 i (by omega), ?_, ?_, _, _, rfl⟩
  · rw [hf, List.all_append, Bool.and_eq_true] at h2; exact h2.1
  · generalize hN : m + d = N at *
    rcases h3 with ⟨e1, e2⟩ | ⟨b, len, cap', cs, e1, h4, h5, h6, h7, h8⟩
    · cases e1
      obtain rfl : m = 0 := by omega
      exact .inl ⟨rfl, rfl⟩
    · cases e1
      refine .inr ⟨b, m, cap, cs, rfl, flat_len fun i hi => h1 i (by omega), h5, by omega, h7, ?_⟩
      rw [hf] at h8
      have := congrArg (fun l => l.take (flat m row).length) h8
      rw [List.take_take, List.length_append, Nat.min_eq_left (by omega), List.take_left' rfl] at this
      exact this
section
variable {P : Program} {f : FuncId} {n : Nat} {R : Value → HP} {k : List It} {l : List (Nat × Value)} {As Bs : List HP} {all : Array Oper} {rest os : List Oper} {d : Nat} {dd : Option Nat} {oty : TypeId} {pos : String} {af : Array Edge} {g : Option (Nat × Bool)}
end
section
variable {P : Program} {H M : Heap} {l : List (Nat × Value)} {As : List HP} {oty : TypeId} {pos : String} {af : Array Edge} {g : Option (Nat × Bool)}
end
theorem s_again {P : Program} {f : FuncId} {n : Nat} {R : Value → HP} {k : List It} {l : List (Nat × Value)} {As : List HP} {c : Code} (h : RunS P f n R (.code c :: .inLoop c :: k) l As) : RunS P f n R (.inLoop c :: k) l As := .mk fun H M s => run_inLoop (h H M s)
theorem SA.cap {m : Option Nat} {sz : Nat} {a : Option Addr} {n c : Nat} {row : Nat → List Value} (H M : Heap) (h : (SA m sz (.slice a n c) n row).p H M) : n ≤ c := by
  obtain ⟨_, _, e, h2⟩ := SA.val h; cases e; exact h2
/-- what is read of a slice, and its part too -/
theorem s_part (p q : Nat) {P : Program} {f : FuncId} {n : Nat} {R : Value → HP} {k : List It} {l : List (Nat × Value)} {As Bs : List HP} {sz : Nat} {a : Option Addr} {m cap : Nat} {row : Nat → List Value} (hp : p ≤ q) (hq : q ≤ m) (s : Sel (SA none sz (.slice a m cap) m row) As Bs)
    (h : RunS P f n R k l (SA none sz (.slice (sladdr a sz p cap) (q - p) (cap - p)) (q - p) (fun i => row (p + i)) :: As)) : RunS P f n R k l As :=
  s_dup s (s_open (SA.part p q hp hq) h)
end Go.Cam
