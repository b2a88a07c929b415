/- Operations that act: stores, new blocks, slices made, appended to, copied. -/
import Derived.Test.YtimaipclgmcekaaCamX
namespace Go.Cam
section
variable {P : Program} {f : FuncId} {n : Nat} {R : Value → HP} {k : List It} {l : List (Nat × Value)} {As Bs Rs Ps Zs : List HP} {all : Array Oper} {rest os : List Oper} {d i : Nat} {dd : Option Nat} {op : Op} {oty : TypeId} {pos : String} {af : Array Edge} {g : Option (Nat × Bool)}
theorem st_hm {o : Oper} {s : Sem Value} {K : Value → List HP → Prop} (he : ∀ j, execOp (ev (mk l j)) o = (s >>= fun v => pure (Next.value v)))
    (h : ∀ Fs H M, (Sat (As ++ Fs)).p H M → hm P s H M fun v H' M' => ∃ Bs, K v Bs ∧ (Sat (Bs ++ Fs)).p H' M') : StepL P o l As K := .mk fun j Fs H M q => by
  rw [he j]
  exact hmc_of_hm (hm_bind (hm_mono (h Fs H M q) fun v H' M' h => hm_pure ⟨v, .inl rfl, h⟩))
theorem st_st {t : TypeId} {x y : Operand} {b off m : Nat} {c c' vs : List Value} {ty : TypeId} {v : Value} {As' : List HP} [hs : SZ P t m]
    (hx : ∀ j, ev (mk l j) x = .pointer (some ⟨b, off, none⟩) := by intro j; rfl) (hy : ∀ j, ev (mk l j) y = v := by intro j; rfl)
    (u : Upd (Box b ty c) (Box b ty c') As As' := by repeat (first | with_reducible exact Upd.here | with_reducible apply Upd.there))
    (hcel : Cel v vs := by infer_instance) (hc : SetsL c off vs c' := by infer_instance) (hn : Nat.beq vs.length m = true := by rfl) (hl : Nat.ble (off + m) c.length = true := by rfl) :
    StepL P ⟨dd, .store t x y, oty, pos, af, g⟩ l As (fun _ Bs => Bs = As') := .mk fun j Fs H M q => by
  obtain ⟨Cs, s1, s2⟩ := (u.app Fs).sels
  obtain ⟨hb, hq⟩ := own_write (o' := .cells c'.toArray ty (0, 0)) (s1.sat q)
  have e := hcel.h
  refine hmc_of_hm ?_
  show hm P (Instr.storeAt t (ev (mk l j) x) (ev (mk l j) y) >>= fun _ => pure Next.skip) H M _
  rw [hx j, hy j]
  refine hm_bind (hm_st hs.h hb ?_ ?_ (fun j _ _ h => by omega) (fun u hu => List.all_eq_true.1 (by rw [e]; exact hcel.o) u hu) (hm_pure ⟨undef, .inr ⟨rfl, rfl⟩, As', rfl, ?_⟩))
  · rw [e]; exact Nat.eq_of_beq_eq_true hn
  · simpa using Nat.le_of_ble_eq_true hl
  · rw [e, hc.h]; exact s2.back hq
theorem st_new {ob : Obj} (hx : ∀ j, (cstNew P (execOp (ev (mk l j)) ⟨dd, op, oty, pos, af, g⟩)).map (fun x => (x.1, fun r => cst P (x.2 r))) = some (ob, fun r => some (.value (.pointer (some ⟨r, 0, none⟩)))) := by intro j; rfl) :
    StepL P ⟨dd, op, oty, pos, af, g⟩ l As (fun v Bs => ∃ r, v = .pointer (some ⟨r, 0, none⟩) ∧ Bs = .own r ob :: As) := .mk fun j Fs H M s => by
  refine hmc_of_hm fun w0 w hh => ?_
  have hx := hx j
  cases hq : cstNew P (execOp (ev (mk l j)) ⟨dd, op, oty, pos, af, g⟩) with
  | none => rw [hq] at hx; cases hx
  | some p =>
    obtain ⟨o', kk⟩ := p
    rw [hq] at hx
    simp only [Option.map_some, Option.some.injEq, Prod.mk.injEq] at hx
    obtain ⟨rfl, hk⟩ := hx
    refine ⟨_, _, H, upd M w.heap.size o', ?_, hh.push o', _, .inl rfl, _, ⟨w.heap.size, rfl, rfl⟩, own_new hh.fresh s⟩
    rw [cstNew_run _ hq]
    exact cst_run _ (congrFun hk w.heap.size) _
theorem st_bs {t e sz bytes len : Nat} {ps : List (Nat × Operand)} {z : Value} {cells : List Value} [sl : SL P t e sz bytes] [zv : ZV P e z] [ol : OneL cells]
    (hf : ∀ j, fillG (fun i => some (i * sz, sz)) (tab (len * sz) fun i => z.cells[i % z.cells.size]!) (ps.map fun x => (x.1, ev (mk l j) x.2)) = some cells.toArray)
    (hlen : 0 < len * sz := by decide) (hmax : len * sz ≤ 16777216 := by decide) (hc : Nat.beq cells.length (len * sz) = true := by rfl) :
    StepL P ⟨dd, .buildSlice t len ps.toArray, oty, pos, af, g⟩ l As (fun v Bs => ∃ a, v = .slice a len len ∧ Bs = SA (some e) sz (.slice a len len) len (rowsOf sz cells) :: As) := .mk fun j Fs H M s => by
  have e1 : execOp (ev (mk l j)) ⟨dd, .buildSlice t len ps.toArray, oty, pos, af, g⟩ = (Instr.buildSlice t len (ps.toArray.map fun x => (x.1, ev (mk l j) x.2)) >>= fun v => pure (Next.value v)) := by
    unfold execOp; rfl
  rw [e1, List.map_toArray]
  obtain ⟨i, z', hu, hs, _, _, _, _, _, _⟩ := sl.h
  refine hmc_of_hm (hm_bind (hm_bs hu hs zv.h hlen hmax _ (hf j) fun r hr => hm_pure ⟨_, .inl rfl, _, ⟨_, rfl, rfl⟩, ?_⟩))
  exact star_monoL (fun H M h => own_SA h (Nat.eq_of_beq_eq_true hc) ol.h) (own_new hr s)
theorem sa_app {P : Program} {t e sz bytes m c : Nat} {a b : Option Addr} {len cap : Nat} {row row2 : Nat → List Value} [sl' : SL P t e sz bytes] {X : HP} {H M : Heap}
    (hs0 : ((SA (some e) sz (.slice a len cap) len row).star X).p H M) (hxr : SlK (Kn H M) sz (.slice b m c) m row2) (hx1 : (flat m row2).all one = true) (hroom : (len + m + 512) * bytes ≤ 140737488355328) :
    hm P (Builtin.append_ #[t, t] t #[.slice a len cap, .slice b m c]) H M fun v H' M' => ∃ a' cap', v = .slice a' (len + m) cap' ∧ ((SA (some e) sz (.slice a' (len + m) cap') (len + m) (rcat len row row2)).star X).p H' M' := by
  obtain ⟨M1, M2, a1, a2, dj, ⟨hr1, hr2, hown, _⟩, hB⟩ := hs0
  have hownM : Own M e sz (.slice a len cap) (flat len row) := hown.frame fun c o _ hc => a1 c o hc
  have hsz : 0 < sz := by obtain ⟨_, _, _, _, _, _, _, _, _, h⟩ := sl'.h; exact h
  have hcap : len ≤ cap := by
    rcases hownM with ⟨h1, _⟩ | ⟨_, _, _, _, h1, _, _, h2, _⟩ <;> cases h1
    · exact Nat.le_refl _
    · exact h2
  have hxl : ∀ i, i < m → (row2 i).length = sz := by obtain ⟨_, _, _, _, h1, _⟩ := hxr; exact h1
  rcases Nat.eq_zero_or_pos m with rfl | hm
  · refine hm_app0 hcap ⟨a, cap, rfl, M1, M2, a1, a2, dj, ?_, hB⟩
    have e1 : flat (len + 0) (rcat len row row2) = flat len row := by rw [flat_rcat]; simp [flat]
    exact ⟨fun i hi => by simp only [rcat]; rw [if_pos (by omega)]; exact hr1 i (by omega), by rw [e1]; exact hr2, by rw [e1]; exact hown, _, _, rfl⟩
  · obtain ⟨base, cap2, e2, _, _, h3⟩ := hxr
    obtain ⟨bx, off, cx, tx, fx, rfl, kx, hs, hx⟩ := h3 hm
    cases e2
    refine hm_app (flat m row2) hownM kx hx hs (flat_len hxl) hx1 ?_ fun v' M' ho ha => ?_
    · rw [flat_len hr1, Nat.mul_div_cancel _ hsz]; exact hroom
    · have hlen : (flat len row ++ flat m row2).length = (len + m) * sz := by rw [List.length_append, flat_len hr1, flat_len hxl, Nat.add_mul]
      obtain ⟨a', cap', rfl⟩ := ho.len (len + m) hlen hsz
      refine ⟨a', cap', rfl, fun c => if ob (.slice a' (len + m) cap') = some c then M' c else none, M2, ?_, ?_, ?_, ?_, hB⟩
      · intro c o hc; dsimp only at hc; split at hc
        · exact hc
        · cases hc
      · intro c o hc
        refine (ha c o (fun e => ?_) (a2 c o hc)).1
        rcases hown with ⟨h1, _⟩ | ⟨_, _, _, _, h1, _, _, _, h4, _⟩
        · cases h1; simp [ob] at e
        · cases h1
          simp only [ob, Option.some.injEq] at e
          subst e
          rcases dj _ with h5 | h5
          · rw [h4] at h5; cases h5
          · rw [hc] at h5; cases h5
      · intro c
        dsimp only
        cases hc : M2 c with
        | none => exact .inr rfl
        | some o =>
          refine .inl ?_
          rw [if_neg]
          refine (ha c o (fun e => ?_) (a2 c o hc)).2
          rcases hown with ⟨h1, _⟩ | ⟨_, _, _, _, h1, _, _, _, h4, _⟩
          · cases h1; simp [ob] at e
          · cases h1
            simp only [ob, Option.some.injEq] at e
            subst e
            rcases dj _ with h5 | h5
            · rw [h4] at h5; cases h5
            · rw [hc] at h5; cases h5
      · refine ⟨fun i hi => ?_, ?_, ?_, _, _, rfl⟩
        · simp only [rcat]
          split
          · exact hr1 i ‹_›
          · exact hxl _ (by omega)
        · rw [flat_rcat, List.all_append, hr2, hx1]; rfl
        · rw [flat_rcat]
          exact ho.frame fun c o hc ho => by rw [if_pos hc]; exact ho
theorem SelR.one {As : List HP} {sz : Nat} {v : Value} {n : Nat} {row : Nat → List Value} (s : SelR As sz v n row) {H M : Heap} (h : (Sat As).p H M) : SlK (Kn H M) sz v n row := s.rd h
theorem st_app {t e sz bytes m c : Nat} {p q : Operand} {a b : Option Addr} {len cap : Nat} {row row2 : Nat → List Value} [SL P t e sz bytes]
    (u : Sel (SA (some e) sz (.slice a len cap) len row) As Bs) (x : SelR As sz (.slice b m c) m row2) (hx1 : (flat m row2).all one = true) (hroom : (len + m + 512) * bytes ≤ 140737488355328 := by omega)
    (hp : ∀ j, ev (mk l j) p = .slice a len cap := by intro j; rfl) (hq : ∀ j, ev (mk l j) q = .slice b m c := by intro j; rfl) :
    StepL P ⟨dd, .call ⟨.builtin .append, #[p, q], #[t, t]⟩, t, pos, af, g⟩ l As (fun v Cs => ∃ a' cap', v = .slice a' (len + m) cap' ∧ Cs = SA (some e) sz (.slice a' (len + m) cap') (len + m) (rcat len row row2) :: Bs) := .mk fun j Fs H M s => by
  rw [execOp_app, hp j, hq j]
  exact hmc_of_hm (hm_bind (hm_mono (sa_app ((u.app Fs).sat s) ((x.app Fs).rd s) hx1 hroom) fun v H' M' ⟨a', cap', hv, hs⟩ => hm_pure ⟨v, .inl rfl, _, ⟨a', cap', hv, rfl⟩, hs⟩))
/-- what is appended is only read from now on, and so on: the whole of a slice's cells are of one cell each -/
theorem SA.ones {e sz : Nat} {v : Value} {len : Nat} {row : Nat → List Value} {H M : Heap} (h : (SA (some e) sz v len row).p H M) : (flat len row).all one = true := h.2.1
end
end Go.Cam
namespace Go.Cam
section
variable {P : Program} {f : FuncId} {n : Nat} {R : Value → HP} {k : List It} {l : List (Nat × Value)} {As Bs Rs Ps Zs : List HP} {all : Array Oper} {rest os : List Oper} {d i : Nat} {dd : Option Nat} {op : Op} {oty : TypeId} {pos : String} {af : Array Edge} {g : Option (Nat × Bool)}
theorem hm_newVar {H M : Heap} {t : Nat} {v : Value} {c : List Value} {K : Addr → Heap → Heap → Prop} (hc : v.cells.toList = c) (h : ∀ r, Fresh H M r → K ⟨r, 0, none⟩ H (upd M r (.cells c.toArray t))) : hm P (newVar t v) H M K := by
  subst hc
  exact hm_newRow h
theorem st_box {t : TypeId} {x : Operand} {v : Value} {c : List Value} (hx : ∀ j, ev (mk l j) x = v := by intro j; rfl) (hc : Cel v c := by infer_instance) :
    StepL P ⟨dd, .box t x, oty, pos, af, g⟩ l As (fun v Bs => ∃ r, v = .pointer (some ⟨r, 0, none⟩) ∧ Bs = Box r t c :: As) := .mk fun j Fs H M s => by
  refine hmc_of_hm ?_
  show hm P (Instr.box t (ev (mk l j) x) >>= fun v => pure (Next.value v)) H M _
  rw [hx j]
  exact hm_bind (hm_bind (hm_newVar hc.h fun r hr => hm_pure (hm_pure ⟨_, .inl rfl, _, ⟨r, rfl, rfl⟩, own_new hr s⟩)))
theorem st_alloc {t : TypeId} {z : Value} {c : List Value} [zv : ZV P t z] [hc : Cel z c] :
    StepL P ⟨dd, .alloc t, oty, pos, af, g⟩ l As (fun v Bs => ∃ r, v = .pointer (some ⟨r, 0, none⟩) ∧ Bs = Box r t c :: As) := .mk fun j Fs H M s => by
  refine hmc_of_hm ?_
  show hm P (Instr.alloc t true (.tuple #[]) >>= fun v => pure (Next.value v)) H M _
  unfold Instr.alloc
  refine hm_bind (hm_bind (hm_cst zv.h ?_))
  exact hm_bind (hm_newVar hc.h fun r hr => hm_pure (hm_pure ⟨_, .inl rfl, _, ⟨r, rfl, rfl⟩, own_new hr s⟩))
theorem s_box {t : TypeId} {x : Operand} {v : Value} {c : List Value} (h : ∀ r, RunS P f n R (.ops all rest :: k) ((d, .pointer (some ⟨r, 0, none⟩)) :: l) (Box r t c :: As)) (hx : ∀ j, ev (mk l j) x = v := by intro j; rfl) (hc : Cel v c := by infer_instance)
    (hd : Nat.blt d n = true := by rfl) (hw : ∀ j, wantE ⟨some d, .box t x, oty, pos, af, g⟩ all (mk l j) = true := by intro j; rfl) : RunS P f n R (.ops all (⟨some d, .box t x, oty, pos, af, g⟩ :: rest) :: k) l As :=
  s_step (st_box hx hc) (fun v Bs ⟨r, hv, hb⟩ => by subst hv; subst hb; exact h r) hd hw
theorem s_alloc {t : TypeId} {z : Value} {c : List Value} [zv : ZV P t z] [hc : Cel z c] (h : ∀ r, RunS P f n R (.ops all rest :: k) ((d, .pointer (some ⟨r, 0, none⟩)) :: l) (Box r t c :: As))
    (hd : Nat.blt d n = true := by rfl) (hw : ∀ j, wantE ⟨some d, .alloc t, oty, pos, af, g⟩ all (mk l j) = true := by intro j; rfl) : RunS P f n R (.ops all (⟨some d, .alloc t, oty, pos, af, g⟩ :: rest) :: k) l As :=
  s_step (st_alloc (t := t)) (fun v Bs ⟨r, hv, hb⟩ => by subst hv; subst hb; exact h r) hd hw
/-- make([]T, n) -/
theorem st_mk {t e sz bytes len : Nat} {x y : Operand} {k1 k2 : IntKind} {z : Value} [sl : SL P t e sz bytes] [zv : ZV P e z] [o1 : OneL z.cells.toList] (hx : ∀ j, ev (mk l j) x = .int k1 (len : Int) := by intro j; rfl) (hy : ∀ j, ev (mk l j) y = .int k2 (len : Int) := by intro j; rfl)
    (hmb : len * bytes ≤ 140737488355328 := by omega) (hl : len < 9223372036854775808 := by omega) :
    StepL P ⟨dd, .makeSlice t x y, oty, pos, af, g⟩ l As (fun v Bs => ∃ a, v = .slice a len len ∧ Bs = SA (some e) sz (.slice a len len) len (fun _ => z.cells.toList) :: As) := .mk fun j Fs H M s => by
  obtain ⟨i, z', hu, hs, hi, hby, hb0, hz, hzs, hsz⟩ := sl.h
  have hzz : z' = z := by have := hz.symm.trans zv.h; simpa using this
  subst hzz
  refine hmc_of_hm ?_
  show hm P (Instr.makeSlice t (ev (mk l j) x) (ev (mk l j) y) >>= fun v => pure (Next.value v)) H M _
  rw [hx j, hy j]
  refine hm_bind ?_
  unfold Instr.makeSlice
  refine hm_bind (hm_cst hu ?_)
  dsimp only
  refine hm_bind (hm_cst (a := (len : Int)) rfl ?_)
  refine hm_bind (hm_cst (a := (len : Int)) rfl ?_)
  refine hm_bind (hm_cst hi ?_)
  rw [wrap_id (by omega) (by omega)]
  have hle : (i.bytes : Int) * (len : Int) ≤ 2 ^ 48 := by
    rw [hby]; have : bytes * len ≤ 140737488355328 := by rw [Nat.mul_comm]; exact hmb
    have h2 : ((bytes * len : Nat) : Int) ≤ 140737488355328 := by omega
    rw [Int.natCast_mul] at h2; omega
  rw [if_neg (by simp; omega)]
  refine hm_bind (hm_askRoom ?_)
  refine hm_bind (hm_cst hs ?_)
  simp only [Int.toNat_natCast]
  have hrow : (SA (some e) sz (.slice (some ⟨0, 0, none⟩) len len) len (fun _ => z'.cells.toList)) = (SA (some e) sz (.slice (some ⟨0, 0, none⟩) len len) len (fun _ => z'.cells.toList)) := rfl
  have hfin : ∀ (cells : List Value) r, Fresh H M r → cells = flat len (fun _ => z'.cells.toList) → ∃ Bs, (∃ a, Value.slice (some ⟨r, 0, none⟩) len len = .slice a len len ∧ Bs = SA (some e) sz (.slice a len len) len (fun _ => z'.cells.toList) :: As) ∧ (Sat (Bs ++ Fs)).p H (upd M r (.cells cells.toArray e)) := by
    intro cells r hr hc
    refine ⟨_, ⟨_, rfl, rfl⟩, star_monoL (fun H M h => ?_) (own_new hr s)⟩
    have hln : (flat len (fun _ => z'.cells.toList)).length = len * sz := flat_len fun _ _ => by simpa using hzs
    refine ⟨fun _ _ => by simpa using hzs, ?_, .inr ⟨r, len, len, cells.toArray, rfl, hln, by rw [hc]; simpa using hln, Nat.le_refl _, h, by rw [hc]; simp⟩, _, _, rfl⟩
    rw [List.all_eq_true]
    intro u hu
    obtain ⟨i, _, h2⟩ := List.mem_flatMap.1 hu
    exact List.all_eq_true.1 o1.h u h2
  by_cases h0 : len * sz = 0
  · rw [if_pos h0]
    have hl0 : len = 0 := by rcases Nat.mul_eq_zero.1 h0 with h | h <;> omega
    refine hm_bind (hm_pure ?_)
    refine hm_bind (hm_newRow fun r hr => hm_pure (hm_pure ⟨_, .inl rfl, ?_⟩))
    have := hfin [] r hr (by subst hl0; simp [flat])
    subst hl0
    simp only [Nat.zero_mul] at this ⊢
    rw [show Array.range 0 = #[] from rfl]
    simpa using this
  · rw [if_neg h0]
    refine hm_bind (hm_cst hz ?_)
    refine hm_bind (hm_pure ?_)
    refine hm_bind (hm_newRow fun r hr => hm_pure (hm_pure ⟨_, .inl rfl, ?_⟩))
    have hc : ((Array.range (len * sz)).map fun x => z'.cells[x % z'.cells.size]!) = (flat len (fun _ => z'.cells.toList)).toArray := by
      rw [range_map]
      symm
      have hln : (flat len (fun _ => z'.cells.toList)).length = len * sz := flat_len fun _ _ => by simpa using hzs
      refine arr_eq_tab (by simpa using hln) fun i hi => ?_
      have h1 : i / sz < len := Nat.div_lt_of_lt_mul (by rw [Nat.mul_comm]; exact hi)
      have h2 := flat_row (row := fun _ => z'.cells.toList) (n := len) (fun _ _ => by simpa using hzs) h1
      have h3 := congrArg (fun l => l[i % sz]?) h2
      simp only [List.getElem?_take, Nat.mod_lt i hsz, if_true, List.getElem?_drop] at h3
      rw [show i / sz * sz + i % sz = i by rw [Nat.mul_comm]; exact Nat.div_add_mod i sz] at h3
      have h4 : i % sz < z'.cells.size := by rw [hzs]; exact Nat.mod_lt i hsz
      rw [List.getElem?_toArray, h3]
      rw [hzs, getElem!_pos z'.cells (i % sz) h4]
      simp [h4]
    have := hfin _ r hr rfl
    rw [← hc] at this
    exact this
theorem d_nrm {A B C : List HP} {p : List (Bool × Nat)} [ap : AppL A B C] (h : DS P f n R k os Zs p l C) : DS P f n R k os Zs p l (A ++ B) := by rw [ap.h]; exact h
theorem d_open {A B : HP} {p : List (Bool × Nat)} (he : ∀ H M, A.p H M → B.p H M) (h : DS P f n R k os Zs p l (B :: As)) : DS P f n R k os Zs p l (A :: As) := by
  refine .mk ?_
  have key : ∀ (p : List (Bool × Nat)) l (A1 A2 : HP), (∀ H M, A2.p H M → A1.p H M) → DW P n os (Sat Zs) (fun l' A' => ∀ H M, ((Sat Zs).star A').p H M → Run P f n (fun v H' M' => (R v).p H' M') k l' H M) p l A1 →
      DW P n os (Sat Zs) (fun l' A' => ∀ H M, ((Sat Zs).star A').p H M → Run P f n (fun v H' M' => (R v).p H' M') k l' H M) p l A2 := by
    intro p
    induction p with
    | nil => intro l A1 A2 hi hd H M q; exact hd H M (star_mono hi q)
    | cons x p ih =>
      obtain ⟨b, i⟩ := x
      intro l A1 A2 hi hd
      cases b with
      | true => obtain ⟨o, h1, h2, v, h3, h4⟩ := hd; exact ⟨o, h1, h2, v, h3, ih _ _ _ hi h4⟩
      | false =>
        obtain ⟨o, h1, h2, h3⟩ := hd
        refine ⟨o, h1, h2, ?_⟩
        rcases h3 with ⟨h4, h5⟩ | ⟨h4, h5⟩
        · exact .inl ⟨h4, fun j F H M q => h5 j F H M (star_monoL hi q)⟩
        · exact .inr ⟨h4, ih _ _ _ hi h5⟩
  exact key p l _ _ (fun H M q => star_monoL he q) h.h
end
theorem SlK.congr {K : Nat → Obj → Prop} {sz : Nat} {v : Value} {n : Nat} {row row' : Nat → List Value} (h : SlK K sz v n row) (e : ∀ i, i < n → row i = row' i) : SlK K sz v n row' := by
  obtain ⟨b, c, h1, h2, h3, h4⟩ := h
  refine ⟨b, c, h1, h2, fun i hi => by rw [← e i hi]; exact h3 i hi, fun h0 => ?_⟩
  rw [← flat_congr e]; exact h4 h0
/-- the same rows, told otherwise -/
theorem SA.cg {m : Option Nat} {sz : Nat} {v : Value} {n : Nat} {row : Nat → List Value} (row' : Nat → List Value) (e : ∀ i, i < n → row i = row' i) (H M : Heap) (h : (SA m sz v n row).p H M) : (SA m sz v n row').p H M := by
  cases m with
  | none => exact SlK.congr (K := fun b o => H b = some o) h e
  | some t =>
    obtain ⟨h1, h2, h3, h4⟩ := h
    exact ⟨fun i hi => by rw [← e i hi]; exact h1 i hi, by rw [← flat_congr e]; exact h2, by rw [← flat_congr e]; exact h3, h4⟩
end Go.Cam
