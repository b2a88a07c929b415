/- Rules over assertions: slices that are made, appended to, cut; regions that draw. -/
import Derived.Test.YtgbbcpfnmkeijaaGreatCamU
namespace Go.Cam
def rowsOf (sz : Nat) (l : List Value) (i : Nat) : List Value := (l.drop (i * sz)).take sz
theorem rowsOf_one (l : List Value) : rowsOf l.length l 0 = l := by simp [rowsOf]
theorem rowsOf_len {sz : Nat} {l : List Value} {n i : Nat} (h : l.length = n * sz) (hi : i < n) : (rowsOf sz l i).length = sz := by
  have : (i + 1) * sz ≤ n * sz := Nat.mul_le_mul_right _ hi
  rw [Nat.add_mul, Nat.one_mul] at this
  simp only [rowsOf, List.length_take, List.length_drop]; omega
theorem flat_rowsOf {sz : Nat} {l : List Value} : ∀ {n : Nat}, l.length = n * sz → flat n (rowsOf sz l) = l := by
  have key : ∀ n, n * sz ≤ l.length → flat n (rowsOf sz l) = l.take (n * sz) := by
    intro n
    induction n with
    | zero => intro _; simp [flat]
    | succ n ih =>
      intro h
      rw [Nat.add_mul, Nat.one_mul] at h
      rw [flat_succ, ih (by omega), rowsOf, Nat.add_mul, Nat.one_mul, ← List.take_add]
  intro n h
  rw [key n (by omega), ← h, List.take_length]
/-- the rows of two, one behind the other -/
def rcat (n : Nat) (r1 r2 : Nat → List Value) (i : Nat) : List Value := if i < n then r1 i else r2 (i - n)
theorem flat_rcat (n m : Nat) (r1 r2 : Nat → List Value) : flat (n + m) (rcat n r1 r2) = flat n r1 ++ flat m r2 := by
  rw [flat_add]
  congr 1
  · exact flat_congr fun i hi => by simp [rcat, hi]
  · exact flat_congr fun i hi => by simp only [rcat]; rw [if_neg (by omega), Nat.add_sub_cancel_left]
theorem SA_cg1 {e sz : Nat} {v : Value} {n : Nat} {row row' : Nat → List Value} (e' : ∀ i, i < n → row i = row' i) {H M : Heap} (h : (SA (some e) sz v n row).p H M) : (SA (some e) sz v n row').p H M := by
  obtain ⟨h1, h2, h3, h4⟩ := h
  exact ⟨fun i hi => by rw [← e' i hi]; exact h1 i hi, by rw [← flat_congr e']; exact h2, by rw [← flat_congr e']; exact h3, h4⟩
section
variable {P : Program} {f : FuncId} {n : Nat} {R : Value → HP} {k : List It} {l l2 : List (Nat × Value)} {As Bs : List HP} {all : Array Oper} {rest os : List Oper} {d : Nat} {oty : TypeId} {pos : String} {af : Array Edge} {g : Option (Nat × Bool)}
/-! regions that only look -/
structure QLS (P : Program) (n : Nat) (all : Array Oper) (As : List HP) (os : List Oper) (l l2 : List (Nat × Value)) : Prop where
  h : ∀ H M, (Sat As).p H M → QL P n all H M os l l2
instance {P n all As os l l2} : CoeFun (QLS P n all As os l l2) (fun _ => ∀ H M, (Sat As).p H M → QL P n all H M os l l2) := ⟨QLS.h⟩
theorem q_nil : QLS P n all As [] l l := .mk fun _ _ _ => .nil
theorem q_look {op : Op} {v : Value} (hv : LookS P ⟨some d, op, oty, pos, af, g⟩ l As v) (h : QLS P n all As rest ((d, v) :: l) l2) (hd : Nat.blt d n = true := by rfl)
    (hw : ∀ j, wantE ⟨some d, op, oty, pos, af, g⟩ all (mk l j) = true := by intro j; rfl) : QLS P n all As (⟨some d, op, oty, pos, af, g⟩ :: rest) l l2 := .mk fun H M s => .yes v hd hw (fun j => hv j H M s) (h H M s)
theorem q_no {op : Op} (h : QLS P n all As rest ((d, undef) :: l) l2) (hw : ∀ j, wantE ⟨some d, op, oty, pos, af, g⟩ all (mk l j) = false := by intro j; rfl) (hd : Nat.blt d n = true := by rfl) :
    QLS P n all As (⟨some d, op, oty, pos, af, g⟩ :: rest) l l2 := .mk fun H M s => .no hd hw (h H M s)
theorem q_p {op : Op} {v : Value} (h : QLS P n all As rest ((d, v) :: l) l2) (hv : ∀ j, cst P (execOp (ev (mk l j)) ⟨some d, op, oty, pos, af, none⟩) = some (.value v) := by intro j; rfl) (hd : Nat.blt d n = true := by rfl) :
    QLS P n all As (⟨some d, op, oty, pos, af, none⟩ :: rest) l l2 := .mk fun H M s => .yes v hd (fun _ => rfl) (fun j => qt_cst (hv j)) (h H M s)
theorem q_y {op : Op} {v : Value} (h : QLS P n all As rest ((d, v) :: l) l2) (hw : ∀ j, wantE ⟨some d, op, oty, pos, af, g⟩ all (mk l j) = true := by intro j; rfl) (hv : ∀ j, cst P (execOp (ev (mk l j)) ⟨some d, op, oty, pos, af, g⟩) = some (.value v) := by intro j; rfl) (hd : Nat.blt d n = true := by rfl) :
    QLS P n all As (⟨some d, op, oty, pos, af, g⟩ :: rest) l l2 := .mk fun H M s => .yes v hd hw (fun j => qt_cst (hv j)) (h H M s)
theorem s_quiet {id : Nat} {ops : List Oper} (hq : QLS P n ops.toArray As ops l l2) (h : RunS P f n R k l2 As) (hmx : P.follows .mixedOrders = true := by kernel_rfl) (hB : Region.lexB .any ops.toArray = true := by kernel_rfl) :
    RunS P f n R (.code (.region id ops.toArray true) :: k) l As := .mk fun H M s => run_quiet hmx hB (hq H M s) (h H M s)
/-! a tail, one operation behind the other -/
def TLS (P : Program) (n : Nat) (all : Array Oper) (ops : List Oper) (l : List (Nat × Value)) (As : List HP) (K : List (Nat × Value) → HP) : Prop :=
  ∀ H M, (Sat As).p H M → TL P n all ops l H M (fun l' H' M' => (K l').p H' M')
/-! slices that are made -/
theorem s_new0 {e : Nat} {sz : Nat} {row : Nat → List Value} (h : RunS P f n R k l (SA (some e) sz (.slice none 0 0) 0 row :: As)) : RunS P f n R k l As := .mk fun H M s =>
  h H M ⟨fun _ => none, M, (fun _ _ h => nomatch h), Le.refl _, fun _ => .inl rfl, ⟨fun i hi => by omega, by simp [flat], .inl ⟨rfl, by simp [flat]⟩, _, _, rfl⟩, s⟩
theorem own_SA {r e sz len : Nat} {cells : List Value} {H M : Heap} (h : (HP.own r (.cells cells.toArray e (0, 0))).p H M) (hl : cells.length = len * sz) (ho : cells.all one = true) : (SA (some e) sz (.slice (some ⟨r, 0, none⟩) len len) len (rowsOf sz cells)).p H M :=
  ⟨fun i hi => rowsOf_len hl hi, by rw [flat_rowsOf hl]; exact ho, .inr ⟨r, len, len, cells.toArray, rfl, by rw [flat_rowsOf hl, hl], by simpa using hl, Nat.le_refl _, h, by rw [flat_rowsOf hl]; simp⟩, _, _, rfl⟩
theorem s_bs {t e sz bytes len : Nat} {ps : List (Nat × Operand)} {z : Value} {cells : List Value} [sl : SL P t e sz bytes] [zv : ZV P e z] [ol : OneL cells]
    (h : ∀ a, RunS P f n R (.ops all rest :: k) ((d, .slice a len len) :: l) (SA (some e) sz (.slice a len len) len (rowsOf sz cells) :: As))
    (hf : ∀ j, fillG (fun i => some (i * sz, sz)) (tab (len * sz) fun i => z.cells[i % z.cells.size]!) (ps.map fun x => (x.1, ev (mk l j) x.2)) = some cells.toArray) (hd : Nat.blt d n = true := by rfl)
    (hw : ∀ j, wantE ⟨some d, .buildSlice t len ps.toArray, oty, pos, af, g⟩ all (mk l j) = true := by intro j; rfl) (hlen : 0 < len * sz := by decide) (hmax : len * sz ≤ 16777216 := by decide) (hc : Nat.beq cells.length (len * sz) = true := by rfl) :
    RunS P f n R (.ops all (⟨some d, .buildSlice t len ps.toArray, oty, pos, af, g⟩ :: rest) :: k) l As := .mk fun H M s => by
  refine run_hm hd hw fun j => ?_
  have e1 : execOp (ev (mk l j)) ⟨some d, .buildSlice t len ps.toArray, oty, pos, af, g⟩ = (Instr.buildSlice t len (ps.toArray.map fun x => (x.1, ev (mk l j) x.2)) >>= fun v => pure (Next.value v)) := by
    unfold execOp; rfl
  rw [e1, List.map_toArray]
  obtain ⟨i, z', hu, hs, _, _, _, _, _, _⟩ := sl.h
  refine hm_bind (hm_bs hu hs zv.h hlen hmax _ (hf j) fun r hr => hm_pure ⟨_, .inl rfl, h _ _ _ ?_⟩)
  exact star_monoL (fun H M h => own_SA h (Nat.eq_of_beq_eq_true hc) ol.h) (own_new hr s)
theorem s_bs0 {t el sz : Nat} {row : Nat → List Value} [SC P t el] [SZ P el sz] (h : ∀ a, RunS P f n R (.ops all rest :: k) ((d, .slice a 0 0) :: l) (SA (some el) sz (.slice a 0 0) 0 row :: As)) (hd : Nat.blt d n = true := by rfl)
    (hw : ∀ j, wantE ⟨some d, .buildSlice t 0 #[], oty, pos, af, g⟩ all (mk l j) = true := by intro j; rfl) : RunS P f n R (.ops all (⟨some d, .buildSlice t 0 #[], oty, pos, af, g⟩ :: rest) :: k) l As := .mk fun H M s => by
  refine run_hm hd hw fun j => ?_
  have e1 : execOp (ev (mk l j)) ⟨some d, .buildSlice t 0 #[], oty, pos, af, g⟩ = (Instr.buildSlice t 0 #[] >>= fun v => pure (Next.value v)) := by
    unfold execOp; simp
  rw [e1]
  refine hm_bind (hm_bs0 (sz := sz) fun r hr => hm_pure ⟨_, .inl rfl, h _ _ _ ?_⟩)
  refine star_monoL (fun H M h => ?_) (own_new hr s)
  exact ⟨fun i hi => by omega, by simp [flat], .inr ⟨r, 0, 0, #[], rfl, by simp [flat], by simp, Nat.le_refl _, h, by simp [flat]⟩, _, _, rfl⟩
theorem hm_app0 {t e sz bytes c : Nat} [sl : SL P t e sz bytes] {base b : Option Addr} {len cap : Nat} {H M : Heap} {K : Value → Heap → Heap → Prop} (hc : len ≤ cap) (h : K (.slice base len cap) H M) :
    hm P (Builtin.append_ #[t, t] t #[.slice base len cap, .slice b 0 c]) H M K := by
  obtain ⟨i, z, hu, hs, hi, hby, hb0, hz, hzs, hsz⟩ := sl.h
  unfold Builtin.append_
  simp only [List.getElem?_toArray, List.getElem?_cons_zero, List.getElem?_cons_succ]
  refine hm_bind (hm_cst hu ?_)
  dsimp only
  refine hm_bind (hm_cst hs ?_)
  refine hm_bind (hm_cst hu ?_)
  dsimp only
  refine hm_bind (hm_pure ?_)
  simp only [Bool.false_eq_true, if_false, Bool.not_false, if_true]
  refine hm_bind (hm_pure ?_)
  rw [if_pos (show len + 0 ≤ cap from hc)]
  have h0 : cst P (Builtin.firstCells sz 0 (.slice b 0 c)) = some #[] := by
    cases b with
    | none => rfl
    | some a => show cst P (loadCells a (0 * sz)) = _; rw [Nat.zero_mul]; rfl
  refine hm_bind (hm_cst h0 ?_)
  cases base with
  | none => exact hm_bind (hm_pure (hm_pure h))
  | some a => exact hm_bind (hm_cst (a := ()) rfl (hm_pure h))
/-- append(s, x...): s is one's own -/
theorem s_app {t e sz bytes m c : Nat} {p q : Operand} {a b : Option Addr} {len cap : Nat} {row row2 : Nat → List Value} [SL P t e sz bytes]
    (u : Sel (SA (some e) sz (.slice a len cap) len row) As Bs) (x : SelR As sz (.slice b m c) m row2) (hx1 : (flat m row2).all one = true)
    (h : ∀ a' cap', RunS P f n R (.ops all rest :: k) ((d, .slice a' (len + m) cap') :: l) (SA (some e) sz (.slice a' (len + m) cap') (len + m) (rcat len row row2) :: Bs))
    (hroom : (len + m + 512) * bytes ≤ 140737488355328 := by omega)
    (hp : ∀ j, ev (mk l j) p = .slice a len cap := by intro j; rfl) (hq : ∀ j, ev (mk l j) q = .slice b m c := by intro j; rfl) (hd : Nat.blt d n = true := by rfl)
    (hw : ∀ j, wantE ⟨some d, .call ⟨.builtin .append, #[p, q], #[t, t]⟩, t, pos, af, g⟩ all (mk l j) = true := by intro j; rfl) :
    RunS P f n R (.ops all (⟨some d, .call ⟨.builtin .append, #[p, q], #[t, t]⟩, t, pos, af, g⟩ :: rest) :: k) l As := .mk fun H M s => by
  obtain ⟨M1, M2, a1, a2, dj, ⟨hr1, hr2, hown, _⟩, hB⟩ := u.sat s
  have hownM : Own M e sz (.slice a len cap) (flat len row) := hown.frame fun c o _ hc => a1 c o hc
  have hxr := x.rd s
  have sl' : SL P t e sz bytes := ‹_›
  have hsz : 0 < sz := by obtain ⟨_, _, _, _, _, _, _, _, _, h⟩ := sl'.h; exact h
  have hcap : len ≤ cap := by
    rcases hownM with ⟨h1, _⟩ | ⟨_, _, _, _, h1, _, _, h2, _⟩ <;> cases h1
    · exact Nat.le_refl _
    · exact h2
  have hxl : ∀ i, i < m → (row2 i).length = sz := by obtain ⟨_, _, _, _, h1, _⟩ := hxr; exact h1
  refine run_hm hd hw fun j => ?_
  rw [execOp_app, hp j, hq j]
  rcases Nat.eq_zero_or_pos m with rfl | hm
  · refine hm_bind (hm_app0 hcap (hm_pure ⟨_, .inl rfl, h a cap H M ⟨M1, M2, a1, a2, dj, ?_, hB⟩⟩))
    have e1 : flat (len + 0) (rcat len row row2) = flat len row := by rw [flat_rcat]; simp [flat]
    exact ⟨fun i hi => by simp only [rcat]; rw [if_pos (by omega)]; exact hr1 i (by omega), by rw [e1]; exact hr2, by rw [e1]; exact hown, _, _, rfl⟩
  · obtain ⟨base, cap2, e2, _, _, h3⟩ := hxr
    obtain ⟨bx, off, cx, tx, fx, rfl, kx, hs, hx⟩ := h3 hm
    cases e2
    refine hm_bind (hm_app (flat m row2) hownM kx hx hs (flat_len hxl) hx1 ?_ fun v' M' ho ha => hm_pure ⟨v', .inl rfl, ?_⟩)
    · rw [flat_len hr1, Nat.mul_div_cancel _ hsz]; exact hroom
    · have hlen : (flat len row ++ flat m row2).length = (len + m) * sz := by rw [List.length_append, flat_len hr1, flat_len hxl, Nat.add_mul]
      obtain ⟨a', cap', rfl⟩ := ho.len (len + m) hlen hsz
      refine h a' cap' _ _ ⟨fun c => if ob (.slice a' (len + m) cap') = some c then M' c else none, M2, ?_, ?_, ?_, ?_, hB⟩
      · intro c o hc; dsimp only at hc; split at hc
        · exact hc
        · cases hc
      · intro c o hc
        refine (ha c o (fun e => ?_) (a2 c o hc)).1
        rcases hown with ⟨h1, _⟩ | ⟨_, _, _, _, h1, _, _, _, h4, _⟩
        · cases h1; simp [ob] at e
        · cases h1
          simp only [ob, Option.some.injEq] at e
          subst e
          rcases dj _ with h5 | h5
          · rw [h4] at h5; cases h5
          · rw [hc] at h5; cases h5
      · intro c
        dsimp only
        cases hc : M2 c with
        | none => exact .inr rfl
        | some o =>
          refine .inl ?_
          rw [if_neg]
          refine (ha c o (fun e => ?_) (a2 c o hc)).2
          rcases hown with ⟨h1, _⟩ | ⟨_, _, _, _, h1, _, _, _, h4, _⟩
          · cases h1; simp [ob] at e
          · cases h1
            simp only [ob, Option.some.injEq] at e
            subst e
            rcases dj _ with h5 | h5
            · rw [h4] at h5; cases h5
            · rw [hc] at h5; cases h5
      · refine ⟨fun i hi => ?_, ?_, ?_, _, _, rfl⟩
        · simp only [rcat]
          split
          · exact hr1 i ‹_›
          · exact hxl _ (by omega)
        · rw [flat_rcat, List.all_append, hr2, hx1]; rfl
        · rw [flat_rcat]
          exact ho.frame fun c o hc ho => by rw [if_pos hc]; exact ho
/-- one's own slices may be only read from now on -/
theorem s_fz {e sz : Nat} {v : Value} {len : Nat} {row : Nat → List Value} (u : Sel (SA (some e) sz v len row) As Bs) (h : RunS P f n R k l (SA none sz v len row :: Bs)) : RunS P f n R k l As := .mk fun H M s => by
  have hs := u.sat s
  obtain ⟨M1, M2, a1, a2, dj, hA, hB⟩ := hs
  obtain ⟨hr1, hr2, hown, base, cap, hv⟩ := hA
  subst hv
  rcases hown with ⟨h1, h2⟩ | ⟨b, ln, cp, cs, h1, h2, h3, h4, h5, h6⟩
  · cases h1
    exact h H M (per_add (M0 := M) ⟨none, 0, rfl, Nat.le_refl _, hr1, fun h => by omega⟩ ((Sat Bs).mono (Le.refl _) a2 hB))
  · cases h1
    intro j w0 w a bb cs' k' hk hh ha hf hn
    obtain ⟨g1, g2⟩ := own_freeze (b := b) (o := .cells cs e (0, 0)) (X := Sat Bs) hh.d ⟨M1, M2, a1, a2, dj, h5, hB⟩
    refine h _ _ (per_add (M0 := M) ⟨_, _, rfl, h4, hr1, fun h0 => ⟨b, 0, cs, e, (0, 0), rfl, upd_same _ _ _, ?_, ?_⟩⟩ g2) j w0 w a bb cs' k' hk (g1 _ _ hh) ha hf hn
    · rw [h3]; have := Nat.mul_le_mul_right sz h4; omega
    · apply Array.ext'
      rw [Array.toList_extract, List.extract_eq_take_drop]
      rw [flat_len hr1] at h6
      simpa using h6
theorem s_bs1 {t e sz bytes : Nat} {x : Operand} {v z : Value} {cells : List Value} [sl : SL P t e sz bytes] [zv : ZV P e z] (h : ∀ a, RunS P f n R (.ops all rest :: k) ((d, .slice a 1 1) :: l) (SA (some e) sz (.slice a 1 1) 1 (fun _ => cells) :: As))
    (hx : ∀ j, ev (mk l j) x = v := by intro j; rfl) (hc : Cel v cells := by infer_instance) (hn : Nat.beq cells.length sz = true := by rfl) (hd : Nat.blt d n = true := by rfl)
    (hw : ∀ j, wantE ⟨some d, .buildSlice t 1 #[(0, x)], oty, pos, af, g⟩ all (mk l j) = true := by intro j; rfl) (hm : Nat.ble sz 16777216 = true := by rfl) :
    RunS P f n R (.ops all (⟨some d, .buildSlice t 1 #[(0, x)], oty, pos, af, g⟩ :: rest) :: k) l As := by
  have hsz : 0 < sz := by obtain ⟨_, _, _, _, _, _, _, _, _, h⟩ := sl.h; exact h
  have hn' : cells.length = sz := Nat.eq_of_beq_eq_true hn
  haveI : OneL cells := ⟨hc.o⟩
  have e0 : v.cells.size = sz := by have := hc.h; rw [← hn', ← this]; simp
  refine s_bs (len := 1) (ps := [(0, x)]) (cells := cells) (fun a => ?_) (fun j => ?_) hd hw (by omega) (by have := Nat.le_of_ble_eq_true hm; omega) (by rw [Nat.one_mul]; exact hn)
  · refine .mk fun H M s => h a H M (star_monoL (fun H M q => ?_) s)
    exact SA_cg1 (fun i hi => by
      have : i = 0 := by omega
      subst this; rw [← hn']; exact rowsOf_one cells) q
  · simp only [List.map_cons, List.map_nil, hx j]
    simp only [fillG, Nat.zero_mul, Nat.one_mul]
    rw [if_neg (by simp [e0, tab_size]), hc.h, setL_whole (by rw [tab_size, hn'])]
end
end Go.Cam
