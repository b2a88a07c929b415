/- Rules over assertions: slices that are made, appended to, cut; regions that draw. -/
import Derived.Test.YtmlddafbenfilaaDoorCamU
namespace Go.Cam
def rowsOf (sz : Nat) (l : List Value) (i : Nat) : List Value := (l.drop (i * sz)).take sz
theorem rowsOf_one (l : List Value) : rowsOf l.length l 0 = l := by simp [rowsOf]
theorem rowsOf_len {sz : Nat} {l : List Value} {n i : Nat} (h : l.length = n * sz) (hi : i < n) : (rowsOf sz l i).length = sz := by
  have : (i + 1) * sz ≤ n * sz := Nat.mul_le_mul_right _ hi
  rw [Nat.add_mul, Nat.one_mul] at this
  simp only [rowsOf, List.length_take, List.length_drop]; omega
theorem flat_rowsOf {sz : Nat} {l : List Value} : ∀ {n : Nat}, l.length = n * sz → flat n (rowsOf sz l) = l := by
  have key : ∀ n, n * sz ≤ l.length → flat n (rowsOf sz l) = l.take (n * sz) := by
    intro n
    induction n with
    | zero => intro _; simp [flat]
    | succ n ih =>
      intro h
      rw [Nat.add_mul, Nat.one_mul] at h
      rw [flat_succ, ih (by omega), rowsOf, Nat.add_mul, Nat.one_mul, ← List.take_add]
  intro n h
  rw [key n (by omega), ← h, List.take_length]
/-- the rows of two, one behind the other -/
def rcat (n : Nat) (r1 r2 : Nat → List Value) (i : Nat) : List Value := if i < n then r1 i else r2 (i - n)
theorem flat_rcat (n m : Nat) (r1 r2 : Nat → List Value) : flat (n + m) (rcat n r1 r2) = flat n r1 ++ flat m r2 := by
  rw [flat_add]
  congr 1
  · exact flat_congr fun i hi => by simp [rcat, hi]
  · exact flat_congr fun i hi => by simp only [rcat]; rw [if_neg (by omega), Nat.add_sub_cancel_left]
theorem SA_cg1 {e sz : Nat} {v : Value} {n : Nat} {row row' : Nat → List Value} (e' : ∀ i, i < n → row i = row' i) {H M : Heap} (h : (SA (some e) sz v n row).p H M) : (SA (some e) sz v n row').p H M := by
  obtain ⟨h1, h2, h3, h4⟩ := h
  exact ⟨fun i hi => by rw [← e' i hi]; exact h1 i hi, by rw [← flat_congr e']; exact h2, by rw [← flat_congr e']; exact h3, h4⟩
section
variable {P : Program} {f : FuncId} {n : Nat} {R : Value → HP} {k : List It} {l l2 : List (Nat × Value)} {As Bs : List HP} {all : Array Oper} {rest os : List Oper} {d : Nat} {oty : TypeId} {pos : String} {af : Array Edge} {g : Option (Nat × Bool)}
theorem s_new0 {e : Nat} {sz : Nat} {row : Nat → List Value} (h : RunS P f n R k l (SA (some e) sz (.slice none 0 0) 0 row :: As)) : RunS P f n R k l As := .mk fun H M s =>
  h H M ⟨fun _ => none, M, (fun _ _ h => nomatch h), Le.refl _, fun _ => .inl rfl, ⟨fun i hi => by omega, by simp [flat], .inl ⟨rfl, by simp [flat]⟩, _, _, rfl⟩, s⟩
theorem own_SA {r e sz len : Nat} {cells : List Value} {H M : Heap} (h : (HP.own r (.cells cells.toArray e (0, 0))).p H M) (hl : cells.length = len * sz) (ho : cells.all one = true) : (SA (some e) sz (.slice (some ⟨r, 0, none⟩) len len) len (rowsOf sz cells)).p H M :=
  ⟨fun i hi => rowsOf_len hl hi, by rw [flat_rowsOf hl]; exact ho, .inr ⟨r, len, len, cells.toArray, rfl, by rw [flat_rowsOf hl, hl], by simpa using hl, Nat.le_refl _, h, by rw [flat_rowsOf hl]; simp⟩, _, _, rfl⟩
theorem s_bs {t e sz bytes len : Nat} {ps : List (Nat × Operand)} {z : Value} {cells : List Value} [sl : SL P t e sz bytes] [zv : ZV P e z] [ol : OneL cells]
    (h : ∀ a, RunS P f n R (.ops all rest :: k) ((d, .slice a len len) :: l) (SA (some e) sz (.slice a len len) len (rowsOf sz cells) :: As))
    (hf : ∀ j, fillG (fun i => some (i * sz, sz)) (tab (len * sz) fun i => z.cells[i % z.cells.size]!) (ps.map fun x => (x.1, ev (mk l j) x.2)) = some cells.toArray) (hd : Nat.blt d n = true := by rfl)
    (hw : ∀ j, wantE ⟨some d, .buildSlice t len ps.toArray, oty, pos, af, g⟩ all (mk l j) = true := by intro j; rfl) (hlen : 0 < len * sz := by decide) (hmax : len * sz ≤ 16777216 := by decide) (hc : Nat.beq cells.length (len * sz) = true := by rfl) :
    RunS P f n R (.ops all (⟨some d, .buildSlice t len ps.toArray, oty, pos, af, g⟩ :: rest) :: k) l As := .mk fun H M s => by
  refine run_hm hd hw fun j => ?_
  have e1 : execOp (ev (mk l j)) ⟨some d, .buildSlice t len ps.toArray, oty, pos, af, g⟩ = (Instr.buildSlice t len (ps.toArray.map fun x => (x.1, ev (mk l j) x.2)) >>= fun v => pure (Next.value v)) := by
    unfold execOp; rfl
  rw [e1, List.map_toArray]
  obtain ⟨i, z', hu, hs, _, _, _, _, _, _⟩ := sl.h
  refine hm_bind (hm_bs hu hs zv.h hlen hmax _ (hf j) fun r hr => hm_pure ⟨_, .inl rfl, h _ _ _ ?_⟩)
  exact star_monoL (fun H M h => own_SA h (Nat.eq_of_beq_eq_true hc) ol.h) (own_new hr s)
theorem s_bs0 {t el sz : Nat} {row : Nat → List Value} [SC P t el] [SZ P el sz] (h : ∀ a, RunS P f n R (.ops all rest :: k) ((d, .slice a 0 0) :: l) (SA (some el) sz (.slice a 0 0) 0 row :: As)) (hd : Nat.blt d n = true := by rfl)
    (hw : ∀ j, wantE ⟨some d, .buildSlice t 0 #[], oty, pos, af, g⟩ all (mk l j) = true := by intro j; rfl) : RunS P f n R (.ops all (⟨some d, .buildSlice t 0 #[], oty, pos, af, g⟩ :: rest) :: k) l As := .mk fun H M s => by
  refine run_hm hd hw fun j => ?_
  have e1 : execOp (ev (mk l j)) ⟨some d, .buildSlice t 0 #[], oty, pos, af, g⟩ = (Instr.buildSlice t 0 #[] >>= fun v => pure (Next.value v)) := by
    unfold execOp; simp
  rw [e1]
  refine hm_bind (hm_bs0 (sz := sz) fun r hr => hm_pure ⟨_, .inl rfl, h _ _ _ ?_⟩)
  refine star_monoL (fun H M h => ?_) (own_new hr s)
  exact ⟨fun i hi => by omega, by simp [flat], .inr ⟨r, 0, 0, #[], rfl, by simp [flat], by simp, Nat.le_refl _, h, by simp [flat]⟩, _, _, rfl⟩
theorem hm_app0 {t e sz bytes c : Nat} [sl : SL P t e sz bytes] {base b : Option Addr} {len cap : Nat} {H M : Heap} {K : Value → Heap → Heap → Prop} (hc : len ≤ cap) (h : K (.slice base len cap) H M) :
    hm P (Builtin.append_ #[t, t] t #[.slice base len cap, .slice b 0 c]) H M K := by
  obtain ⟨i, z, hu, hs, hi, hby, hb0, hz, hzs, hsz⟩ := sl.h
  unfold Builtin.append_
  simp only [List.getElem?_toArray, List.getElem?_cons_zero, List.getElem?_cons_succ]
  refine hm_bind (hm_cst hu ?_)
  dsimp only
  refine hm_bind (hm_cst hs ?_)
  refine hm_bind (hm_cst hu ?_)
  dsimp only
  refine hm_bind (hm_pure ?_)
  simp only [Bool.false_eq_true, if_false, Bool.not_false, if_true]
  refine hm_bind (hm_pure ?_)
  rw [if_pos (show len + 0 ≤ cap from hc)]
  have h0 : cst P (Builtin.firstCells sz 0 (.slice b 0 c)) = some #[] := by
    cases b with
    | none => rfl
    | some a => show cst P (loadCells a (0 * sz)) = _; rw [Nat.zero_mul]; rfl
  refine hm_bind (hm_cst h0 ?_)
  cases base with
  | none => exact hm_bind (hm_pure (hm_pure h))
  | some a => exact hm_bind (hm_cst (a := ()) rfl (hm_pure h))
/-- append(s, x...): s is one's own -/
theorem s_app {t e sz bytes m c : Nat} {p q : Operand} {a b : Option Addr} {len cap : Nat} {row row2 : Nat → List Value} [SL P t e sz bytes]
    (u : Sel (SA (some e) sz (.slice a len cap) len row) As Bs) (x : SelR As sz (.slice b m c) m row2) (hx1 : (flat m row2).all one = true)
    (h : ∀ a' cap', RunS P f n R (.ops all rest :: k) ((d, .slice a' (len + m) cap') :: l) (SA (some e) sz (.slice a' (len + m) cap') (len + m) (rcat len row row2) :: Bs))
    (hroom : (len + m + 512) * bytes ≤ 140737488355328 := by omega)
    (hp : ∀ j, ev (mk l j) p = .slice a len cap := by intro j; rfl) (hq : ∀ j, ev (mk l j) q = .slice b m c := by intro j; rfl) (hd : Nat.blt d n = true := by rfl)
    (hw : ∀ j, wantE ⟨some d, .call ⟨.builtin .append, #[p, q], #[t, t]⟩, t, pos, af, g⟩ all (mk l j) = true := by intro j; rfl) :
    RunS P f n R (.ops all (⟨some d, .call ⟨.builtin .append, #[p, q], #[t, t]⟩, t, pos, af, g⟩ :: rest) :: k) l As := .mk fun H M s => by
  obtain ⟨M1, M2, a1, a2, dj, ⟨hr1, hr2, hown, _⟩, hB⟩ := u.sat s
  have hownM : Own M e sz (.slice a len cap) (flat len row) := hown.frame fun c o _ hc => a1 c o hc
  have hxr := x.rd s
  have sl' : SL P t e sz bytes := ‹_›
  have hsz : 0 < sz := by obtain ⟨_, _, _, _, _, _, _, _, _, h⟩ := sl'.h; exact h
  have hcap : len ≤ cap := by
    rcases hownM with ⟨h1, _⟩ | ⟨_, _, _, _, h1, _, _, h2, _⟩ <;> cases h1
    · exact Nat.le_refl _
    · exact h2
  have hxl : ∀ i, i < m → (row2 i).length = sz := by obtain ⟨_, _, _, _, h1, _⟩ := hxr; exact h1
  refine run_hm hd hw fun j => ?_
  rw [execOp_app, hp j, hq j]
  rcases Nat.eq_zero_or_pos m with rfl | hm
  · refine hm_bind (hm_app0 hcap (hm_pure ⟨_, .inl rfl, h a cap H M ⟨M1, M2, a1, a2, dj, ?_, hB⟩⟩))
    have e1 : flat (len + 0) (rcat len row row2) = flat len row := by rw [flat_rcat]; simp [flat]
    exact ⟨fun i hi => by simp only [rcat]; rw [if_pos (by omega)]; exact hr1 i (by omega), by rw [e1]; exact hr2, by rw [e1]; exact hown, _, _, rfl⟩
  · obtain ⟨base, cap2, e2, _, _, h3⟩ := hxr
    obtain ⟨bx, off, cx, tx, fx, rfl, kx, hs, hx⟩ := h3 hm
    cases e2
    refine hm_bind (hm_app (flat m row2) hownM kx hx hs (flat_len hxl) hx1 ?_ fun v' M' ho ha => hm_pure ⟨v', .inl rfl, ?_⟩)
    · rw [flat_len hr1, Nat.mul_div_cancel _ hsz]; exact hroom
    · have hlen : (flat len row ++ flat m row2).length = (len + m) * sz := by rw [List.length_append, flat_len hr1, flat_len hxl, Nat.add_mul]
      obtain ⟨a', cap', rfl⟩ := ho.len (len + m) hlen hsz
      refine h a' cap' _ _ ⟨fun c => if ob (.slice a' (len + m) cap') = some c then M' c else none, M2, ?_, ?_, ?_, ?_, hB⟩
      · intro c o hc; dsimp only at hc; split at hc
        · exact hc
        · cases hc
      · intro c o hc
        refine (ha c o (fun e => ?_) (a2 c o hc)).1
        rcases hown with ⟨h1, _⟩ | ⟨_, _, _, _, h1, _, _, _, h4, _⟩
        · cases h1; simp [ob] at e
        · cases h1
          simp only [ob, Option.some.injEq] at e
          subst e
          rcases dj _ with h5 | h5
          · rw [h4] at h5; cases h5
          · rw [hc] at h5; cases h5
      · intro c
        dsimp only
        cases hc : M2 c with
        | none => exact .inr rfl
        | some o =>
          refine .inl ?_
          rw [if_neg]
          refine (ha c o (fun e => ?_) (a2 c o hc)).2
          rcases hown with ⟨h1, _⟩ | ⟨_, _, _, _, h1, _, _, _, h4, _⟩
          · cases h1; simp [ob] at e
          · cases h1
            simp only [ob, Option.some.injEq] at e
            subst e
            rcases dj _ with h5 | h5
            · rw [h4] at h5; cases h5
            · rw [hc] at h5; cases h5
      · refine ⟨fun i hi => ?_, ?_, ?_, _, _, rfl⟩
        · simp only [rcat]
          split
          · exact hr1 i ‹_›
          · exact hxl _ (by omega)
        · rw [flat_rcat, List.all_append, hr2, hx1]; rfl
        · rw [flat_rcat]
          exact ho.frame fun c o hc ho => by rw [if_pos hc]; exact ho
/-- one's own slices may be only read from now on -/
theorem s_fz {e sz : Nat} {v : Value} {len : Nat} {row : Nat → List Value} (u : Sel (SA (some e) sz v len row) As Bs) (h : RunS P f n R k l (SA none sz v len row :: Bs)) : RunS P f n R k l As := .mk fun H M s => by
  have hs := u.sat s
  obtain ⟨M1, M2, a1, a2, dj, hA, hB⟩ := hs
  obtain ⟨hr1, hr2, hown, base, cap, hv⟩ := hA
  subst hv
  rcases hown with ⟨h1, h2⟩ | ⟨b, ln, cp, cs, h1, h2, h3, h4, h5, h6⟩
  · cases h1
    exact h H M (per_add (M0 := M) ⟨none, 0, rfl, Nat.le_refl _, hr1, fun h => by omega⟩ ((Sat Bs).mono (Le.refl _) a2 hB))
  · cases h1
    intro j w0 w a bb cs' k' hk hh ha hf hn
    obtain ⟨g1, g2⟩ := own_freeze (b := b) (o := .cells cs e (0, 0)) (X := Sat Bs) hh.d ⟨M1, M2, a1, a2, dj, h5, hB⟩
    refine h _ _ (per_add (M0 := M) ⟨_, _, rfl, h4, hr1, fun h0 => ⟨b, 0, cs, e, (0, 0), rfl, upd_same _ _ _, ?_, ?_⟩⟩ g2) j w0 w a bb cs' k' hk (g1 _ _ hh) ha hf hn
    · rw [h3]; have := Nat.mul_le_mul_right sz h4; omega
    · apply Array.ext'
      rw [Array.toList_extract, List.extract_eq_take_drop]
      rw [flat_len hr1] at h6
      simpa using h6
end
end Go.Cam
/- Regions that draw their order: those that look may come up at any time, the others one behind the other. -/
namespace Go.Cam
def vset (vs : Nat → Value) (i : Nat) (v : Value) : Nat → Value := fun q => bif Nat.beq q i then v else vs q
theorem vset_self (vs : Nat → Value) (i : Nat) (v : Value) : vset vs i v i = v := by simp [vset]
theorem vset_ne (vs : Nat → Value) {i q : Nat} (v : Value) (h : q ≠ i) : vset vs i v q = vs q := by simp [vset, beq_no h]
theorem ES_congr {os : List Oper} {e : Nat → Value} {vs vs' : Nat → Value} {S : Nat → Bool} (h : ∀ i, S i = true → vs i = vs' i) : ES os e vs S = ES os e vs' S := by
  funext t; unfold ES
  cases widx t 0 os with
  | none => rfl
  | some q =>
    dsimp only
    cases hq : S q with
    | false => rfl
    | true => rw [h q hq]
def Closed (os : List Oper) (S : Nat → Bool) : Prop := ∀ i o, os[i]? = some o → S i = true → Dep o S
section
variable {P : Program} {n : Nat} {os : List Oper} {l : List (Nat × Value)}
/-- whatever order: what holds of the operations that are done, and their values -/
theorem draw_sim (hd : Draw os) (j : Nat → Value) (w0 : World) (Q : Exit → Act → World → Prop) (J : (Nat → Bool) → (Nat → Value) → Heap → Heap → Prop)
    (hdin : ∀ (i : Nat) (o : Oper), os[i]? = some o → din n o.dst = true)
    (step : ∀ S vs H M (i : Nat) (o : Oper), J S vs H M → os[i]? = some o → Dep o S → S i = false → Closed os S →
      (wantE o os.toArray (ES os (mk l j) vs S) = true → hmc P (execOp (ev (ES os (mk l j) vs S)) o) H M fun v H' M' => J (sset S i) (vset vs i v) H' M') ∧
      (wantE o os.toArray (ES os (mk l j) vs S) = false → J (sset S i) (vset vs i undef) H M))
    (hQ : ∀ a w S vs H M, (∀ i, i < os.length → S i = true) → Agr n a (ES os (mk l j) vs S) → Has w0 w H M → J S vs H M → Q .normal a w) :
    ∀ (fuel : Nat) (listed : Array Bool) (a : Act) (w : World) (vs : Nat → Value) (H M : Heap), listed.size = os.length → listed.toList.count false ≤ fuel →
      Closed os (fun q => listed.getD q false) →
      Agr n a (ES os (mk l j) vs fun q => listed.getD q false) → Has w0 w H M → J (fun q => listed.getD q false) vs H M → wpAny P .any os.toArray Q fuel listed a w := by
  have hempty : ∀ (listed : Array Bool), listed.size = os.length → Region.ready .any os.toArray listed = [] → ∀ i, i < os.length → listed.getD i false = true := by
    intro listed hs hr i
    induction i using Nat.strongRecOn with
    | _ i ih =>
      intro hi
      cases hc : listed.getD i false with
      | true => rfl
      | false =>
        have hi' : i < listed.size := by omega
        have : i ∈ Region.ready .any os.toArray listed := by
          rw [mem_ready]
          refine ⟨?_, os[i], by simp [hi], fun e he hb => ?_⟩
          · simpa [hi'] using hc
          · have hlt := hd.lt i os[i] (List.getElem?_eq_getElem hi) e he hb
            exact ih e.on hlt (by omega)
        rw [hr] at this; cases this
  intro fuel
  induction fuel with
  | zero =>
    intro listed a w vs H M hs hcnt hcl ha hh hI
    have hall : ∀ i, i < os.length → listed.getD i false = true := by
      intro i hi
      cases hc : listed.getD i false with
      | true => rfl
      | false =>
        have hi' : i < listed.size := by omega
        have hv : listed[i] = false := by simpa [hi'] using hc
        have : false ∈ listed.toList := by rw [← hv]; simp
        have := List.count_pos_iff.2 this
        omega
    refine ⟨?_, hQ a w _ vs H M hall ha hh hI⟩
    rw [List.eq_nil_iff_forall_not_mem]
    intro i hi
    rw [mem_ready] at hi
    obtain ⟨h1, o, ho, _⟩ := hi
    have hlt : i < os.length := by have := (Array.getElem?_eq_some_iff.1 ho).1; simpa using this
    have h2 := hall i hlt
    have hi' : i < listed.size := by omega
    simp [hi'] at h1 h2
    rw [h1] at h2; cases h2
  | succ fuel ih =>
    intro listed a w vs H M hs hcnt hcl ha hh hI
    refine ⟨fun hr => hQ a w _ vs H M (hempty listed hs hr) ha hh hI, fun i hi => ?_⟩
    rw [mem_ready] at hi
    obtain ⟨hun, o, ho, hdep⟩ := hi
    have ho' : os[i]? = some o := by simpa using ho
    have hlt : i < os.length := (List.getElem?_eq_some_iff.1 ho').1
    have hi' : i < listed.size := by omega
    have hun' : listed.getD i false = false := by simpa [hi'] using hun
    have hset : (fun q => (listed.setIfInBounds i true).getD q false) = sset (fun q => listed.getD q false) i := by
      funext q
      by_cases e : q = i
      · subst e; rw [sset_self]; simp [hi']
      · rw [sset_ne _ e, getD_set_ne _ (Ne.symm e)]
    have next : ∀ v w1 H1 M1, Has w0 w1 H1 M1 → J (sset (fun q => listed.getD q false) i) (vset vs i v) H1 M1 → wpAny P .any os.toArray Q fuel (listed.setIfInBounds i true) (a.put o.dst v) w1 := by
      intro v w1 H1 M1 hh1 hI1
      refine ih _ _ _ (vset vs i v) H1 M1 (by simpa using hs) (by have := count_set hun; omega) ?_ ?_ hh1 (by rw [hset]; exact hI1)
      · intro q o2 ho2 hq e he hb
        by_cases e' : q = i
        · subst e'
          rw [ho'] at ho2; cases ho2
          exact getD_set_true (hdep e he hb)
        · dsimp only at hq
          rw [getD_set_ne _ (Ne.symm e')] at hq
          exact getD_set_true (hcl q o2 ho2 hq e he hb)
      · rw [hset, ← ES_put hd _ _ _ ho', vset_self, ES_congr (vs' := vs) fun q hq => vset_ne _ _ fun e => by subst e; rw [hun'] at hq; cases hq]
        exact ha.put _ _ (din_ok (hdin i o ho'))
    have hst := step (fun q => listed.getD q false) vs H M i o hI ho' (fun e he hb => hdep e he hb) hun' hcl
    have hwant : Region.wanted o (yielded os.toArray a.tmps) = wantE o os.toArray (ES os (mk l j) vs fun q => listed.getD q false) := wantE_ok ha _ _
    unfold wpOp
    rw [ho]
    dsimp only
    rw [hwant]
    cases hw : wantE o os.toArray (ES os (mk l j) vs fun q => listed.getD q false) with
    | true =>
      rw [if_pos rfl]
      refine .inl ?_
      unfold Oper.wp
      rw [ha.eval]
      obtain ⟨nx, w1, hrun, hnx⟩ := hst.1 hw w0 w hh
      rw [hrun]
      cases nx with
      | value v => obtain ⟨H1, M1, hh1, hI1⟩ := hnx; exact next v w1 H1 M1 hh1 hI1
      | skip => obtain ⟨H1, M1, hh1, hI1⟩ := hnx; exact next undef w1 H1 M1 hh1 hI1
      | enter f args =>
        refine Calls.mono hnx fun e w2 ⟨v, H1, M1, he, hh1, hI1⟩ => ?_
        subst he
        exact next v w2 H1 M1 hh1 hI1
      | _ => exact hnx.elim
    | false =>
      rw [if_neg (by simp)]
      exact next undef w H M hh (hst.2 hw)
end
theorem hmc_mono {P : Program} {e : Sem Next} {H M : Heap} {K K' : Value → Heap → Heap → Prop} (h : hmc P e H M K) (hk : ∀ v H' M', K v H' M' → K' v H' M') : hmc P e H M K' := by
  intro w0 w hh
  obtain ⟨nx, w1, hr, hn⟩ := h w0 w hh
  refine ⟨nx, w1, hr, ?_⟩
  cases nx <;> try exact hn
  · obtain ⟨H', M', a, b⟩ := hn; exact ⟨H', M', a, hk _ _ _ b⟩
  · obtain ⟨H', M', a, b⟩ := hn; exact ⟨H', M', a, hk _ _ _ b⟩
  · exact Calls.mono hn fun e w2 ⟨v, H', M', a, b, c⟩ => ⟨v, H', M', a, b, hk _ _ _ c⟩
/-- one operation, whatever it does; and one that leaves Z as it is -/
def StepS (P : Program) (o : Oper) (l : List (Nat × Value)) (A : HP) (K : Value → HP → Prop) : Prop :=
  ∀ j (F : HP) H M, (A.star F).p H M → hmc P (execOp (ev (mk l j)) o) H M fun v H' M' => ∃ A', K v A' ∧ (A'.star F).p H' M'
def QuS (P : Program) (o : Oper) (l : List (Nat × Value)) (Z : HP) (v : Value) : Prop :=
  ∀ j (F : HP) H M, (Z.star F).p H M → hmc P (execOp (ev (mk l j)) o) H M fun v' H' M' => v' = v ∧ (Z.star F).p H' M'
def QF (P : Program) (n : Nat) (all : Array Oper) (Z : HP) (o : Oper) (l : List (Nat × Value)) (v : Value) : Prop :=
  (∀ j, wantE o all (mk l j) = true) ∧ QuS P o l Z v ∨ (∀ j, wantE o all (mk l j) = false) ∧ v = undef
def depN (os : List Oper) : Nat → Nat → Nat → Bool
  | 0, _, _ => false
  | k + 1, i, c => match os[i]? with
    | none => false
    | some o => o.after.any fun e => Region.binds .any e && (Nat.beq e.on c || depN os k e.on c)
theorem depN_spec {os : List Oper} {S : Nat → Bool} (hcl : Closed os S) : ∀ (k i c : Nat) (o : Oper), depN os k i c = true → os[i]? = some o → Dep o S → S c = true
  | 0, _, _, _, h, _, _ => by cases h
  | k + 1, i, c, o, h, ho, hdep => by
    unfold depN at h
    rw [ho] at h
    obtain ⟨e, he, hb⟩ := Array.any_eq_true'.1 h
    simp only [Bool.and_eq_true, Bool.or_eq_true] at hb
    obtain ⟨h1, h2 | h2⟩ := hb
    · rw [← Nat.eq_of_beq_eq_true h2]; exact hdep e he h1
    · cases ho2 : os[e.on]? with
      | none => cases k with
        | zero => cases h2
        | succ k => unfold depN at h2; rw [ho2] at h2; cases h2
      | some o2 => exact depN_spec hcl k e.on c o2 h2 ho2 (hcl _ _ ho2 (hdep e he h1))
def ordB (os : List Oper) : List (Bool × Nat) → List Nat → List Nat → Bool
  | [], done, _ => (List.range os.length).all fun i => done.contains i
  | (b, i) :: r, done, ch => !done.contains i && (match os[i]? with
      | none => false
      | some o => (o.after.all fun e => !Region.binds .any e || done.contains e.on) && ch.all fun c => depN os os.length i c) && ordB os r (i :: done) (if b then ch else i :: ch)
/-- what an order that is fit says at each of its places -/
structure Fits (os : List Oper) (p : List (Bool × Nat)) : Prop where
  all : ∀ i, i < os.length → i ∈ p.map (·.2)
  one : ∀ a b i r, p = a ++ (b, i) :: r → i ∉ a.map (·.2)
  dep : ∀ a b i r o, p = a ++ (b, i) :: r → os[i]? = some o → ∀ e ∈ o.after, Region.binds .any e = true → e.on ∈ a.map (·.2)
  chain : ∀ a b i r c o, p = a ++ (b, i) :: r → (false, c) ∈ a → os[i]? = some o → depN os os.length i c = true
theorem ordB_spec {os : List Oper} {p : List (Bool × Nat)} (h : ordB os p [] [] = true) : Fits os p := by
  have key : ∀ (r a : List (Bool × Nat)) (done ch : List Nat), (∀ i, i ∈ done ↔ i ∈ a.map (·.2)) → (∀ c, c ∈ ch ↔ (false, c) ∈ a) → ordB os r done ch = true →
      (∀ i, i < os.length → i ∈ (a ++ r).map (·.2)) ∧ (∀ a' b i r', r = a' ++ (b, i) :: r' → i ∉ (a ++ a').map (·.2)) ∧
      (∀ a' b i r' o, r = a' ++ (b, i) :: r' → os[i]? = some o → ∀ e ∈ o.after, Region.binds .any e = true → e.on ∈ (a ++ a').map (·.2)) ∧
      (∀ a' b i r' c o, r = a' ++ (b, i) :: r' → (false, c) ∈ a ++ a' → os[i]? = some o → depN os os.length i c = true) := by
    intro r
    induction r with
    | nil =>
      intro a done ch hd _ h
      simp only [ordB, List.all_eq_true, List.mem_range, List.contains_iff_mem] at h
      refine ⟨fun i hi => by rw [List.append_nil]; exact (hd i).1 (h i hi), ?_, ?_, ?_⟩
      · intro a' b i r' e; cases a' <;> cases e
      · intro a' b i r' o e; cases a' <;> cases e
      · intro a' b i r' c o e; cases a' <;> cases e
    | cons x r ih =>
      obtain ⟨b, i⟩ := x
      intro a done ch hd hc h
      simp only [ordB, Bool.and_eq_true] at h
      obtain ⟨⟨h1, h2⟩, h3⟩ := h
      obtain ⟨i1, i2, i3, i4⟩ := ih (a ++ [(b, i)]) (i :: done) (if b then ch else i :: ch) (by intro q; simp [hd q, or_comm]) (by
        intro c; cases b <;> simp [hc c, or_comm]) h3
      refine ⟨fun q hq => by have := i1 q hq; simpa using this, ?_, ?_, ?_⟩
      · intro a' b' i' r' e
        cases a' with
        | nil => cases e; simp only [List.append_nil]; intro hm; exact absurd ((hd i).2 hm) (by simpa using h1)
        | cons y a' => cases e; have := i2 a' b' i' r' rfl; simpa using this
      · intro a' b' i' r' o e ho
        cases a' with
        | nil =>
          cases e
          rw [ho] at h2
          simp only [Bool.and_eq_true, Array.all_eq_true_iff_forall_mem] at h2
          intro ed he hb
          have := h2.1 ed he
          simp only [hb, Bool.not_true, Bool.false_or, List.contains_iff_mem] at this
          rw [List.append_nil]; exact (hd _).1 this
        | cons y a' => cases e; have := i3 a' b' i' r' o rfl ho; simpa using this
      · intro a' b' i' r' c o e hm ho
        cases a' with
        | nil =>
          cases e
          rw [ho] at h2
          simp only [Bool.and_eq_true, List.all_eq_true] at h2
          exact h2.2 c ((hc c).2 (by simpa using hm))
        | cons y a' => cases e; exact i4 a' b' i' r' c o rfl (by simpa using hm) ho
  obtain ⟨a, b, c, d⟩ := key p [] [] [] (by simp) (by simp) h
  exact ⟨by simpa using a, by simpa using b, by simpa using c, by simpa using d⟩
def Lp (os : List Oper) (l : List (Nat × Value)) (vF : Nat → Value) (a : List (Bool × Nat)) : List (Nat × Value) := a.foldl (fun l x => putl l ((os[x.2]?).bind (·.dst)) (vF x.2)) l
theorem Lp_snoc (os : List Oper) (l : List (Nat × Value)) (vF : Nat → Value) (a : List (Bool × Nat)) (x : Bool × Nat) : Lp os l vF (a ++ [x]) = putl (Lp os l vF a) ((os[x.2]?).bind (·.dst)) (vF x.2) := by simp [Lp]
theorem Lp_congr {os : List Oper} {l : List (Nat × Value)} {vF vF' : Nat → Value} : ∀ {a : List (Bool × Nat)} , (∀ x ∈ a, vF x.2 = vF' x.2) → Lp os l vF a = Lp os l vF' a := by
  intro a
  unfold Lp
  induction a generalizing l with
  | nil => intro _; rfl
  | cons x a ih =>
    intro h
    simp only [List.foldl_cons]
    rw [h x (by simp)]
    exact ih fun y hy => h y (by simp [hy])
section
variable {P : Program} {n : Nat} {os : List Oper} {Z : HP} {K : List (Nat × Value) → HP → Prop} {l : List (Nat × Value)} {p : List (Bool × Nat)}
def Pend (P : Program) (n : Nat) (os : List Oper) (Z : HP) (l : List (Nat × Value)) (vF : Nat → Value) (a : List (Bool × Nat)) : Prop :=
  ∀ a1 i a2, a = a1 ++ (true, i) :: a2 → ∃ o, os[i]? = some o ∧ QF P n os.toArray Z o (Lp os l vF a1) (vF i)
theorem Pend.congr {vF vF' : Nat → Value} {a : List (Bool × Nat)} (h : Pend P n os Z l vF a) (he : ∀ x ∈ a, vF x.2 = vF' x.2) : Pend P n os Z l vF' a := by
  intro a1 i a2 e
  obtain ⟨o, ho, q⟩ := h a1 i a2 e
  refine ⟨o, ho, ?_⟩
  rw [← he (true, i) (by rw [e]; simp), ← Lp_congr fun x hx => he x (by rw [e]; simp [hx])]
  exact q
end
end Go.Cam
