/- Regions that draw their order and make one block on the way. -/
import Derived.Test.YtimaipclgmcekaaCamJ
namespace Go.Cam
section
variable {P : Program} {n : Nat} {I : Nat → (Nat → Bool) → Heap → Heap → Prop} {os : List Oper} {l : List (Nat × Value)}
theorem draw_anyR (hd : Draw os) (k0 : Nat) (vs : Nat → Nat → Value) (j : Nat → Value) (w0 : World) (Q : Exit → Act → World → Prop)
    (hf : ∀ r i o, os[i]? = some o → i ≠ k0 → Fact P n os.toArray (I r) i o (Lx l os (vs r) i) (vs r i))
    (hk : ∀ r o, os[k0]? = some o → din n o.dst = true ∧ (∀ j, wantE o os.toArray (mk (Lx l os (vs r) k0) j) = true) ∧ ∀ j S H M, Dep o S → S k0 = false → (∀ q, k0 < q → S q = false) → I r S H M →
      hmc P (execOp (ev (mk (Lx l os (vs r) k0) j)) o) H M fun v' H' M' => ∃ r', v' = vs r' k0 ∧ I r' (sset S k0) H' M')
    (hind : ∀ r r' i o d, i < k0 → os[i]? = some o → o.dst = some d → vs r i = vs r' i)
    (hlate : ∀ i o, os[i]? = some o → k0 < i → nowEdge o k0 = true)
    (hQ : ∀ r a w H M, Agr n a (mk (Lx l os (vs r) os.length) j) → Has w0 w H M → I r (fun q => decide (q < os.length)) H M → Q .normal a w) :
    ∀ (fuel : Nat) (r : Nat) (listed : Array Bool) (a : Act) (w : World) (H M : Heap), listed.size = os.length → listed.toList.count false ≤ fuel →
      (∀ i o, os[i]? = some o → listed.getD i false = true → Dep o (fun q => listed.getD q false)) →
      Agr n a (ES os (mk l j) (vs r) fun q => listed.getD q false) → Has w0 w H M → I r (fun q => listed.getD q false) H M → wpAny P .any os.toArray Q fuel listed a w := by
  have hfin : ∀ (listed : Array Bool), listed.size = os.length → (∀ i, i < os.length → listed.getD i false = true) → (fun q => listed.getD q false) = fun q => decide (q < os.length) := by
    intro listed hs h
    funext q
    by_cases hq : q < os.length
    · simp only [h q hq, hq, decide_true]
    · have : listed[q]? = none := Array.getElem?_eq_none (by omega)
      simp [this]; omega
  have hdone : ∀ (r : Nat) (listed : Array Bool) (a : Act) (w : World) (H M : Heap), listed.size = os.length → (∀ i, i < os.length → listed.getD i false = true) →
      Agr n a (ES os (mk l j) (vs r) fun q => listed.getD q false) → Has w0 w H M → I r (fun q => listed.getD q false) H M → Q .normal a w := by
    intro r listed a w H M hs hall ha hh hI
    rw [hfin listed hs hall] at ha hI
    exact hQ r a w H M (by rw [Lx_ES hd _ _ _ _ (Nat.le_refl _)]; exact ha) hh hI
  have hempty : ∀ (listed : Array Bool), listed.size = os.length → Region.ready .any os.toArray listed = [] → ∀ i, i < os.length → listed.getD i false = true := by
    intro listed hs hr i
    induction i using Nat.strongRecOn with
    | _ i ih =>
      intro hi
      cases hc : listed.getD i false with
      | true => rfl
      | false =>
        have hi' : i < listed.size := by omega
        have : i ∈ Region.ready .any os.toArray listed := by
          rw [mem_ready]
          refine ⟨?_, os[i], by simp [hi], fun e he hb => ?_⟩
          · simpa [hi'] using hc
          · have hlt := hd.lt i os[i] (List.getElem?_eq_getElem hi) e he hb
            exact ih e.on hlt (by omega)
        rw [hr] at this; cases this
  intro fuel
  induction fuel with
  | zero =>
    intro r listed a w H M hs hcnt hcl ha hh hI
    have hall : ∀ i, i < os.length → listed.getD i false = true := by
      intro i hi
      cases hc : listed.getD i false with
      | true => rfl
      | false =>
        have hi' : i < listed.size := by omega
        have hv : listed[i] = false := by simpa [hi'] using hc
        have : false ∈ listed.toList := by rw [← hv]; simp
        have := List.count_pos_iff.2 this
        omega
    refine ⟨?_, hdone r listed a w H M hs hall ha hh hI⟩
    rw [List.eq_nil_iff_forall_not_mem]
    intro i hi
    rw [mem_ready] at hi
    obtain ⟨h1, o, ho, _⟩ := hi
    have hlt : i < os.length := by have := (Array.getElem?_eq_some_iff.1 ho).1; simpa using this
    have h2 := hall i hlt
    have hi' : i < listed.size := by omega
    simp [hi'] at h1 h2
    rw [h1] at h2; cases h2
  | succ fuel ih =>
    intro r listed a w H M hs hcnt hcl ha hh hI
    refine ⟨fun hr => hdone r listed a w H M hs (hempty listed hs hr) ha hh hI, fun i hi => ?_⟩
    rw [mem_ready] at hi
    obtain ⟨hun, o, ho, hdep⟩ := hi
    have ho' : os[i]? = some o := by simpa using ho
    have hlt : i < os.length := (List.getElem?_eq_some_iff.1 ho').1
    have hi' : i < listed.size := by omega
    have hun' : listed.getD i false = false := by simpa [hi'] using hun
    -- the slots that the operation looks at
    have hlook : ∀ t ∈ o.looksAt os.toArray, ES os (mk l j) (vs r) (fun q => listed.getD q false) t = mk (Lx l os (vs r) i) j t := by
      intro t ht
      rw [Lx_ES hd _ _ _ _ (Nat.le_of_lt hlt)]
      unfold ES
      cases hq : widx t 0 os with
      | none => rfl
      | some q =>
        rcases hd.look i o ho' t ht q hq with rfl | ⟨e, he, hb, rfl⟩ | ⟨o2, ho2, e, he, hb, heq⟩
        · simp only [hun', Nat.lt_irrefl, decide_false]
        · simp only [hdep e he hb, hd.lt i o ho' e he hb, decide_true]
        · have hqi := hd.lt q o2 ho2 e he hb
          have hlq : listed.getD q false = false := by
            cases hc : listed.getD q false with
            | false => rfl
            | true => have h5 := hcl q o2 ho2 hc e he hb; dsimp only at h5; rw [heq, hun'] at h5; cases h5
          simp only [hlq]
          rw [decide_eq_false (by omega)]
    have hev : execOp a.eval o = execOp (ev (mk (Lx l os (vs r) i) j)) o := by
      refine execOp_congr o (Region.noSelect_spec hd.sel i o · · ho) fun x hx => ?_
      rw [ha.eval]
      cases x with
      | tmp t => exact hlook t (List.mem_append_left _ (List.mem_filterMap.2 ⟨.tmp t, by simpa using hx, rfl⟩))
      | const v => rfl
      | global g => rfl
      | func f => rfl
    have hwant : Region.wanted o (yielded os.toArray a.tmps) = wantE o os.toArray (mk (Lx l os (vs r) i) j) := by
      rw [wantE_ok ha]
      unfold wantE
      cases hg : o.guard with
      | none => rfl
      | some gw =>
        obtain ⟨g, want⟩ := gw
        dsimp only
        congr 1
        unfold gv
        cases hb : (os.toArray[g]?).bind (·.dst) with
        | none => rfl
        | some d => dsimp only; rw [hlook d (by simp only [Oper.looksAt, hg, hb]; simp)]
    have hset : (fun q => (listed.setIfInBounds i true).getD q false) = sset (fun q => listed.getD q false) i := by
      funext q
      by_cases e : q = i
      · subst e; rw [sset_self]; simp [hi']
      · rw [sset_ne _ e, getD_set_ne _ (Ne.symm e)]
    have hdin : din n o.dst = true := by
      by_cases e : i = k0
      · subst e; exact (hk r o ho').1
      · exact (hf r i o ho' e).1
    have next : ∀ r' w1 H1 M1, (r' = r ∨ i = k0) → Has w0 w1 H1 M1 → I r' (sset (fun q => listed.getD q false) i) H1 M1 → wpAny P .any os.toArray Q fuel (listed.setIfInBounds i true) (a.put o.dst (vs r' i)) w1 := by
      intro r' w1 H1 M1 hr' hh1 hI1
      refine ih r' _ _ _ H1 M1 (by simpa using hs) (by have := count_set hun; omega) ?_ ?_ hh1 (by rw [hset]; exact hI1)
      · intro q o2 ho2 hq e he hb
        by_cases e' : q = i
        · subst e'
          rw [ho'] at ho2; cases ho2
          exact getD_set_true (hdep e he hb)
        · rw [getD_set_ne _ (Ne.symm e')] at hq
          exact getD_set_true (hcl q o2 ho2 hq e he hb)
      · rw [hset, ← ES_put hd _ _ _ ho']
        have hES : ES os (mk l j) (vs r') (fun q => listed.getD q false) = ES os (mk l j) (vs r) (fun q => listed.getD q false) := by
          rcases hr' with rfl | rfl
          · rfl
          · funext t
            unfold ES
            cases hq : widx t 0 os with
            | none => rfl
            | some q =>
              obtain ⟨_, o2, ho2, hd2⟩ := widx_spec hq
              rw [Nat.sub_zero] at ho2
              rcases Nat.lt_trichotomy q i with h | h | h
              · simp only [hind r' r q o2 t h ho2 hd2]
              · subst h; simp only [hun', cond_false]
              · have hlq : listed.getD q false = false := by
                  cases hc : listed.getD q false with
                  | false => rfl
                  | true =>
                    obtain ⟨e, he, hb, heq⟩ := nowEdge_spec (hlate q o2 ho2 h)
                    have h5 := hcl q o2 ho2 hc e he hb
                    dsimp only at h5; rw [heq, hun'] at h5; cases h5
                simp only [hlq, cond_false]
        rw [hES]
        exact ha.put _ _ (din_ok hdin)
    by_cases ek : i = k0
    · subst ek
      obtain ⟨_, hw, hstep⟩ := hk r o ho'
      unfold wpOp
      rw [ho]
      dsimp only
      rw [hwant, hw j, if_pos rfl]
      refine .inl ?_
      unfold Oper.wp
      rw [hev]
      obtain ⟨nx, w1, hrun, hnx⟩ := hstep j (fun q => listed.getD q false) H M (fun e he hb => hdep e he hb) hun' (fun q hq => by
        cases hc : listed.getD q false with
        | false => rfl
        | true =>
          have hql : q < os.length := by
            rcases Nat.lt_or_ge q os.length with h | h
            · exact h
            · have : listed[q]? = none := Array.getElem?_eq_none (by omega)
              simp [this] at hc
          obtain ⟨e, he, hb, heq⟩ := nowEdge_spec (hlate q os[q] (List.getElem?_eq_getElem hql) hq)
          have h5 := hcl q os[q] (List.getElem?_eq_getElem hql) hc e he hb
          dsimp only at h5; rw [heq, hun'] at h5; cases h5) hI w0 w hh
      rw [hrun]
      cases nx with
      | value v =>
        obtain ⟨H1, M1, hh1, r', rfl, hI1⟩ := hnx
        exact next r' w1 H1 M1 (.inr rfl) hh1 hI1
      | skip =>
        obtain ⟨H1, M1, hh1, r', hv, hI1⟩ := hnx
        have := next r' w1 H1 M1 (.inr rfl) hh1 hI1
        rw [← hv] at this; exact this
      | enter f args =>
        refine Calls.mono hnx fun e w2 ⟨v, H1, M1, he, hh1, r', hv, hI1⟩ => ?_
        subst he; subst hv
        exact next r' w2 H1 M1 (.inr rfl) hh1 hI1
      | _ => exact hnx.elim
    obtain ⟨_, hfact⟩ := hf r i o ho' ek
    unfold wpOp
    rw [ho]
    dsimp only
    rcases hfact with ⟨hw, hstep⟩ | ⟨hw, hv, hst⟩
    · rw [hwant, hw j, if_pos rfl]
      refine .inl ?_
      unfold Oper.wp
      rw [hev]
      obtain ⟨nx, w1, hrun, hnx⟩ := hstep j (fun q => listed.getD q false) H M (fun e he hb => hdep e he hb) hun' hI w0 w hh
      rw [hrun]
      cases nx with
      | value v =>
        obtain ⟨H1, M1, hh1, rfl, hI1⟩ := hnx
        exact next r w1 H1 M1 (.inl rfl) hh1 hI1
      | skip =>
        obtain ⟨H1, M1, hh1, hv, hI1⟩ := hnx
        have := next r w1 H1 M1 (.inl rfl) hh1 hI1
        rw [← hv] at this; exact this
      | enter f args =>
        refine Calls.mono hnx fun e w2 ⟨v, H1, M1, he, hh1, hv, hI1⟩ => ?_
        subst he; subst hv
        exact next r w2 H1 M1 (.inl rfl) hh1 hI1
      | _ => exact hnx.elim
    · rw [hwant, hw j, if_neg (by simp)]
      have := next r w H M (.inl rfl) hh (hst _ H M hI)
      rw [hv] at this; exact this
end
theorem Lx_inj {os : List Oper} {l : List (Nat × Value)} {vs vs' : Nat → Value} : ∀ {k : Nat}, Lx l os vs k = Lx l os vs' k → ∀ i o d, i < k → os[i]? = some o → o.dst = some d → vs i = vs' i
  | 0, _, i, _, _, hi, _, _ => by omega
  | k + 1, h, i, o, d, hi, ho, hd => by
    simp only [Lx] at h
    cases hk : (os[k]?).bind (·.dst) with
    | none =>
      rw [hk] at h
      by_cases e : i = k
      · subst e; rw [ho] at hk; simp [hd] at hk
      · exact Lx_inj (k := k) h i o d (by omega) ho hd
    | some d' =>
      rw [hk] at h
      simp only [putl, List.cons.injEq, Prod.mk.injEq, true_and] at h
      by_cases e : i = k
      · subst e; exact h.1
      · exact Lx_inj (k := k) h.2 i o d (by omega) ho hd
theorem Lx_congr {os : List Oper} {l : List (Nat × Value)} {vs vs' : Nat → Value} : ∀ {k : Nat}, (∀ i, i < k → vs i = vs' i) → Lx l os vs k = Lx l os vs' k
  | 0, _ => rfl
  | k + 1, h => by simp only [Lx]; rw [Lx_congr fun i hi => h i (by omega), h k (by omega)]
theorem Lx_take {os : List Oper} {l : List (Nat × Value)} {vs : Nat → Value} {m : Nat} : ∀ {k : Nat}, k ≤ m → Lx l (os.take m) vs k = Lx l os vs k
  | 0, _ => rfl
  | k + 1, h => by
    simp only [Lx]
    rw [Lx_take (by omega), List.getElem?_take, if_pos (by omega)]
theorem Lx_drop {os : List Oper} {l : List (Nat × Value)} {vs : Nat → Value} (m : Nat) : ∀ (k : Nat), Lx (Lx l os vs m) (os.drop m) (fun i => vs (m + i)) k = Lx l os vs (m + k)
  | 0 => rfl
  | k + 1 => by
    rw [show m + (k + 1) = (m + k) + 1 by omega]
    simp only [Lx]
    rw [Lx_drop m k, List.getElem?_drop]
def lateB (os : List Oper) (k0 : Nat) : Bool := (List.range os.length).all fun i => Nat.ble i k0 || match os[i]? with | some o => nowEdge o k0 | none => true
/-- a region that draws and that makes one block: operation number k0; r: where that lies -/
theorem run_drawA {P : Program} {f : FuncId} {n : Nat} {R : Post} {k : List It} {l lm : List (Nat × Value)} {l2 : Nat → List (Nat × Value)} {H M : Heap} {id : Nat} {ops : List Oper} (k0 : Nat) (I : Nat → (Nat → Bool) → Heap → Heap → Prop) {o : Oper} {d : Nat} (ob : Obj)
    (hmx : P.follows .mixedOrders = true) (hB : drawB ops = true) (hL : lateB ops k0 = true) (ho : ops[k0]? = some o) (hod : o.dst = some d) (hdn : Nat.blt d n = true) (hw : ∀ j, wantE o ops.toArray (mk lm j) = true)
    (hx : ∀ j, (cstNew P (execOp (ev (mk lm j)) o)).map (fun x => (x.1, fun r => cst P (x.2 r))) = some (ob, fun r => some (.value (.pointer (some ⟨r, 0, none⟩)))))
    (h0 : ∃ r, I r (fun _ => false) H M) (hq : ∀ r, QC P n ops.toArray (I r) 0 (ops.take k0) l lm)
    (hnew : ∀ r S H M, S k0 = false → (∀ q, k0 < q → S q = false) → I r S H M → ∀ r' M', M' r' = some ob → New M r' M' → I r' (sset S k0) H M')
    (hr : ∀ r, QC P n ops.toArray (I r) (k0 + 1) (ops.drop (k0 + 1)) ((d, .pointer (some ⟨r, 0, none⟩)) :: lm) (l2 r))
    (h : ∀ r H' M', I r (fun q => decide (q < ops.length)) H' M' → Run P f n R k (l2 r) H' M') : Run P f n R (.code (.region id ops.toArray true) :: k) l H M := by
  intro j w0 w a b cs k' hk hh ha hf hn
  have hd := drawB_spec hB
  have hk0 : k0 < ops.length := (List.getElem?_eq_some_iff.1 ho).1
  have hvA : ∀ r, ∃ vs : Nat → Value, Lx l ops vs k0 = lm ∧ ∀ i o, i < k0 → ops[i]? = some o → Fact P n ops.toArray (I r) i o (Lx l ops vs i) (vs i) := by
    intro r
    obtain ⟨vs, h1, h2⟩ := (hq r).vals
    have hlen : (ops.take k0).length = k0 := by rw [List.length_take]; omega
    refine ⟨vs, by rw [hlen, Lx_take (Nat.le_refl _)] at h1; exact h1, fun i o hi hio => ?_⟩
    have := h2 i o (by rw [List.getElem?_take, if_pos hi]; exact hio)
    rwa [Nat.zero_add, Lx_take (by omega)] at this
  have hvB : ∀ r, ∃ vs : Nat → Value, Lx ((d, .pointer (some ⟨r, 0, none⟩)) :: lm) (ops.drop (k0 + 1)) vs (ops.length - (k0 + 1)) = l2 r ∧ ∀ i o, ops[k0 + 1 + i]? = some o → Fact P n ops.toArray (I r) (k0 + 1 + i) o (Lx ((d, .pointer (some ⟨r, 0, none⟩)) :: lm) (ops.drop (k0 + 1)) vs i) (vs i) := by
    intro r
    obtain ⟨vs, h1, h2⟩ := (hr r).vals
    exact ⟨vs, by rw [List.length_drop] at h1; exact h1, fun i o hio => h2 i o (by rw [List.getElem?_drop]; exact hio)⟩
  let va := fun r => (hvA r).choose
  have va_spec := fun r => (hvA r).choose_spec
  let vb := fun r => (hvB r).choose
  have vb_spec := fun r => (hvB r).choose_spec
  let vs : Nat → Nat → Value := fun r i => if i < k0 then va r i else if i = k0 then .pointer (some ⟨r, 0, none⟩) else vb r (i - (k0 + 1))
  have vsA : ∀ r i, i < k0 → vs r i = va r i := fun r i hi => if_pos hi
  have vsK : ∀ r, vs r k0 = .pointer (some ⟨r, 0, none⟩) := fun r => by show (if k0 < k0 then _ else _) = _; rw [if_neg (by omega), if_pos rfl]
  have vsB : ∀ r i, vs r (k0 + 1 + i) = vb r i := fun r i => by
    show (if k0 + 1 + i < k0 then _ else _) = _
    rw [if_neg (by omega), if_neg (by omega), show k0 + 1 + i - (k0 + 1) = i by omega]
  have lxA : ∀ r i, i ≤ k0 → Lx l ops (vs r) i = Lx l ops (va r) i := fun r i hi => Lx_congr fun q hq => vsA r q (by omega)
  have lxK : ∀ r, Lx l ops (vs r) k0 = lm := fun r => by rw [lxA r k0 (Nat.le_refl _)]; exact (va_spec r).1
  have lxK1 : ∀ r, Lx l ops (vs r) (k0 + 1) = (d, .pointer (some ⟨r, 0, none⟩)) :: lm := fun r => by
    show putl (Lx l ops (vs r) k0) _ _ = _
    rw [lxK, vsK, ho]; simp only [Option.bind_some, hod, putl]
  have lxB : ∀ r i, Lx l ops (vs r) (k0 + 1 + i) = Lx ((d, .pointer (some ⟨r, 0, none⟩)) :: lm) (ops.drop (k0 + 1)) (vb r) i := fun r i => by
    rw [← Lx_drop (k0 + 1) i, lxK1]
    exact congrArg (fun v => Lx _ _ v i) (funext fun q => vsB r q)
  have hf2 : ∀ r i o, ops[i]? = some o → i ≠ k0 → Fact P n ops.toArray (I r) i o (Lx l ops (vs r) i) (vs r i) := by
    intro r i o hio hne
    rcases Nat.lt_or_gt_of_ne hne with h1 | h1
    · rw [lxA r i (by omega), vsA r i h1]; exact (va_spec r).2 i o h1 hio
    · obtain ⟨q, rfl⟩ : ∃ q, i = k0 + 1 + q := ⟨i - (k0 + 1), by omega⟩
      rw [lxB, vsB]; exact (vb_spec r).2 q o hio
  have hind : ∀ r r' i o d, i < k0 → ops[i]? = some o → o.dst = some d → vs r i = vs r' i := fun r r' i o d hi hio hdd =>
    Lx_inj (k := k0) (by rw [lxK, lxK]) i o d hi hio hdd
  have hlate : ∀ i o, ops[i]? = some o → k0 < i → nowEdge o k0 = true := by
    intro i o hio hlt
    unfold lateB at hL
    have := List.all_eq_true.1 hL i (List.mem_range.2 (List.getElem?_eq_some_iff.1 hio).1)
    rw [hio] at this
    simp only [Bool.or_eq_true] at this
    exact this.resolve_left (fun c => by have := Nat.le_of_ble_eq_true c; omega)
  obtain ⟨r0, hI0⟩ := h0
  cases hk with
  | @code _ _ k1 hk =>
    have hz : (fun q => (Array.replicate ops.toArray.size false).getD q false) = fun _ => false := by
      funext q; simp only [Array.getD_eq_getD_getElem?, Array.getElem?_replicate]; split <;> rfl
    have h1 := wp_region_any (P := P) (id := id) (ops := ops.toArray) (Q := fun e a' w' => e = .normal ∧ ∃ r H' M', Agr n a' (mk (l2 r) j) ∧ Has w0 w' H' M' ∧ I r (fun q => decide (q < ops.length)) H' M') (a := a) (w := w) hmx
      (draw_anyR hd k0 vs j w0 _ hf2 (fun r o' ho' => by
          rw [ho] at ho'; cases ho'
          refine ⟨by rw [hod]; exact hdn, fun j => by rw [lxK]; exact hw j, fun j S H M _ hS hlt hI => ?_⟩
          rw [lxK]
          intro w0 w hh
          have hx := hx j
          cases hq : cstNew P (execOp (ev (mk lm j)) o) with
          | none => rw [hq] at hx; cases hx
          | some p =>
            obtain ⟨o', kk⟩ := p
            rw [hq] at hx
            simp only [Option.map_some, Option.some.injEq, Prod.mk.injEq] at hx
            obtain ⟨rfl, hkk⟩ := hx
            refine ⟨.value (.pointer (some ⟨w.heap.size, 0, none⟩)), { w with heap := w.heap.push o' }, by rw [cstNew_run _ hq]; exact cst_run _ (congrFun hkk w.heap.size) _, H, _, hh.push o', w.heap.size, (vsK _).symm, ?_⟩
            exact hnew r S H M hS hlt hI _ _ (upd_same _ _ _) (New.of hh.fresh o'))
        hind hlate (fun r a' w' H' M' ha' hh' hI' => ⟨rfl, r, H', M', by
          have : Lx l ops (vs r) ops.length = l2 r := by
            have e := lxB r (ops.length - (k0 + 1))
            rw [show k0 + 1 + (ops.length - (k0 + 1)) = ops.length by omega] at e
            rw [e]; exact (vb_spec r).1
          rw [← this]; exact ha', hh', hI'⟩) _ r0 _ _ _ H M (by simp) (by simp) (by
          intro i o _ hc
          have := congrFun hz i
          rw [this] at hc; cases hc) (by
          rw [hz]
          have : ES ops (mk l j) (vs r0) (fun _ => false) = mk l j := by
            funext t; unfold ES; cases widx t 0 ops <;> rfl
          rw [this]; exact ha) hh.drew (by rw [hz]; exact hI0))
    obtain ⟨e, a', w1, ⟨rfl, r, H', M', ha', hw1, hI'⟩, harr⟩ := h1 b k1 cs
    obtain ⟨v, w', fr, hst, rr⟩ := h r H' M' hI' j w0 w1 a' b cs k1 hk hw1 ha' hf hn
    exact ⟨v, w', fr, Steps.trans harr hst, rr⟩
end Go.Cam
