/- Regions that draw their order and make one block on the way. -/
import Derived.Test.YtgbbcpfnmkeijaaGreatCamJ
import Derived.Test.YtgbbcpfnmkeijaaGreatCamA
import Derived.ProofKit
import Derived.Carry
import Derived.OpenShut
namespace Go.Cam
section
variable {P : Program} {n : Nat} {I : Nat → (Nat → Bool) → Heap → Heap → Prop} {os : List Oper} {l : List (Nat × Value)}
theorem draw_anyR (hd : Draw os) (k0 : Nat) (vs : Nat → Nat → Value) (j : Nat → Value) (w0 : World) (Q : Exit → Act → World → Prop)
    (hf : ∀ r i o, os[i]? = some o → i ≠ k0 → Fact P n os.toArray (I r) i o (Lx l os (vs r) i) (vs r i))
    (hk : ∀ r o, os[k0]? = some o → din n o.dst = true ∧ (∀ j, wantE o os.toArray (mk (Lx l os (vs r) k0) j) = true) ∧ ∀ j S H M, Dep o S → S k0 = false → (∀ q, k0 < q → S q = false) → I r S H M →
      hmc P (execOp (ev (mk (Lx l os (vs r) k0) j)) o) H M fun v' H' M' => ∃ r', v' = vs r' k0 ∧ I r' (sset S k0) H' M')
    (hind : ∀ r r' i o d, i < k0 → os[i]? = some o → o.dst = some d → vs r i = vs r' i)
    (hlate : ∀ i o, os[i]? = some o → k0 < i → nowEdge o k0 = true)
    (hQ : ∀ r a w H M, Agr n a (mk (Lx l os (vs r) os.length) j) → Has w0 w H M → I r (fun q => decide (q < os.length)) H M → Q .normal a w) :
    ∀ (fuel : Nat) (r : Nat) (listed : Array Bool) (a : Act) (w : World) (H M : Heap), listed.size = os.length → listed.toList.count false ≤ fuel →
      (∀ i o, os[i]? = some o → listed.getD i false = true → Dep o (fun q => listed.getD q false)) →
      Agr n a (ES os (mk l j) (vs r) fun q => listed.getD q false) → Has w0 w H M → I r (fun q => listed.getD q false) H M → wpAny P .any os.toArray Q fuel listed a w := by
  have hfin : ∀ (listed : Array Bool), listed.size = os.length → (∀ i, i < os.length → listed.getD i false = true) → (fun q => listed.getD q false) = fun q => decide (q < os.length) := by
    intro listed hs h
    funext q
    by_cases hq : q < os.length
    · simp only [h q hq, hq, decide_true]
    · have : listed[q]? = none := Array.getElem?_eq_none (by omega)
      simp [this]; omega
  have hdone : ∀ (r : Nat) (listed : Array Bool) (a : Act) (w : World) (H M : Heap), listed.size = os.length → (∀ i, i < os.length → listed.getD i false = true) →
      Agr n a (ES os (mk l j) (vs r) fun q => listed.getD q false) → Has w0 w H M → I r (fun q => listed.getD q false) H M → Q .normal a w := by
    intro r listed a w H M hs hall ha hh hI
    rw [hfin listed hs hall] at ha hI
    exact hQ r a w H M (by rw [Lx_ES hd _ _ _ _ (Nat.le_refl _)]; exact ha) hh hI
  have hempty : ∀ (listed : Array Bool), listed.size = os.length → Region.ready .any os.toArray listed = [] → ∀ i, i < os.length → listed.getD i false = true := by
    intro listed hs hr i
    induction i using Nat.strongRecOn with
    | _ i ih =>
      intro hi
      cases hc : listed.getD i false with
      | true => rfl
      | false =>
        have hi' : i < listed.size := by omega
        have : i ∈ Region.ready .any os.toArray listed := by
          rw [mem_ready]
          refine ⟨?_, os[i], by simp [hi], fun e he hb => ?_⟩
          · simpa [hi'] using hc
          · have hlt := hd.lt i os[i] (List.getElem?_eq_getElem hi) e he hb
            exact ih e.on hlt (by omega)
        rw [hr] at this; cases this
  intro fuel
  induction fuel with
  | zero =>
    intro r listed a w H M hs hcnt hcl ha hh hI
    have hall : ∀ i, i < os.length → listed.getD i false = true := by
      intro i hi
      cases hc : listed.getD i false with
      | true => rfl
      | false =>
        have hi' : i < listed.size := by omega
        have hv : listed[i] = false := by simpa [hi'] using hc
        have : false ∈ listed.toList := by rw [← hv]; simp
        have := List.count_pos_iff.2 this
        omega
    refine ⟨?_, hdone r listed a w H M hs hall ha hh hI⟩
    rw [List.eq_nil_iff_forall_not_mem]
    intro i hi
    rw [mem_ready] at hi
    obtain ⟨h1, o, ho, _⟩ := hi
    have hlt : i < os.length := by have := (Array.getElem?_eq_some_iff.1 ho).1; simpa using this
    have h2 := hall i hlt
    have hi' : i < listed.size := by omega
    simp [hi'] at h1 h2
    rw [h1] at h2; cases h2
  | succ fuel ih =>
    intro r listed a w H M hs hcnt hcl ha hh hI
    refine ⟨fun hr => hdone r listed a w H M hs (hempty listed hs hr) ha hh hI, fun i hi => ?_⟩
    rw [mem_ready] at hi
    obtain ⟨hun, o, ho, hdep⟩ := hi
    have ho' : os[i]? = some o := by simpa using ho
    have hlt : i < os.length := (List.getElem?_eq_some_iff.1 ho').1
    have hi' : i < listed.size := by omega
    have hun' : listed.getD i false = false := by simpa [hi'] using hun
    -- the slots that the operation looks at
    have hlook : ∀ t ∈ o.looksAt os.toArray, ES os (mk l j) (vs r) (fun q => listed.getD q false) t = mk (Lx l os (vs r) i) j t := by
      intro t ht
      rw [Lx_ES hd _ _ _ _ (Nat.le_of_lt hlt)]
      unfold ES
      cases hq : widx t 0 os with
      | none => rfl
      | some q =>
        rcases hd.look i o ho' t ht q hq with rfl | ⟨e, he, hb, rfl⟩ | ⟨o2, ho2, e, he, hb, heq⟩
        · simp only [hun', Nat.lt_irrefl, decide_false]
        · simp only [hdep e he hb, hd.lt i o ho' e he hb, decide_true]
        · have hqi := hd.lt q o2 ho2 e he hb
          have hlq : listed.getD q false = false := by
            cases hc : listed.getD q false with
            | false => rfl
            | true => have h5 := hcl q o2 ho2 hc e he hb; dsimp only at h5; rw [heq, hun'] at h5; cases h5
          simp only [hlq]
          rw [decide_eq_false (by omega)]
    have hev : execOp a.eval o = execOp (ev (mk (Lx l os (vs r) i) j)) o := by
      refine execOp_congr o (Region.noSelect_spec hd.sel i o · · ho) fun x hx => ?_
      rw [ha.eval]
      cases x with
      | tmp t => exact hlook t (List.mem_append_left _ (List.mem_filterMap.2 ⟨.tmp t, by simpa using hx, rfl⟩))
      | const v => rfl
      | global g => rfl
      | func f => rfl
    have hwant : Region.wanted o (yielded os.toArray a.tmps) = wantE o os.toArray (mk (Lx l os (vs r) i) j) := by
      rw [wantE_ok ha]
      unfold wantE
      cases hg : o.guard with
      | none => rfl
      | some gw =>
        obtain ⟨g, want⟩ := gw
        dsimp only
        congr 1
        unfold gv
        cases hb : (os.toArray[g]?).bind (·.dst) with
        | none => rfl
        | some d => dsimp only; rw [hlook d (by simp only [Oper.looksAt, hg, hb]; simp)]
    have hset : (fun q => (listed.setIfInBounds i true).getD q false) = sset (fun q => listed.getD q false) i := by
      funext q
      by_cases e : q = i
      · subst e; rw [sset_self]; simp [hi']
      · rw [sset_ne _ e, getD_set_ne _ (Ne.symm e)]
    have hdin : din n o.dst = true := by
      by_cases e : i = k0
      · subst e; exact (hk r o ho').1
      · exact (hf r i o ho' e).1
    have next : ∀ r' w1 H1 M1, (r' = r ∨ i = k0) → Has w0 w1 H1 M1 → I r' (sset (fun q => listed.getD q false) i) H1 M1 → wpAny P .any os.toArray Q fuel (listed.setIfInBounds i true) (a.put o.dst (vs r' i)) w1 := by
      intro r' w1 H1 M1 hr' hh1 hI1
      refine ih r' _ _ _ H1 M1 (by simpa using hs) (by have := count_set hun; omega) ?_ ?_ hh1 (by rw [hset]; exact hI1)
      · intro q o2 ho2 hq e he hb
        by_cases e' : q = i
        · subst e'
          rw [ho'] at ho2; cases ho2
          exact getD_set_true (hdep e he hb)
        · rw [getD_set_ne _ (Ne.symm e')] at hq
          exact getD_set_true (hcl q o2 ho2 hq e he hb)
      · rw [hset, ← ES_put hd _ _ _ ho']
        have hES : ES os (mk l j) (vs r') (fun q => listed.getD q false) = ES os (mk l j) (vs r) (fun q => listed.getD q false) := by
          rcases hr' with rfl | rfl
          · rfl
          · funext t
            unfold ES
            cases hq : widx t 0 os with
            | none => rfl
            | some q =>
              obtain ⟨_, o2, ho2, hd2⟩ := widx_spec hq
              rw [Nat.sub_zero] at ho2
              rcases Nat.lt_trichotomy q i with h | h | h
              · simp only [hind r' r q o2 t h ho2 hd2]
              · subst h; simp only [hun', cond_false]
              · have hlq : listed.getD q false = false := by
                  cases hc : listed.getD q false with
                  | false => rfl
                  | true =>
                    obtain ⟨e, he, hb, heq⟩ := nowEdge_spec (hlate q o2 ho2 h)
                    have h5 := hcl q o2 ho2 hc e he hb
                    dsimp only at h5; rw [heq, hun'] at h5; cases h5
                simp only [hlq, cond_false]
        rw [hES]
        exact ha.put _ _ (din_ok hdin)
    by_cases ek : i = k0
    · subst ek
      obtain ⟨_, hw, hstep⟩ := hk r o ho'
      unfold wpOp
      rw [ho]
      dsimp only
      rw [hwant, hw j, if_pos rfl]
      refine .inl ?_
      unfold Oper.wp
      rw [hev]
      obtain ⟨nx, w1, hrun, hnx⟩ := hstep j (fun q => listed.getD q false) H M (fun e he hb => hdep e he hb) hun' (fun q hq => by
        cases hc : listed.getD q false with
        | false => rfl
        | true =>
          have hql : q < os.length := by
            rcases Nat.lt_or_ge q os.length with h | h
            · exact h
            · have : listed[q]? = none := Array.getElem?_eq_none (by omega)
              simp [this] at hc
          obtain ⟨e, he, hb, heq⟩ := nowEdge_spec (hlate q os[q] (List.getElem?_eq_getElem hql) hq)
          have h5 := hcl q os[q] (List.getElem?_eq_getElem hql) hc e he hb
          dsimp only at h5; rw [heq, hun'] at h5; cases h5) hI w0 w hh
      rw [hrun]
      cases nx with
      | value v =>
        obtain ⟨H1, M1, hh1, r', rfl, hI1⟩ := hnx
        exact next r' w1 H1 M1 (.inr rfl) hh1 hI1
      | skip =>
        obtain ⟨H1, M1, hh1, r', hv, hI1⟩ := hnx
        have := next r' w1 H1 M1 (.inr rfl) hh1 hI1
        rw [← hv] at this; exact this
      | enter f args =>
        refine Calls.mono hnx fun e w2 ⟨v, H1, M1, he, hh1, r', hv, hI1⟩ => ?_
        subst he; subst hv
        exact next r' w2 H1 M1 (.inr rfl) hh1 hI1
      | _ => exact hnx.elim
    obtain ⟨_, hfact⟩ := hf r i o ho' ek
    unfold wpOp
    rw [ho]
    dsimp only
    rcases hfact with ⟨hw, hstep⟩ | ⟨hw, hv, hst⟩
    · rw [hwant, hw j, if_pos rfl]
      refine .inl ?_
      unfold Oper.wp
      rw [hev]
      obtain ⟨nx, w1, hrun, hnx⟩ := hstep j (fun q => listed.getD q false) H M (fun e he hb => hdep e he hb) hun' hI w0 w hh
      rw [hrun]
      cases nx with
      | value v =>
        obtain ⟨H1, M1, hh1, rfl, hI1⟩ := hnx
        exact next r w1 H1 M1 (.inl rfl) hh1 hI1
      | skip =>
        obtain ⟨H1, M1, hh1, hv, hI1⟩ := hnx
        have := next r w1 H1 M1 (.inl rfl) hh1 hI1
        rw [← hv] at this; exact this
      | enter f args =>
        refine Calls.mono hnx fun e w2 ⟨v, H1, M1, he, hh1, hv, hI1⟩ => ?_
        subst he; subst hv
        exact next r w2 H1 M1 (.inl rfl) hh1 hI1
      | _ => exact hnx.elim
    · rw [hwant, hw j, if_neg (by simp)]
      have := next r w H M (.inl rfl) hh (hst _ H M hI)
      rw [hv] at this; exact this
end
theorem Lx_inj {os : List Oper} {l : List (Nat × Value)} {vs vs' : Nat → Value} : ∀ {k : Nat}, Lx l os vs k = Lx l os vs' k → ∀ i o d, i < k → os[i]? = some o → o.dst = some d → vs i = vs' i
  | 0, _, i, _, _, hi, _, _ => by omega
  | k + 1, h, i, o, d, hi, ho, hd => by
    simp only [Lx] at h
    cases hk : (os[k]?).bind (·.dst) with
    | none =>
      rw [hk] at h
      by_cases e : i = k
      · subst e; rw [ho] at hk; simp [hd] at hk
      · exact Lx_inj (k := k) h i o d (by omega) ho hd
    | some d' =>
      rw [hk] at h
      simp only [putl, List.cons.injEq, Prod.mk.injEq, true_and] at h
      by_cases e : i = k
      · subst e; exact h.1
      · exact Lx_inj (k := k) h.2 i o d (by omega) ho hd
theorem Lx_congr {os : List Oper} {l : List (Nat × Value)} {vs vs' : Nat → Value} : ∀ {k : Nat}, (∀ i, i < k → vs i = vs' i) → Lx l os vs k = Lx l os vs' k
  | 0, _ => rfl
  | k + 1, h => by simp only [Lx]; rw [Lx_congr fun i hi => h i (by omega), h k (by omega)]
theorem Lx_take {os : List Oper} {l : List (Nat × Value)} {vs : Nat → Value} {m : Nat} : ∀ {k : Nat}, k ≤ m → Lx l (os.take m) vs k = Lx l os vs k
  | 0, _ => rfl
  | k + 1, h => by
    simp only [Lx]
    rw [Lx_take (by omega), List.getElem?_take, if_pos (by omega)]
theorem Lx_drop {os : List Oper} {l : List (Nat × Value)} {vs : Nat → Value} (m : Nat) : ∀ (k : Nat), Lx (Lx l os vs m) (os.drop m) (fun i => vs (m + i)) k = Lx l os vs (m + k)
  | 0 => rfl
  | k + 1 => by
    rw [show m + (k + 1) = (m + k) + 1 by omega]
    simp only [Lx]
    rw [Lx_drop m k, List.getElem?_drop]
def lateB (os : List Oper) (k0 : Nat) : Bool := (List.range os.length).all fun i => Nat.ble i k0 || match os[i]? with | some o => nowEdge o k0 | none => true
/-- a region that draws and that makes one block: operation number k0; r: where that lies -/
theorem run_drawA {P : Program} {f : FuncId} {n : Nat} {R : Post} {k : List It} {l lm : List (Nat × Value)} {l2 : Nat → List (Nat × Value)} {H M : Heap} {id : Nat} {ops : List Oper} (k0 : Nat) (I : Nat → (Nat → Bool) → Heap → Heap → Prop) {o : Oper} {d : Nat} (ob : Obj)
    (hmx : P.follows .mixedOrders = true) (hB : drawB ops = true) (hL : lateB ops k0 = true) (ho : ops[k0]? = some o) (hod : o.dst = some d) (hdn : Nat.blt d n = true) (hw : ∀ j, wantE o ops.toArray (mk lm j) = true)
    (hx : ∀ j, (cstNew P (execOp (ev (mk lm j)) o)).map (fun x => (x.1, fun r => cst P (x.2 r))) = some (ob, fun r => some (.value (.pointer (some ⟨r, 0, none⟩)))))
    (h0 : ∃ r, I r (fun _ => false) H M) (hq : ∀ r, QC P n ops.toArray (I r) 0 (ops.take k0) l lm)
    (hnew : ∀ r S H M, S k0 = false → (∀ q, k0 < q → S q = false) → I r S H M → ∀ r' M', M' r' = some ob → New M r' M' → I r' (sset S k0) H M')
    (hr : ∀ r, QC P n ops.toArray (I r) (k0 + 1) (ops.drop (k0 + 1)) ((d, .pointer (some ⟨r, 0, none⟩)) :: lm) (l2 r))
    (h : ∀ r H' M', I r (fun q => decide (q < ops.length)) H' M' → Run P f n R k (l2 r) H' M') : Run P f n R (.code (.region id ops.toArray true) :: k) l H M := by
  intro j w0 w a b cs k' hk hh ha hf hn
  have hd := drawB_spec hB
  have hk0 : k0 < ops.length := (List.getElem?_eq_some_iff.1 ho).1
  have hvA : ∀ r, ∃ vs : Nat → Value, Lx l ops vs k0 = lm ∧ ∀ i o, i < k0 → ops[i]? = some o → Fact P n ops.toArray (I r) i o (Lx l ops vs i) (vs i) := by
    intro r
    obtain ⟨vs, h1, h2⟩ := (hq r).vals
    have hlen : (ops.take k0).length = k0 := by rw [List.length_take]; omega
    refine ⟨vs, by rw [hlen, Lx_take (Nat.le_refl _)] at h1; exact h1, fun i o hi hio => ?_⟩
    have := h2 i o (by rw [List.getElem?_take, if_pos hi]; exact hio)
    rwa [Nat.zero_add, Lx_take (by omega)] at this
  have hvB : ∀ r, ∃ vs : Nat → Value, Lx ((d, .pointer (some ⟨r, 0, none⟩)) :: lm) (ops.drop (k0 + 1)) vs (ops.length - (k0 + 1)) = l2 r ∧ ∀ i o, ops[k0 + 1 + i]? = some o → Fact P n ops.toArray (I r) (k0 + 1 + i) o (Lx ((d, .pointer (some ⟨r, 0, none⟩)) :: lm) (ops.drop (k0 + 1)) vs i) (vs i) := by
    intro r
    obtain ⟨vs, h1, h2⟩ := (hr r).vals
    exact ⟨vs, by rw [List.length_drop] at h1; exact h1, fun i o hio => h2 i o (by rw [List.getElem?_drop]; exact hio)⟩
  let va := fun r => (hvA r).choose
  have va_spec := fun r => (hvA r).choose_spec
  let vb := fun r => (hvB r).choose
  have vb_spec := fun r => (hvB r).choose_spec
  let vs : Nat → Nat → Value := fun r i => if i < k0 then va r i else if i = k0 then .pointer (some ⟨r, 0, none⟩) else vb r (i - (k0 + 1))
  have vsA : ∀ r i, i < k0 → vs r i = va r i := fun r i hi => if_pos hi
  have vsK : ∀ r, vs r k0 = .pointer (some ⟨r, 0, none⟩) := fun r => by show (if k0 < k0 then _ else _) = _; rw [if_neg (by omega), if_pos rfl]
  have vsB : ∀ r i, vs r (k0 + 1 + i) = vb r i := fun r i => by
    show (if k0 + 1 + i < k0 then _ else _) = _
    rw [if_neg (by omega), if_neg (by omega), show k0 + 1 + i - (k0 + 1) = i by omega]
  have lxA : ∀ r i, i ≤ k0 → Lx l ops (vs r) i = Lx l ops (va r) i := fun r i hi => Lx_congr fun q hq => vsA r q (by omega)
  have lxK : ∀ r, Lx l ops (vs r) k0 = lm := fun r => by rw [lxA r k0 (Nat.le_refl _)]; exact (va_spec r).1
  have lxK1 : ∀ r, Lx l ops (vs r) (k0 + 1) = (d, .pointer (some ⟨r, 0, none⟩)) :: lm := fun r => by
    show putl (Lx l ops (vs r) k0) _ _ = _
    rw [lxK, vsK, ho]; simp only [Option.bind_some, hod, putl]
  have lxB : ∀ r i, Lx l ops (vs r) (k0 + 1 + i) = Lx ((d, .pointer (some ⟨r, 0, none⟩)) :: lm) (ops.drop (k0 + 1)) (vb r) i := fun r i => by
    rw [← Lx_drop (k0 + 1) i, lxK1]
    exact congrArg (fun v => Lx _ _ v i) (funext fun q => vsB r q)
  have hf2 : ∀ r i o, ops[i]? = some o → i ≠ k0 → Fact P n ops.toArray (I r) i o (Lx l ops (vs r) i) (vs r i) := by
    intro r i o hio hne
    rcases Nat.lt_or_gt_of_ne hne with h1 | h1
    · rw [lxA r i (by omega), vsA r i h1]; exact (va_spec r).2 i o h1 hio
    · obtain ⟨q, rfl⟩ : ∃ q, i = k0 + 1 + q := ⟨i - (k0 + 1), by omega⟩
      rw [lxB, vsB]; exact (vb_spec r).2 q o hio
  have hind : ∀ r r' i o d, i < k0 → ops[i]? = some o → o.dst = some d → vs r i = vs r' i := fun r r' i o d hi hio hdd =>
    Lx_inj (k := k0) (by rw [lxK, lxK]) i o d hi hio hdd
  have hlate : ∀ i o, ops[i]? = some o → k0 < i → nowEdge o k0 = true := by
    intro i o hio hlt
    unfold lateB at hL
    have := List.all_eq_true.1 hL i (List.mem_range.2 (List.getElem?_eq_some_iff.1 hio).1)
    rw [hio] at this
    simp only [Bool.or_eq_true] at this
    exact this.resolve_left (fun c => by have := Nat.le_of_ble_eq_true c; omega)
  obtain ⟨r0, hI0⟩ := h0
  cases hk with
  | @code _ _ k1 hk =>
    have hz : (fun q => (Array.replicate ops.toArray.size false).getD q false) = fun _ => false := by
      funext q; simp only [Array.getD_eq_getD_getElem?, Array.getElem?_replicate]; split <;> rfl
    have h1 := wp_region_any (P := P) (id := id) (ops := ops.toArray) (Q := fun e a' w' => e = .normal ∧ ∃ r H' M', Agr n a' (mk (l2 r) j) ∧ Has w0 w' H' M' ∧ I r (fun q => decide (q < ops.length)) H' M') (a := a) (w := w) hmx
      (draw_anyR hd k0 vs j w0 _ hf2 (fun r o' ho' => by
          rw [ho] at ho'; cases ho'
          refine ⟨by rw [hod]; exact hdn, fun j => by rw [lxK]; exact hw j, fun j S H M _ hS hlt hI => ?_⟩
          rw [lxK]
          intro w0 w hh
          have hx := hx j
          cases hq : cstNew P (execOp (ev (mk lm j)) o) with
          | none => rw [hq] at hx; cases hx
          | some p =>
            obtain ⟨o', kk⟩ := p
            rw [hq] at hx
            simp only [Option.map_some, Option.some.injEq, Prod.mk.injEq] at hx
            obtain ⟨rfl, hkk⟩ := hx
            refine ⟨.value (.pointer (some ⟨w.heap.size, 0, none⟩)), { w with heap := w.heap.push o' }, by rw [cstNew_run _ hq]; exact cst_run _ (congrFun hkk w.heap.size) _, H, _, hh.push o', w.heap.size, (vsK _).symm, ?_⟩
            exact hnew r S H M hS hlt hI _ _ (upd_same _ _ _) (New.of hh.fresh o'))
        hind hlate (fun r a' w' H' M' ha' hh' hI' => ⟨rfl, r, H', M', by
          have : Lx l ops (vs r) ops.length = l2 r := by
            have e := lxB r (ops.length - (k0 + 1))
            rw [show k0 + 1 + (ops.length - (k0 + 1)) = ops.length by omega] at e
            rw [e]; exact (vb_spec r).1
          rw [← this]; exact ha', hh', hI'⟩) _ r0 _ _ _ H M (by simp) (by simp) (by
          intro i o _ hc
          have := congrFun hz i
          rw [this] at hc; cases hc) (by
          rw [hz]
          have : ES ops (mk l j) (vs r0) (fun _ => false) = mk l j := by
            funext t; unfold ES; cases widx t 0 ops <;> rfl
          rw [this]; exact ha) hh.drew (by rw [hz]; exact hI0))
    obtain ⟨e, a', w1, ⟨rfl, r, H', M', ha', hw1, hI'⟩, harr⟩ := h1 b k1 cs
    obtain ⟨v, w', fr, hst, rr⟩ := h r H' M' hI' j w0 w1 a' b cs k1 hk hw1 ha' hf hn
    exact ⟨v, w', fr, Steps.trans harr hst, rr⟩
end Go.Cam
/- From a walk over known blocks to what a row of the law asks. -/
namespace Go.Cam
open Go.ChangeShapes Go.WideShapes Go.ChangeAt Go.RowKit
/-- the blocks of a world, held -/
def held (W : World) : Heap := fun b => W.heap[b]?
def nil : Heap := fun _ => none
theorem Has.start (W : World) : Has W W (held W) nil :=
  ⟨rfl, rfl, rfl, Nat.le_refl _, fun _ _ h => h, fun _ _ h => (nomatch h), fun _ _ => rfl⟩
theorem below_of {P : Program} {f : FuncId} {args : Array Value} {W : World} {V : Value} {X : Heap → Prop} (h : ACalls P f args (held W) nil (fun v H' M' => v = V ∧ H' = held W ∧ X M')) :
    Calls P f args W (fun e W' => e = .returned V ∧ Below W.heap.size W W') := by
  refine (h W W (Has.start W)).mono fun e W' ⟨v, H', M', he, hh, hv, hH, _⟩ => ?_
  subst he; subst hv; subst hH
  refine ⟨rfl, hh.os, hh.tape, hh.output, hh.size, fun k hk => ?_⟩
  have : W.heap[k]? = some W.heap[k] := Array.getElem?_eq_getElem hk
  rw [this]
  exact hh.h k _ this
section
variable {H : Type} {enc : TypeId × Value → H} {P : Program}
theorem trodAll_below (hl : laidOutB P = true) {W W' : World} (hb : Below W.heap.size W W') : ∀ {ts : List TypeId} {vs : List Value} {ds : List (DataW H)} {ps : List MemPlace}, ts.all (fun t => P.readableRec t && decide (t < P.types.size)) = true →
    DataW.TrodAll enc P W 0 (fun _ => true) true ts vs ds ps → (∀ x ∈ ps, x.block < W.heap.size) → DataW.TrodAll enc P W' 0 (fun b => decide (b < W.heap.size)) true ts vs ds ps
  | [], vs, ds, ps, _, h, _ => by
    obtain ⟨rfl, rfl, rfl⟩ := trodAll_nil h
    exact h
  | t :: ts, vs, ds, ps, hr, h, hlt => by
    simp only [List.all_cons, Bool.and_eq_true, decide_eq_true_eq] at hr
    obtain ⟨v, vs', d, ds', p, q, rfl, rfl, rfl, h1, h2⟩ := trodAll_cons h
    exact trodAll_cons_mk (Below.trod hl hr.1.1 hr.1.2 h1 hb fun x hx => hlt x (by simp [hx])) (trodAll_below hl hb hr.2 h2 fun x hx => hlt x (by simp [hx]))
/-- the law answers true, and what it was handed reads as it did -/
theorem law_post {f : Func} {s : ChangeSpec} {W W' : World} {args : Array Value} {ds gs : List (DataW H)} {before : List MemPlace} {tb : TypeId} (hl : laidOutB P = true) (hr : f.params.toList.all (fun t => P.readableRec t && decide (t < P.types.size)) = true)
    (hv : s.vars = []) (hf : (s.fn H (ds ++ gs)).results = [.lit (.bool true)] ∧ (s.fn H (ds ++ gs)).args = ds ∧ (s.fn H (ds ++ gs)).vars = []) (hrt : f.resultTypes = #[tb]) (htb : P.underlying tb = some .bool)
    (hW : DataW.Whole enc P f.params.toList s.vars false W args.toList ds gs before) (hb : Below W.heap.size W W') : s.post enc P f false true false false W args (.bool true) W' := by
  have hW' := hW
  obtain ⟨p, q, hA, hV, rfl, _, _⟩ := hW
  rw [hv] at hV
  obtain ⟨rfl, rfl⟩ := trodVars_none hV
  have hlt : ∀ x ∈ p, x.block < W.heap.size := fun x hx => by simpa using hW'.lt x (by simp [hx])
  refine ⟨ds, [], p ++ [], [], p, [], hW', ?_, ?_, ?_, hb.frame _, fun h => by cases h⟩
  · rw [hf.1, hrt]
    exact trodAll_cons_mk (shut_bool htb _) trodAll_mk0
  · rw [hf.2.1]
    exact trodAll_below hl hb hr hA hlt
  · rw [hf.2.2, hv]; exact rfl
end
end Go.Cam
/- Regions that draw, walked in an order of one's own; slices of slices. -/
namespace Go.Cam
def permTake (os : Array Oper) : List Nat → Array Bool → Option (Array Bool)
  | [], listed => some listed
  | i :: r, listed => if (Region.ready .any os listed).contains i && Region.free .any os listed i && Nat.blt i os.size then permTake os r (listed.setIfInBounds i true) else none
def permOnly (os : Array Oper) : List Nat → Array Bool → Bool
  | [], listed => (Region.ready .any os listed).isEmpty
  | i :: r, listed => Region.ready .any os listed == [i] && Nat.blt i os.size && permOnly os r (listed.setIfInBounds i true)
def permB (os : List Oper) (p1 p2 : List Nat) : Bool :=
  Region.noSelect os.toArray && Nat.beq (p1.length + p2.length) os.length && match permTake os.toArray p1 (Array.replicate os.length false) with
    | some listed => permOnly os.toArray p2 listed
    | none => false
def pick (os : List Oper) : List Nat → List Oper
  | [] => []
  | i :: r => match os[i]? with
    | some o => o :: pick os r
    | none => pick os r
section
variable {P : Program} {n : Nat} {os : List Oper}
theorem perm_only (Q : Exit → Act → World → Prop) :
    ∀ (p2 : List Nat) (listed : Array Bool) (a : Act) (w : World), permOnly os.toArray p2 listed = true → wpList P os.toArray Q (pick os p2) a w → wpAny P .any os.toArray Q p2.length listed a w
  | [], listed, a, w, hp, h => ⟨by simpa [permOnly] using hp, h⟩
  | i :: r, listed, a, w, hp, h => by
    simp only [permOnly, Bool.and_eq_true, beq_iff_eq] at hp
    obtain ⟨⟨hr, hi⟩, hp⟩ := hp
    have hlt : i < os.length := by simpa using hi
    have ho : os[i]? = some os[i] := List.getElem?_eq_getElem hlt
    refine wpAny_all hr (by simp) fun i' hi' => ?_
    rw [List.mem_singleton.1 hi']
    rw [show pick os (i :: r) = os[i] :: pick os r by simp [pick, ho]] at h
    unfold wpList at h
    unfold wpOp
    rw [show os.toArray[i]? = some os[i] by simp [hlt]]
    dsimp only
    by_cases hw : Region.wanted os[i] (yielded os.toArray a.tmps) = true
    · rw [if_pos hw] at h ⊢
      exact h.imp (Oper.wp_mono fun a w h => perm_only Q r _ a w hp h) id
    · rw [if_neg hw] at h ⊢
      exact perm_only Q r _ _ w hp h
theorem perm_take {l2 : List (Nat × Value)} (Q : Exit → Act → World → Prop) (hQ : ∀ c a w, ¬ Q (.panic c) a w) (hs : Region.noSelect os.toArray = true) (j : Nat → Value) (m : Nat) (listed2 : Array Bool) :
    ∀ (p1 : List Nat) (l : List (Nat × Value)) (listed : Array Bool) (a : Act) (w : World), permTake os.toArray p1 listed = some listed2 → QL P n os.toArray nil nil (pick os p1) l l2 → Agr n a (mk l j) →
      (∀ a', Agr n a' (mk l2 j) → wpAny P .any os.toArray Q m listed2 a' w) → wpAny P .any os.toArray Q (p1.length + m) listed a w
  | [], l, listed, a, w, hp, hq, ha, h => by
    simp only [permTake, Option.some.injEq] at hp
    subst hp
    rw [show ([] : List Nat).length + m = m by simp]
    cases hq
    exact h a ha
  | i :: r, l, listed, a, w, hp, hq, ha, h => by
    unfold permTake at hp
    split at hp
    · rename_i hc
      simp only [Bool.and_eq_true] at hc
      obtain ⟨⟨hr, hf⟩, hi⟩ := hc
      have hlt : i < os.length := by simpa using hi
      have ho : os[i]? = some os[i] := List.getElem?_eq_getElem hlt
      rw [show pick os (i :: r) = os[i] :: pick os r by simp [pick, ho]] at hq
      have hw0 : ∀ w : World, Has w w nil nil := fun w => ⟨rfl, rfl, rfl, Nat.le_refl _, fun _ _ h => (nomatch h), fun _ _ h => (nomatch h), fun _ h => absurd rfl h⟩
      rw [show (i :: r).length + m = (r.length + m) + 1 by simp; omega]
      cases hq with
      | yes v hd hw hqs hq =>
        refine wpAny_take (oi := os[i]) (v := v) (by simp [hlt]) hs hf hr (fun c a w h => absurd h (hQ _ _ _)) (.inl ⟨by rw [wantE_ok ha, hw j], fun w => ?_⟩) ?_
        · rw [ha.eval]; exact hqs j w w (hw0 w)
        · exact perm_take Q hQ hs j m listed2 r _ _ _ w hp hq (by rw [← putl_ok]; exact ha.put _ _ (din_ok hd)) h
      | no hd hw hq =>
        refine wpAny_take (oi := os[i]) (v := undef) (by simp [hlt]) hs hf hr (fun c a w h => absurd h (hQ _ _ _)) (.inr ⟨by rw [wantE_ok ha, hw j], rfl⟩) ?_
        exact perm_take Q hQ hs j m listed2 r _ _ _ w hp hq (by rw [← putl_ok]; exact ha.put _ _ (din_ok hd)) h
    · cases hp
end
/-- a region that draws, walked in an order of one's own: p1: what looks at no memory; p2: the others, of which only one may ever come up -/
theorem run_perm {P : Program} {f : FuncId} {n : Nat} {R : Post} {k : List It} {l l2 : List (Nat × Value)} {H M : Heap} {id : Nat} {ops : List Oper} (p1 p2 : List Nat) (hmx : P.follows .mixedOrders = true) (hB : permB ops p1 p2 = true)
    (hq : QL P n ops.toArray nil nil (pick ops p1) l l2) (ht : TL P n ops.toArray (pick ops p2) l2 H M (fun l' H' M' => Run P f n R k l' H' M')) : Run P f n R (.code (.region id ops.toArray true) :: k) l H M := by
  intro j w0 w a b cs k' hk hh ha hf hn
  unfold permB at hB
  simp only [Bool.and_eq_true] at hB
  obtain ⟨⟨hs, hlen⟩, hB⟩ := hB
  replace hlen := Nat.eq_of_beq_eq_true hlen
  cases hp : permTake ops.toArray p1 (Array.replicate ops.length false) with
  | none => rw [hp] at hB; cases hB
  | some listed2 =>
    rw [hp] at hB
    cases hk with
    | @code _ _ k1 hk =>
      let Q : Exit → Act → World → Prop := fun e a' w' => e = .normal ∧ ∃ l' H' M', Agr n a' (mk l' j) ∧ Has w0 w' H' M' ∧ Run P f n R k l' H' M'
      have h1 := wp_region_any (P := P) (id := id) (ops := ops.toArray) (Q := Q) (a := a) (w := w) hmx (by
        have := perm_take (n := n) (l2 := l2) Q (fun c a w h => by cases h.1) hs j p2.length listed2 p1 l (Array.replicate ops.length false) a { w with drawn := w.drawn + 1 } hp hq ha
          (fun a' ha' => perm_only Q p2 listed2 a' _ hB (ht j w0 _ a' hh.drew ha'))
        rw [hlen] at this
        simpa using this)
      obtain ⟨e, a', w1, ⟨rfl, l', H', M', ha', hw1, hgo⟩, harr⟩ := h1 b k1 cs
      obtain ⟨v, w', fr, hst, r⟩ := hgo j w0 w1 a' b cs k1 hk hw1 ha' hf hn
      exact ⟨v, w', fr, Steps.trans harr hst, r⟩
end Go.Cam
/- Slices of slices; slices that begin empty; append within a tail. -/
namespace Go.Cam
/-- the bounds as they are written -/
def loB (e : Nat → Value) (lo : Option Operand) (l : Nat) : Prop := match lo with | none => l = 0 | some y => ∃ k, ev e y = .int k l
def hiB (e : Nat → Value) (hi : Option Operand) (len h : Nat) : Prop := match hi with | none => h = len | some y => ∃ k, ev e y = .int k h
section
variable {P : Program} {H M : Heap}
theorem cst_sliceBound {v : Value} {k : IntKind} {i y : Nat} {code : BoundsCode} (hv : v = .int k i) (h : i ≤ y) : cst P (Instr.sliceBound v y code) = some i := by
  subst hv
  unfold Instr.sliceBound
  rw [cst_bind (show cst P (asIntOf (.int k (i : Int))) = some (k, (i : Int)) from rfl)]
  dsimp only
  rw [if_pos (by omega)]
  simp [cst, pure]
theorem qs_slc {d : Option Nat} {oty : TypeId} {pos : String} {af : Array Edge} {g : Option (Nat × Bool)} {t : TypeId} {x : Operand} {lo hi : Option Operand} {e : Nat → Value} {b off len cap el sz : Nat} (l h : Nat) [sc : SC P t el] [hs : SZ P el sz]
    (hx : ev e x = .slice (some ⟨b, off, none⟩) len cap) (hlo : loB e lo l) (hhi : hiB e hi len h) (hlen : len ≤ cap) (hl : l ≤ h) (hh : h ≤ cap) :
    Qs P ⟨d, .slice t x lo hi none, oty, pos, af, g⟩ e H M (.slice (some ⟨b, if cap = l then off else off + l * sz, none⟩) (h - l) (cap - l)) := by
  refine qt_exec (s := Instr.sliceAt t (ev e x) (lo.map (ev e)) (hi.map (ev e)) none) (by unfold execOp; rfl) fun w0 w _ => ?_
  refine cst_run _ ?_ w
  rw [hx]
  unfold Instr.sliceAt
  rw [cst_bind sc.h]
  dsimp only
  unfold Instr.slice
  rw [cst_bind sc.h]
  dsimp only
  have hb : cst P (Instr.sliceBounds true len cap (lo.map (ev e)) (hi.map (ev e)) none) = some (l, h, cap) := by
    unfold Instr.sliceBounds
    cases lo with
    | none =>
      simp only [loB] at hlo
      subst hlo
      cases hi with
      | none => simp only [hiB] at hhi; subst hhi; rfl
      | some y =>
        obtain ⟨k, hy⟩ := hhi
        simp only [Option.map_none, Option.map_some, pure_bind]
        rw [cst_bind (cst_sliceBound hy hh)]; rfl
    | some z =>
      obtain ⟨k', hz⟩ := hlo
      cases hi with
      | none =>
        simp only [hiB] at hhi
        subst hhi
        simp only [Option.map_none, Option.map_some, pure_bind]
        rw [cst_bind (cst_sliceBound hz hl)]; rfl
      | some y =>
        obtain ⟨k, hy⟩ := hhi
        simp only [Option.map_some, pure_bind]
        rw [cst_bind (cst_sliceBound hy hh), cst_bind (cst_sliceBound hz hl)]; rfl
  rw [cst_bind hb]
  dsimp only
  rw [cst_bind hs.h]
  by_cases hc : cap = l
  · rw [if_pos hc, if_pos hc]; rfl
  · rw [if_neg hc, if_neg hc]; simp only [Option.map_some, addr_add]; rfl
end
section
variable {P : Program} {f : FuncId} {n : Nat} {R : Post} {k : List It} {l l2 : List (Nat × Value)} {H M : Heap} {all : Array Oper} {rest : List Oper} {K : List (Nat × Value) → Heap → Heap → Prop}
theorem run_slc {d : Nat} {oty : TypeId} {pos : String} {af : Array Edge} {g : Option (Nat × Bool)} {t : TypeId} {x : Operand} {lo hi : Option Operand} {b off len cap el sz : Nat} (p q : Nat) [SC P t el] [SZ P el sz] (hd : Nat.blt d n = true) (hw : ∀ j, wantE ⟨some d, .slice t x lo hi none, oty, pos, af, g⟩ all (mk l j) = true)
    (hx : ∀ j, ev (mk l j) x = .slice (some ⟨b, off, none⟩) len cap) (hlo : ∀ j, loB (mk l j) lo p) (hhi : ∀ j, hiB (mk l j) hi len q) (hlen : len ≤ cap) (hl : p ≤ q) (hh : q ≤ cap)
    (h : ∀ off', (p < q → off' = off + p * sz) → off' ≤ off + p * sz → Run P f n R (.ops all rest :: k) ((d, .slice (some ⟨b, off', none⟩) (q - p) (cap - p)) :: l) H M) : Run P f n R (.ops all (⟨some d, .slice t x lo hi none, oty, pos, af, g⟩ :: rest) :: k) l H M :=
  run_qt _ (by exact hd) hw (fun j => (qs_slc p q (hx j) (hlo j) (hhi j) hlen hl hh).qt) (h _ (fun h => by rw [if_neg (by omega)]) (by split <;> omega))
/-- in a drawn region's looking part: where it lies is fixed beforehand -/
theorem ql_slc {d : Nat} {oty : TypeId} {pos : String} {af : Array Edge} {g : Option (Nat × Bool)} {t : TypeId} {x : Operand} {lo hi : Option Operand} {b off len cap el sz : Nat} (p q off' : Nat) [SC P t el] [SZ P el sz] (ho : (if cap = p then off else off + p * sz) = off') (hd : Nat.blt d n = true) (hw : ∀ j, wantE ⟨some d, .slice t x lo hi none, oty, pos, af, g⟩ all (mk l j) = true)
    (hx : ∀ j, ev (mk l j) x = .slice (some ⟨b, off, none⟩) len cap) (hlo : ∀ j, loB (mk l j) lo p) (hhi : ∀ j, hiB (mk l j) hi len q) (hlen : len ≤ cap) (hl : p ≤ q) (hh : q ≤ cap)
    (h : QL P n all H M rest ((d, .slice (some ⟨b, off', none⟩) (q - p) (cap - p)) :: l) l2) : QL P n all H M (⟨some d, .slice t x lo hi none, oty, pos, af, g⟩ :: rest) l l2 := by
  subst ho
  exact .yes _ (by exact hd) hw (fun j => qs_slc p q (hx j) (hlo j) (hhi j) hlen hl hh) h
theorem hm_bs0 {t el : Nat} [sc : SC P t el] {sz : Nat} [hs : SZ P el sz] {K : Value → Heap → Heap → Prop} (h : ∀ r, Fresh H M r → K (.slice (some ⟨r, 0, none⟩) 0 0) H (upd M r (.cells #[] el))) : hm P (Instr.buildSlice t 0 #[]) H M K := by
  unfold Instr.buildSlice
  refine hm_bind (hm_cst sc.h ?_)
  dsimp only
  refine hm_bind (hm_cst hs.h ?_)
  rw [if_neg (by omega), if_pos (by omega)]
  refine hm_bind (hm_pure ?_)
  have e1 : (Array.range (0 * sz)).map (fun x => (#[] : Array Value)[x % (#[] : Array Value).size]!) = #[] := by simp
  rw [e1]
  show hm P (newRow el #[] >>= fun a => pure (.slice (some a) 0 0)) H M K
  exact hm_bind (hm_newRow fun r hr => hm_pure (h r hr))
theorem run_bs0 {d : Nat} {oty : TypeId} {pos : String} {af : Array Edge} {g : Option (Nat × Bool)} {t el sz : Nat} [SC P t el] [SZ P el sz] (hd : Nat.blt d n = true) (hw : ∀ j, wantE ⟨some d, .buildSlice t 0 #[], oty, pos, af, g⟩ all (mk l j) = true)
    (h : ∀ r M1, M1 r = some (.cells #[] el) → New M r M1 → Run P f n R (.ops all rest :: k) ((d, .slice (some ⟨r, 0, none⟩) 0 0) :: l) H M1) : Run P f n R (.ops all (⟨some d, .buildSlice t 0 #[], oty, pos, af, g⟩ :: rest) :: k) l H M := by
  refine run_hm hd hw fun j => ?_
  have e1 : execOp (ev (mk l j)) ⟨some d, .buildSlice t 0 #[], oty, pos, af, g⟩ = (Instr.buildSlice t 0 ((#[] : Array (Nat × Operand)).map fun x => (x.1, ev (mk l j) x.2)) >>= fun v => pure (Next.value v)) := by unfold execOp; rfl
  rw [e1, Array.map_empty]
  exact hm_bind (hm_bs0 fun r hr => hm_pure ⟨_, .inl rfl, h r _ (upd_same _ _ _) (New.of hr _)⟩)
theorem tl_bs0 {d : Nat} {oty : TypeId} {pos : String} {af : Array Edge} {g : Option (Nat × Bool)} {t el sz : Nat} [SC P t el] [SZ P el sz] (hd : Nat.blt d n = true) (hw : ∀ j, wantE ⟨some d, .buildSlice t 0 #[], oty, pos, af, g⟩ all (mk l j) = true)
    (h : ∀ r M1, M1 r = some (.cells #[] el) → New M r M1 → TL P n all rest ((d, .slice (some ⟨r, 0, none⟩) 0 0) :: l) H M1 K) : TL P n all (⟨some d, .buildSlice t 0 #[], oty, pos, af, g⟩ :: rest) l H M K := by
  refine tl_hm hd hw fun j => ?_
  have e1 : execOp (ev (mk l j)) ⟨some d, .buildSlice t 0 #[], oty, pos, af, g⟩ = (Instr.buildSlice t 0 ((#[] : Array (Nat × Operand)).map fun x => (x.1, ev (mk l j) x.2)) >>= fun v => pure (Next.value v)) := by unfold execOp; rfl
  rw [e1, Array.map_empty]
  exact hm_bind (hm_bs0 fun r hr => hm_pure ⟨_, .inl rfl, h r _ (upd_same _ _ _) (New.of hr _)⟩)
theorem execOp_app (e : Nat → Value) {d : Option Nat} {pos : String} {af : Array Edge} {g : Option (Nat × Bool)} {t : TypeId} {p q : Operand} : execOp (ev e) ⟨d, .call ⟨.builtin .append, #[p, q], #[t, t]⟩, t, pos, af, g⟩ = (Builtin.append_ #[t, t] t #[ev e p, ev e q] >>= fun v => pure (Next.value v)) := by
  show (resolve (ev e) ⟨.builtin .append, #[p, q], #[t, t]⟩ t >>= fun d => invoke d.target d.args) = _
  have : #[p, q].map (ev e) = #[ev e p, ev e q] := by simp
  unfold resolve
  dsimp only
  rw [this]; rfl
theorem tl_app {d : Nat} {pos : String} {af : Array Edge} {g : Option (Nat × Bool)} {t e sz bytes m c : Nat} [SL P t e sz bytes] {p q : Operand} {s : Value} {xs : List Value} (ys : List Value) {bx offx : Nat} {cx : Array Value} {tx : TypeId} {fx : Nat × Nat} (hd : Nat.blt d n = true)
    (hw : ∀ j, wantE ⟨some d, .call ⟨.builtin .append, #[p, q], #[t, t]⟩, t, pos, af, g⟩ all (mk l j) = true) (hp : ∀ j, ev (mk l j) p = s) (hq : ∀ j, ev (mk l j) q = .slice (some ⟨bx, offx, none⟩) m c)
    (hown : Own M e sz s xs) (hx : Kn H M bx (.cells cx tx fx)) (hy : cx.extract offx (offx + m * sz) = ys.toArray) (hyl : offx + m * sz ≤ cx.size) (hys : ys.length = m * sz) (h1 : ys.all one = true)
    (hroom : (xs.length / sz + m + 512) * bytes ≤ 140737488355328) (h : ∀ v' M', Own M' e sz v' (xs ++ ys) → App M s M' v' → TL P n all rest ((d, v') :: l) H M' K) :
    TL P n all (⟨some d, .call ⟨.builtin .append, #[p, q], #[t, t]⟩, t, pos, af, g⟩ :: rest) l H M K := by
  refine tl_hm hd hw fun j => ?_
  rw [execOp_app, hp j, hq j]
  exact hm_bind (hm_app ys hown hx hy hyl hys h1 hroom fun v' M' ho ha => hm_pure ⟨v', .inl rfl, h v' M' ho ha⟩)
end
theorem own_nil {M : Heap} {r e sz : Nat} (h : M r = some (.cells #[] e (0, 0))) : Own M e sz (.slice (some ⟨r, 0, none⟩) 0 0) [] := .inr ⟨r, 0, 0, #[], rfl, by simp, by simp, Nat.le_refl _, h, rfl⟩
/-- a part of a row of cells, as a list -/
theorem extract_part {cs : Array Value} {xs : List Value} {N a m : Nat} (h : cs.toList.take N = xs) (hm : a + m ≤ N) : cs.extract a (a + m) = ((xs.drop a).take m).toArray := by
  apply Array.ext'
  rw [Array.toList_extract, List.extract_eq_take_drop, ← h, List.drop_take, List.take_take]
  congr 1
  omega
end Go.Cam
