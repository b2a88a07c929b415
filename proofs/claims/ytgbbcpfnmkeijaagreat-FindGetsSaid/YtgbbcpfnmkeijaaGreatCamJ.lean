/- Regions that draw their order, in general: what holds when a set of their operations is done. -/
import Derived.Test.YtgbbcpfnmkeijaaGreatCamF
import Derived.Orders
import Derived.WalkKit
namespace Go.Cam
def sset (S : Nat → Bool) (k : Nat) : Nat → Bool := fun i => bif Nat.beq i k then true else S i
theorem sset_self (S : Nat → Bool) (k : Nat) : sset S k k = true := by simp [sset]
theorem sset_ne (S : Nat → Bool) {k i : Nat} (h : i ≠ k) : sset S k i = S i := by simp [sset, beq_no h]
/-- the first operation that fills a slot -/
def widx (t : Nat) : Nat → List Oper → Option Nat
  | _, [] => none
  | k, o :: r => if o.dst = some t then some k else widx t (k + 1) r
theorem widx_spec {t : Nat} : ∀ {os : List Oper} {k q : Nat}, widx t k os = some q → k ≤ q ∧ ∃ o, os[q - k]? = some o ∧ o.dst = some t
  | [], k, q, h => by simp [widx] at h
  | o :: r, k, q, h => by
    unfold widx at h
    split at h
    · rename_i e; cases h; exact ⟨Nat.le_refl _, o, by simp, e⟩
    · obtain ⟨h1, o', h2, h3⟩ := widx_spec h
      refine ⟨by omega, o', ?_, h3⟩
      have : q - k = (q - (k + 1)) + 1 := by omega
      rw [this, List.getElem?_cons_succ]; exact h2
def nowEdge (o : Oper) (j : Nat) : Bool := o.after.any fun e => Region.binds .any e && Nat.beq e.on j
/-- the row of operations may be carried out in whatever order: each looks only at what stands when it comes up -/
def drawB (os : List Oper) : Bool :=
  Region.noSelect os.toArray && (List.range os.length).all fun i => match os[i]? with
    | none => true
    | some o => (o.after.all fun e => !Region.binds .any e || Nat.blt e.on i) && (match o.dst with | some t => widx t 0 os == some i | none => true) &&
        (o.looksAt os.toArray).all fun t => match widx t 0 os with
          | none => true
          | some q => Nat.beq q i || (nowEdge o q) || (match os[q]? with | some o' => nowEdge o' i | none => false)
structure Draw (os : List Oper) : Prop where
  sel : Region.noSelect os.toArray = true
  lt : ∀ i o, os[i]? = some o → ∀ e ∈ o.after, Region.binds .any e = true → e.on < i
  uniq : ∀ i o t, os[i]? = some o → o.dst = some t → widx t 0 os = some i
  look : ∀ i o, os[i]? = some o → ∀ t ∈ o.looksAt os.toArray, ∀ q, widx t 0 os = some q → q = i ∨ (∃ e ∈ o.after, Region.binds .any e = true ∧ e.on = q) ∨ ∃ o', os[q]? = some o' ∧ ∃ e ∈ o'.after, Region.binds .any e = true ∧ e.on = i
theorem nowEdge_spec {o : Oper} {j : Nat} (h : nowEdge o j = true) : ∃ e ∈ o.after, Region.binds .any e = true ∧ e.on = j := by
  unfold nowEdge at h
  obtain ⟨e, he, hb⟩ := Array.any_eq_true'.1 h
  simp only [Bool.and_eq_true] at hb
  exact ⟨e, he, hb.1, Nat.eq_of_beq_eq_true hb.2⟩
theorem drawB_spec {os : List Oper} (h : drawB os = true) : Draw os := by
  unfold drawB at h
  simp only [Bool.and_eq_true, List.all_eq_true, List.mem_range] at h
  obtain ⟨hs, h⟩ := h
  have lt : ∀ i o, os[i]? = some o → i < os.length := fun i o ho => (List.getElem?_eq_some_iff.1 ho).1
  refine ⟨hs, fun i o ho e he hb => ?_, fun i o t ho ht => ?_, fun i o ho t ht q hq => ?_⟩
  · have := h i (lt i o ho)
    rw [ho] at this
    simp only [Bool.and_eq_true, Array.all_eq_true_iff_forall_mem] at this
    have := this.1.1 e he
    simpa [hb] using this
  · have := h i (lt i o ho)
    rw [ho] at this
    simp only [Bool.and_eq_true] at this
    have := this.1.2
    rw [ht] at this
    simpa using this
  · have := h i (lt i o ho)
    rw [ho] at this
    simp only [Bool.and_eq_true, List.all_eq_true] at this
    have := this.2 t ht
    rw [hq] at this
    simp only [Bool.or_eq_true] at this
    rcases this with (h1 | h1) | h1
    · exact .inl (Nat.eq_of_beq_eq_true h1)
    · exact .inr (.inl (nowEdge_spec h1))
    · cases ho' : os[q]? with
      | none => rw [ho'] at h1; cases h1
      | some o' => rw [ho'] at h1; exact .inr (.inr ⟨o', rfl, nowEdge_spec h1⟩)
/-- what the slots hold when the operations of S are done -/
def ES (os : List Oper) (e : Nat → Value) (vs : Nat → Value) (S : Nat → Bool) (t : Nat) : Value := match widx t 0 os with
  | some q => bif S q then vs q else e t
  | none => e t
theorem ES_put {os : List Oper} (hd : Draw os) (e : Nat → Value) (vs : Nat → Value) (S : Nat → Bool) {i : Nat} {o : Oper} (ho : os[i]? = some o) :
    put (ES os e vs S) o.dst (vs i) = ES os e vs (sset S i) := by
  funext t
  have hne : ∀ q, widx t 0 os = some q → o.dst ≠ some t → q ≠ i := fun q hq hd' e' => by
    subst e'
    obtain ⟨_, o', h1, h2⟩ := widx_spec hq
    rw [Nat.sub_zero, ho] at h1
    cases h1
    exact hd' h2
  cases hdst : o.dst with
  | none =>
    show ES os e vs S t = _
    unfold ES
    cases hq : widx t 0 os with
    | none => rfl
    | some q => simp only [sset_ne S (hne q hq (by rw [hdst]; simp))]
  | some d =>
    show (bif Nat.beq d t then vs i else ES os e vs S t) = _
    by_cases h : d = t
    · subst h
      have := hd.uniq i o d ho hdst
      simp [ES, this, sset_self]
    · rw [beq_no h, cond_false]
      unfold ES
      cases hq : widx t 0 os with
      | none => rfl
      | some q => simp only [sset_ne S (hne q hq (by rw [hdst]; simpa using h))]
def Lx (l : List (Nat × Value)) (os : List Oper) (vs : Nat → Value) : Nat → List (Nat × Value)
  | 0 => l
  | i + 1 => putl (Lx l os vs i) ((os[i]?).bind (·.dst)) (vs i)
theorem lt_succ_set (i : Nat) : (fun q => decide (q < i + 1)) = sset (fun q => decide (q < i)) i := by
  funext q
  by_cases h : q = i
  · subst h; simp [sset]
  · rw [sset_ne _ h]; simp; omega
theorem Lx_ES {os : List Oper} (hd : Draw os) (l : List (Nat × Value)) (vs : Nat → Value) (j : Nat → Value) : ∀ i, i ≤ os.length → mk (Lx l os vs i) j = ES os (mk l j) vs (fun q => decide (q < i))
  | 0, _ => by
    funext t; unfold ES
    cases widx t 0 os with
    | none => rfl
    | some q => simp [Lx]
  | i + 1, hi => by
    have ho : os[i]? = some os[i] := List.getElem?_eq_getElem (by omega)
    rw [lt_succ_set, ← ES_put hd _ _ _ ho, ← Lx_ES hd l vs j i (by omega), putl_ok]
    simp [Lx, ho]
theorem Lx_cons (l : List (Nat × Value)) (o : Oper) (os : List Oper) (vs : Nat → Value) : ∀ i, Lx l (o :: os) vs (i + 1) = Lx (putl l o.dst (vs 0)) os (fun q => vs (q + 1)) i
  | 0 => rfl
  | i + 1 => by
    show putl (Lx l (o :: os) vs (i + 1)) _ _ = _
    rw [Lx_cons l o os vs i]
    simp [Lx]
/-- what one operation comes to, calls and all -/
def hmc (P : Program) (e : Sem Next) (H M : Heap) (K : Value → Heap → Heap → Prop) : Prop :=
  ∀ w0 w, Has w0 w H M → ∃ nx w1, e.run P w = .ok nx w1 ∧ match nx with
    | .value v => ∃ H' M', Has w0 w1 H' M' ∧ K v H' M'
    | .skip => ∃ H' M', Has w0 w1 H' M' ∧ K undef H' M'
    | .enter f args => Calls P f args w1 fun e w2 => ∃ v H' M', e = .returned v ∧ Has w0 w2 H' M' ∧ K v H' M'
    | _ => False
def Dep (o : Oper) (S : Nat → Bool) : Prop := ∀ e ∈ o.after, Region.binds .any e = true → S e.on = true
def Fact (P : Program) (n : Nat) (all : Array Oper) (I : (Nat → Bool) → Heap → Heap → Prop) (k : Nat) (o : Oper) (l : List (Nat × Value)) (v : Value) : Prop :=
  din n o.dst = true ∧ (((∀ j, wantE o all (mk l j) = true) ∧ ∀ j S H M, Dep o S → S k = false → I S H M → hmc P (execOp (ev (mk l j)) o) H M fun v' H' M' => v' = v ∧ I (sset S k) H' M') ∨
    ((∀ j, wantE o all (mk l j) = false) ∧ v = undef ∧ ∀ S H M, I S H M → I (sset S k) H M))
inductive QC (P : Program) (n : Nat) (all : Array Oper) (I : (Nat → Bool) → Heap → Heap → Prop) : Nat → List Oper → List (Nat × Value) → List (Nat × Value) → Prop
  | nil {k l} : QC P n all I k [] l l
  | cons {k o os l l2} (v : Value) : Fact P n all I k o l v → QC P n all I (k + 1) os (putl l o.dst v) l2 → QC P n all I k (o :: os) l l2
theorem QC.vals {P : Program} {n : Nat} {all : Array Oper} {I : (Nat → Bool) → Heap → Heap → Prop} {k : Nat} {os : List Oper} {l l2 : List (Nat × Value)} (h : QC P n all I k os l l2) :
    ∃ vs : Nat → Value, Lx l os vs os.length = l2 ∧ ∀ i o, os[i]? = some o → Fact P n all I (k + i) o (Lx l os vs i) (vs i) := by
  induction h with
  | nil => exact ⟨fun _ => undef, rfl, fun i o h => by simp at h⟩
  | @cons k o os l l2 v hf _ ih =>
    obtain ⟨vs, h1, h2⟩ := ih
    refine ⟨fun i => match i with | 0 => v | i + 1 => vs i, ?_, ?_⟩
    · rw [List.length_cons, Lx_cons]; exact h1
    · intro i o' ho'
      cases i with
      | zero => simp at ho'; subst ho'; exact hf
      | succ i =>
        rw [Lx_cons]
        have := h2 i o' (by simpa using ho')
        rwa [show k + 1 + i = k + (i + 1) by omega] at this
theorem count_set {listed : Array Bool} {i : Nat} (h : listed.getD i true = false) : (listed.setIfInBounds i true).toList.count false + 1 = listed.toList.count false := by
  have hlt : i < listed.size := by
    rcases Nat.lt_or_ge i listed.size with h' | h'
    · exact h'
    · simp [Array.getElem?_eq_none h'] at h
  have hv : listed[i] = false := by simpa [hlt] using h
  have h2 : listed.toList.set i true = (listed.setIfInBounds i true).toList := by simp
  rw [← h2]
  have hl : i < listed.toList.length := by simpa using hlt
  rw [List.set_eq_take_append_cons_drop, if_pos hl]
  have h3 : listed.toList = listed.toList.take i ++ listed.toList[i] :: listed.toList.drop (i + 1) := by
    rw [← List.drop_eq_getElem_cons hl]; simp
  have h4 : listed.toList[i] = false := by simpa using hv
  rw [h4] at h3
  conv => rhs; rw [h3]
  simp [List.count_append]
  omega
section
variable {P : Program} {n : Nat} {I : (Nat → Bool) → Heap → Heap → Prop} {os : List Oper} {l : List (Nat × Value)}
theorem draw_any (hd : Draw os) (vs : Nat → Value) (j : Nat → Value) (w0 : World) (Q : Exit → Act → World → Prop)
    (hf : ∀ i o, os[i]? = some o → Fact P n os.toArray I i o (Lx l os vs i) (vs i))
    (hQ : ∀ a w H M, Agr n a (mk (Lx l os vs os.length) j) → Has w0 w H M → I (fun q => decide (q < os.length)) H M → Q .normal a w) :
    ∀ (fuel : Nat) (listed : Array Bool) (a : Act) (w : World) (H M : Heap), listed.size = os.length → listed.toList.count false ≤ fuel →
      (∀ i o, os[i]? = some o → listed.getD i false = true → Dep o (fun q => listed.getD q false)) →
      Agr n a (ES os (mk l j) vs fun q => listed.getD q false) → Has w0 w H M → I (fun q => listed.getD q false) H M → wpAny P .any os.toArray Q fuel listed a w := by
  have hfin : ∀ (listed : Array Bool), listed.size = os.length → (∀ i, i < os.length → listed.getD i false = true) → (fun q => listed.getD q false) = fun q => decide (q < os.length) := by
    intro listed hs h
    funext q
    by_cases hq : q < os.length
    · simp only [h q hq, hq, decide_true]
    · have : listed[q]? = none := Array.getElem?_eq_none (by omega)
      simp [this]; omega
  have hdone : ∀ (listed : Array Bool) (a : Act) (w : World) (H M : Heap), listed.size = os.length → (∀ i, i < os.length → listed.getD i false = true) →
      Agr n a (ES os (mk l j) vs fun q => listed.getD q false) → Has w0 w H M → I (fun q => listed.getD q false) H M → Q .normal a w := by
    intro listed a w H M hs hall ha hh hI
    rw [hfin listed hs hall] at ha hI
    exact hQ a w H M (by rw [Lx_ES hd _ _ _ _ (Nat.le_refl _)]; exact ha) hh hI
  have hempty : ∀ (listed : Array Bool), listed.size = os.length → Region.ready .any os.toArray listed = [] → ∀ i, i < os.length → listed.getD i false = true := by
    intro listed hs hr i
    induction i using Nat.strongRecOn with
    | _ i ih =>
      intro hi
      cases hc : listed.getD i false with
      | true => rfl
      | false =>
        have hi' : i < listed.size := by omega
        have : i ∈ Region.ready .any os.toArray listed := by
          rw [mem_ready]
          refine ⟨?_, os[i], by simp [hi], fun e he hb => ?_⟩
          · simpa [hi'] using hc
          · have hlt := hd.lt i os[i] (List.getElem?_eq_getElem hi) e he hb
            exact ih e.on hlt (by omega)
        rw [hr] at this; cases this
  intro fuel
  induction fuel with
  | zero =>
    intro listed a w H M hs hcnt hcl ha hh hI
    have hall : ∀ i, i < os.length → listed.getD i false = true := by
      intro i hi
      cases hc : listed.getD i false with
      | true => rfl
      | false =>
        have hi' : i < listed.size := by omega
        have hv : listed[i] = false := by simpa [hi'] using hc
        have : false ∈ listed.toList := by rw [← hv]; simp
        have := List.count_pos_iff.2 this
        omega
    refine ⟨?_, hdone listed a w H M hs hall ha hh hI⟩
    rw [List.eq_nil_iff_forall_not_mem]
    intro i hi
    rw [mem_ready] at hi
    obtain ⟨h1, o, ho, _⟩ := hi
    have hlt : i < os.length := by have := (Array.getElem?_eq_some_iff.1 ho).1; simpa using this
    have h2 := hall i hlt
    have hi' : i < listed.size := by omega
    simp [hi'] at h1 h2
    rw [h1] at h2; cases h2
  | succ fuel ih =>
    intro listed a w H M hs hcnt hcl ha hh hI
    refine ⟨fun hr => hdone listed a w H M hs (hempty listed hs hr) ha hh hI, fun i hi => ?_⟩
    rw [mem_ready] at hi
    obtain ⟨hun, o, ho, hdep⟩ := hi
    have ho' : os[i]? = some o := by simpa using ho
    have hlt : i < os.length := (List.getElem?_eq_some_iff.1 ho').1
    have hi' : i < listed.size := by omega
    have hun' : listed.getD i false = false := by simpa [hi'] using hun
    -- the slots that the operation looks at
    have hlook : ∀ t ∈ o.looksAt os.toArray, ES os (mk l j) vs (fun q => listed.getD q false) t = mk (Lx l os vs i) j t := by
      intro t ht
      rw [Lx_ES hd _ _ _ _ (Nat.le_of_lt hlt)]
      unfold ES
      cases hq : widx t 0 os with
      | none => rfl
      | some q =>
        rcases hd.look i o ho' t ht q hq with rfl | ⟨e, he, hb, rfl⟩ | ⟨o2, ho2, e, he, hb, heq⟩
        · simp only [hun', Nat.lt_irrefl, decide_false]
        · simp only [hdep e he hb, hd.lt i o ho' e he hb, decide_true]
        · have hqi := hd.lt q o2 ho2 e he hb
          have hlq : listed.getD q false = false := by
            cases hc : listed.getD q false with
            | false => rfl
            | true => have h5 := hcl q o2 ho2 hc e he hb; dsimp only at h5; rw [heq, hun'] at h5; cases h5
          simp only [hlq]
          rw [decide_eq_false (by omega)]
    have hev : execOp a.eval o = execOp (ev (mk (Lx l os vs i) j)) o := by
      refine execOp_congr o (Region.noSelect_spec hd.sel i o · · ho) fun x hx => ?_
      rw [ha.eval]
      cases x with
      | tmp t => exact hlook t (List.mem_append_left _ (List.mem_filterMap.2 ⟨.tmp t, by simpa using hx, rfl⟩))
      | const v => rfl
      | global g => rfl
      | func f => rfl
    have hwant : Region.wanted o (yielded os.toArray a.tmps) = wantE o os.toArray (mk (Lx l os vs i) j) := by
      rw [wantE_ok ha]
      unfold wantE
      cases hg : o.guard with
      | none => rfl
      | some gw =>
        obtain ⟨g, want⟩ := gw
        dsimp only
        congr 1
        unfold gv
        cases hb : (os.toArray[g]?).bind (·.dst) with
        | none => rfl
        | some d => dsimp only; rw [hlook d (by simp only [Oper.looksAt, hg, hb]; simp)]
    have hset : (fun q => (listed.setIfInBounds i true).getD q false) = sset (fun q => listed.getD q false) i := by
      funext q
      by_cases e : q = i
      · subst e; rw [sset_self]; simp [hi']
      · rw [sset_ne _ e, getD_set_ne _ (Ne.symm e)]
    have next : ∀ w1 H1 M1, Has w0 w1 H1 M1 → I (sset (fun q => listed.getD q false) i) H1 M1 → wpAny P .any os.toArray Q fuel (listed.setIfInBounds i true) (a.put o.dst (vs i)) w1 := by
      intro w1 H1 M1 hh1 hI1
      refine ih _ _ _ H1 M1 (by simpa using hs) (by have := count_set hun; omega) ?_ ?_ hh1 (by rw [hset]; exact hI1)
      · intro q o2 ho2 hq e he hb
        by_cases e' : q = i
        · subst e'
          rw [ho'] at ho2; cases ho2
          exact getD_set_true (hdep e he hb)
        · rw [getD_set_ne _ (Ne.symm e')] at hq
          exact getD_set_true (hcl q o2 ho2 hq e he hb)
      · rw [hset, ← ES_put hd _ _ _ ho']
        exact ha.put _ _ (din_ok (hf i o ho').1)
    obtain ⟨_, hfact⟩ := hf i o ho'
    unfold wpOp
    rw [ho]
    dsimp only
    rcases hfact with ⟨hw, hstep⟩ | ⟨hw, hv, hst⟩
    · rw [hwant, hw j, if_pos rfl]
      refine .inl ?_
      unfold Oper.wp
      rw [hev]
      obtain ⟨nx, w1, hrun, hnx⟩ := hstep j (fun q => listed.getD q false) H M (fun e he hb => hdep e he hb) hun' hI w0 w hh
      rw [hrun]
      cases nx with
      | value v =>
        obtain ⟨H1, M1, hh1, rfl, hI1⟩ := hnx
        exact next w1 H1 M1 hh1 hI1
      | skip =>
        obtain ⟨H1, M1, hh1, hv, hI1⟩ := hnx
        have := next w1 H1 M1 hh1 hI1
        rw [← hv] at this; exact this
      | enter f args =>
        refine Calls.mono hnx fun e w2 ⟨v, H1, M1, he, hh1, hv, hI1⟩ => ?_
        subst he; subst hv
        exact next w2 H1 M1 hh1 hI1
      | _ => exact hnx.elim
    · rw [hwant, hw j, if_neg (by simp)]
      have := next w H M hh (hst _ H M hI)
      rw [hv] at this; exact this
end
/-- a region that draws, whatever it does: what holds when a set of its operations is done -/
theorem run_draw {P : Program} {f : FuncId} {n : Nat} {R : Post} {k : List It} {l l2 : List (Nat × Value)} {H M : Heap} {id : Nat} {ops : List Oper} (I : (Nat → Bool) → Heap → Heap → Prop) (hmx : P.follows .mixedOrders = true) (hB : drawB ops = true)
    (h0 : I (fun _ => false) H M) (hq : QC P n ops.toArray I 0 ops l l2) (h : ∀ H' M', I (fun q => decide (q < ops.length)) H' M' → Run P f n R k l2 H' M') : Run P f n R (.code (.region id ops.toArray true) :: k) l H M := by
  intro j w0 w a b cs k' hk hh ha hf hn
  have hd := drawB_spec hB
  obtain ⟨vs, hl2, hfact⟩ := hq.vals
  simp only [Nat.zero_add] at hfact
  cases hk with
  | @code _ _ k1 hk =>
    have hz : (fun q => (Array.replicate ops.toArray.size false).getD q false) = fun _ => false := by
      funext q; simp only [Array.getD_eq_getD_getElem?, Array.getElem?_replicate]; split <;> rfl
    have h1 := wp_region_any (P := P) (id := id) (ops := ops.toArray) (Q := fun e a' w' => e = .normal ∧ ∃ H' M', Agr n a' (mk l2 j) ∧ Has w0 w' H' M' ∧ I (fun q => decide (q < ops.length)) H' M') (a := a) (w := w) hmx
      (draw_any hd vs j w0 _ hfact (fun a' w' H' M' ha' hh' hI' => ⟨rfl, H', M', by rw [← hl2]; exact ha', hh', hI'⟩) _ _ _ _ H M (by simp) (by simp) (by
          intro i o _ hc
          have := congrFun hz i
          rw [this] at hc; cases hc) (by
          rw [hz]
          have : ES ops (mk l j) vs (fun _ => false) = mk l j := by
            funext t; unfold ES; cases widx t 0 ops <;> rfl
          rw [this]; exact ha) hh.drew (by rw [hz]; exact h0))
    obtain ⟨e, a', w1, ⟨rfl, H', M', ha', hw1, hI'⟩, harr⟩ := h1 b k1 cs
    obtain ⟨v, w', fr, hst, r⟩ := h H' M' hI' j w0 w1 a' b cs k1 hk hw1 ha' hf hn
    exact ⟨v, w', fr, Steps.trans harr hst, r⟩
section
variable {P : Program} {n : Nat} {all : Array Oper} {I : (Nat → Bool) → Heap → Heap → Prop} {k : Nat} {l l2 : List (Nat × Value)} {rest : List Oper}
theorem qc_qs {o : Oper} (v : Value) (hd : din n o.dst = true) (hw : ∀ j, wantE o all (mk l j) = true) (hq : ∀ j S H M, I S H M → Qs P o (mk l j) H M v) (hs : ∀ S H M, I S H M → I (sset S k) H M)
    (h : QC P n all I (k + 1) rest (putl l o.dst v) l2) : QC P n all I k (o :: rest) l l2 :=
  .cons v ⟨hd, .inl ⟨hw, fun j S H M _ _ hI w0 w hh => ⟨_, w, hq j S H M hI w0 w hh, H, M, hh, rfl, hs S H M hI⟩⟩⟩ h
theorem qc_n {d : Nat} {op : Op} {ty : TypeId} {pos : String} {af : Array Edge} {g : Option (Nat × Bool)} (hd : Nat.blt d n = true) (hw : ∀ j, wantE ⟨some d, op, ty, pos, af, g⟩ all (mk l j) = false) (hs : ∀ S H M, I S H M → I (sset S k) H M)
    (h : QC P n all I (k + 1) rest ((d, undef) :: l) l2) : QC P n all I k (⟨some d, op, ty, pos, af, g⟩ :: rest) l l2 :=
  .cons undef ⟨hd, .inr ⟨hw, rfl, hs⟩⟩ h
theorem qc_y {d : Nat} {op : Op} {ty : TypeId} {pos : String} {af : Array Edge} {g : Option (Nat × Bool)} {v : Value} (hv : ∀ j, cst P (execOp (ev (mk l j)) ⟨some d, op, ty, pos, af, g⟩) = some (.value v)) (hd : Nat.blt d n = true)
    (hw : ∀ j, wantE ⟨some d, op, ty, pos, af, g⟩ all (mk l j) = true) (hs : ∀ S H M, I S H M → I (sset S k) H M) (h : QC P n all I (k + 1) rest ((d, v) :: l) l2) : QC P n all I k (⟨some d, op, ty, pos, af, g⟩ :: rest) l l2 :=
  qc_qs v hd hw (fun j _ _ _ _ => qt_cst (hv j)) hs h
theorem qc_p {d : Nat} {op : Op} {ty : TypeId} {pos : String} {af : Array Edge} {v : Value} (hv : ∀ j, cst P (execOp (ev (mk l j)) ⟨some d, op, ty, pos, af, none⟩) = some (.value v)) (hd : Nat.blt d n = true)
    (hs : ∀ S H M, I S H M → I (sset S k) H M) (h : QC P n all I (k + 1) rest ((d, v) :: l) l2) : QC P n all I k (⟨some d, op, ty, pos, af, none⟩ :: rest) l l2 :=
  qc_qs v hd (fun _ => rfl) (fun j _ _ _ _ => qt_cst (hv j)) hs h
theorem qc_ld {d : Nat} {oty : TypeId} {pos : String} {af : Array Edge} {g : Option (Nat × Bool)} {t : TypeId} {x : Operand} (b off : Nat) (v : Value) (hd : Nat.blt d n = true) (hw : ∀ j, wantE ⟨some d, .load t x, oty, pos, af, g⟩ all (mk l j) = true)
    (hx : ∀ j, ev (mk l j) x = .pointer (some ⟨b, off, none⟩)) [hag : AG P t false] (hb : ∀ S H M, I S H M → ∃ c ty fr, Kn H M b (.cells c ty fr) ∧ c[off]? = some v) (hs : ∀ S H M, I S H M → I (sset S k) H M)
    (h : QC P n all I (k + 1) rest ((d, v) :: l) l2) : QC P n all I k (⟨some d, .load t x, oty, pos, af, g⟩ :: rest) l l2 :=
  qc_qs v (by exact hd) hw (fun j S H M hI => by obtain ⟨c, ty, fr, h1, h2⟩ := hb S H M hI; exact qt_ld1 rfl (hx j) hag.h h1 h2) hs h
theorem qc_ldN {d : Nat} {oty : TypeId} {pos : String} {af : Array Edge} {g : Option (Nat × Bool)} {t : TypeId} {x : Operand} (b off m : Nat) (vs : Array Value) (hd : Nat.blt d n = true) (hw : ∀ j, wantE ⟨some d, .load t x, oty, pos, af, g⟩ all (mk l j) = true)
    (hx : ∀ j, ev (mk l j) x = .pointer (some ⟨b, off, none⟩)) [hag : AG P t true] [hsz : SZ P t m] (hb : ∀ S H M, I S H M → ∃ c ty fr, Kn H M b (.cells c ty fr) ∧ off + m ≤ c.size ∧ c.extract off (off + m) = vs) (hs : ∀ S H M, I S H M → I (sset S k) H M)
    (h : QC P n all I (k + 1) rest ((d, .agg vs) :: l) l2) : QC P n all I k (⟨some d, .load t x, oty, pos, af, g⟩ :: rest) l l2 :=
  qc_qs (.agg vs) (by exact hd) hw (fun j S H M hI => by obtain ⟨c, ty, fr, h1, h2, h3⟩ := hb S H M hI; exact qt_ldN rfl (hx j) hag.h hsz.h h1 h2 h3) hs h
theorem qc_fa {d : Nat} {oty : TypeId} {pos : String} {af : Array Edge} {g : Option (Nat × Bool)} {s : TypeId} {x : Operand} {fld b off fo : Nat} (hd : Nat.blt d n = true) (hw : ∀ j, wantE ⟨some d, .fieldAddr s x fld, oty, pos, af, g⟩ all (mk l j) = true) (hx : ∀ j, ev (mk l j) x = .pointer (some ⟨b, off, none⟩))
    [hf : FO P s fld fo] (hs : ∀ S H M, I S H M → I (sset S k) H M)
    (h : QC P n all I (k + 1) rest ((d, .pointer (some ⟨b, off + fo, none⟩)) :: l) l2) : QC P n all I k (⟨some d, .fieldAddr s x fld, oty, pos, af, g⟩ :: rest) l l2 :=
  qc_qs _ (by exact hd) hw (fun j _ _ _ _ => qt_fa rfl (hx j) hf.h) hs h
theorem qc_faz {d : Nat} {oty : TypeId} {pos : String} {af : Array Edge} {g : Option (Nat × Bool)} {s : TypeId} {x : Operand} {fld b off : Nat} (hd : Nat.blt d n = true) (hw : ∀ j, wantE ⟨some d, .fieldAddr s x fld, oty, pos, af, g⟩ all (mk l j) = true) (hx : ∀ j, ev (mk l j) x = .pointer (some ⟨b, off, none⟩))
    [hf : FO P s fld 0] (hs : ∀ S H M, I S H M → I (sset S k) H M)
    (h : QC P n all I (k + 1) rest ((d, .pointer (some ⟨b, off, none⟩)) :: l) l2) : QC P n all I k (⟨some d, .fieldAddr s x fld, oty, pos, af, g⟩ :: rest) l l2 :=
  qc_qs _ (by exact hd) hw (fun j _ _ _ _ => qt_fa rfl (hx j) hf.h) hs h
theorem qc_zfa {d : Nat} {oty : TypeId} {pos : String} {af : Array Edge} {g : Option (Nat × Bool)} {s : TypeId} {x : Operand} {fld b fo : Nat} (hd : Nat.blt d n = true) (hw : ∀ j, wantE ⟨some d, .fieldAddr s x fld, oty, pos, af, g⟩ all (mk l j) = true) (hx : ∀ j, ev (mk l j) x = .pointer (some ⟨b, 0, none⟩))
    [hf : FO P s fld fo] (hs : ∀ S H M, I S H M → I (sset S k) H M)
    (h : QC P n all I (k + 1) rest ((d, .pointer (some ⟨b, fo, none⟩)) :: l) l2) : QC P n all I k (⟨some d, .fieldAddr s x fld, oty, pos, af, g⟩ :: rest) l l2 :=
  qc_qs _ (by exact hd) hw (fun j _ H M _ => (by have := qt_fa (o := ⟨some d, .fieldAddr s x fld, oty, pos, af, g⟩) (H := H) (M := M) rfl (hx j) hf.h; rw [Nat.zero_add] at this; exact this)) hs h
theorem qc_ix {d : Nat} {oty : TypeId} {pos : String} {af : Array Edge} {g : Option (Nat × Bool)} {t : TypeId} {x y : Operand} {m : Nat} {elem : TypeId} {sz b off : Nat} {kd : IntKind} {i : Int} (hd : Nat.blt d n = true) (hw : ∀ j, wantE ⟨some d, .indexAddr t x y, oty, pos, af, g⟩ all (mk l j) = true)
    (hx : ∀ j, ev (mk l j) x = .pointer (some ⟨b, off, none⟩)) (hy : ∀ j, ev (mk l j) y = .int kd i) [hu : AR P t m elem] [hs : SZ P elem sz] (h0 : 0 ≤ i) (h1 : i < m) (hst : ∀ S H M, I S H M → I (sset S k) H M)
    (h : QC P n all I (k + 1) rest ((d, .pointer (some ⟨b, off + i.toNat * sz, none⟩)) :: l) l2) : QC P n all I k (⟨some d, .indexAddr t x y, oty, pos, af, g⟩ :: rest) l l2 :=
  qc_qs _ (by exact hd) hw (fun j _ _ _ _ => qt_ix rfl (hx j) (hy j) hu.h hs.h h0 h1) hst h
theorem qc_ixs {d : Nat} {oty : TypeId} {pos : String} {af : Array Edge} {g : Option (Nat × Bool)} {t : TypeId} {x y : Operand} {m c : Nat} {elem : TypeId} {sz b off : Nat} {kd : IntKind} {i : Int} (hd : Nat.blt d n = true) (hw : ∀ j, wantE ⟨some d, .indexAddr t x y, oty, pos, af, g⟩ all (mk l j) = true)
    (hx : ∀ j, ev (mk l j) x = .slice (some ⟨b, off, none⟩) m c) (hy : ∀ j, ev (mk l j) y = .int kd i) [hu : SC P t elem] [hs : SZ P elem sz] (h0 : 0 ≤ i) (h1 : i < m) (hst : ∀ S H M, I S H M → I (sset S k) H M)
    (h : QC P n all I (k + 1) rest ((d, .pointer (some ⟨b, off + i.toNat * sz, none⟩)) :: l) l2) : QC P n all I k (⟨some d, .indexAddr t x y, oty, pos, af, g⟩ :: rest) l l2 :=
  qc_qs _ (by exact hd) hw (fun j _ _ _ _ => qt_ixs rfl (hx j) (hy j) hu.h hs.h h0 h1) hst h
theorem qc_rem {d : Nat} {oty : TypeId} {pos : String} {af : Array Edge} {g : Option (Nat × Bool)} {t t2 : TypeId} {x y : Operand} {kd : IntKind} {p q : Int} (hd : Nat.blt d n = true) (hw : ∀ j, wantE ⟨some d, .binOp .rem t x y t2, oty, pos, af, g⟩ all (mk l j) = true)
    (hx : ∀ j, ev (mk l j) x = .int kd p) (hy : ∀ j, ev (mk l j) y = .int kd q) (hq : q ≠ 0) (hst : ∀ S H M, I S H M → I (sset S k) H M) (h : QC P n all I (k + 1) rest ((d, .int kd (p.tmod q)) :: l) l2) : QC P n all I k (⟨some d, .binOp .rem t x y t2, oty, pos, af, g⟩ :: rest) l l2 :=
  qc_qs _ (by exact hd) hw (fun j _ _ _ _ => qt_bin rfl rfl (by rw [hx j, hy j]; exact cst_rem hq)) hst h
theorem qc_quo {d : Nat} {oty : TypeId} {pos : String} {af : Array Edge} {g : Option (Nat × Bool)} {t t2 : TypeId} {x y : Operand} {kd : IntKind} {p q : Int} (hd : Nat.blt d n = true) (hw : ∀ j, wantE ⟨some d, .binOp .quo t x y t2, oty, pos, af, g⟩ all (mk l j) = true)
    (hx : ∀ j, ev (mk l j) x = .int kd p) (hy : ∀ j, ev (mk l j) y = .int kd q) (hq : q ≠ 0) (hst : ∀ S H M, I S H M → I (sset S k) H M) (h : QC P n all I (k + 1) rest ((d, .int kd (kd.wrap (p.tdiv q))) :: l) l2) : QC P n all I k (⟨some d, .binOp .quo t x y t2, oty, pos, af, g⟩ :: rest) l l2 :=
  qc_qs _ (by exact hd) hw (fun j _ _ _ _ => qt_bin rfl rfl (by rw [hx j, hy j]; exact cst_quo hq)) hst h
theorem qc_bd {d : Nat} {oty : TypeId} {pos : String} {af : Array Edge} {g : Option (Nat × Bool)} {t : TypeId} {ps : List (Nat × Operand)} {z : Array Value} {pl : List (Nat × Nat)} [BD P t z pl] (cells : Array Value) (hd : Nat.blt d n = true)
    (hw : ∀ j, wantE ⟨some d, .build t ps.toArray, oty, pos, af, g⟩ all (mk l j) = true) (hf : ∀ j, fillS pl z (ps.map fun x => (x.1, ev (mk l j) x.2)) = some cells) (hst : ∀ S H M, I S H M → I (sset S k) H M)
    (h : QC P n all I (k + 1) rest ((d, .agg cells) :: l) l2) : QC P n all I k (⟨some d, .build t ps.toArray, oty, pos, af, g⟩ :: rest) l l2 :=
  qc_qs _ (by exact hd) hw (fun j _ _ _ _ => qs_bd (hf j)) hst h
theorem qc_st {oty : TypeId} {pos : String} {af : Array Edge} {g : Option (Nat × Bool)} {t : TypeId} {x y : Operand} (b off m : Nat) (v : Value) (hw : ∀ j, wantE ⟨none, .store t x y, oty, pos, af, g⟩ all (mk l j) = true)
    (hx : ∀ j, ev (mk l j) x = .pointer (some ⟨b, off, none⟩)) (hy : ∀ j, ev (mk l j) y = v) [hs : SZ P t m] (hn : v.cells.toList.length = m) (h1 : v.cells.toList.all one = true)
    (hb : ∀ S H M, Dep ⟨none, .store t x y, oty, pos, af, g⟩ S → S k = false → I S H M → ∃ c ty, M b = some (.cells c ty (0, 0)) ∧ off + m ≤ c.size ∧ I (sset S k) H (upd M b (.cells (setL c off v.cells.toList) ty (0, 0))))
    (h : QC P n all I (k + 1) rest l l2) : QC P n all I k (⟨none, .store t x y, oty, pos, af, g⟩ :: rest) l l2 := by
  refine .cons undef ⟨rfl, .inl ⟨hw, fun j S H M hD hS hI w0 w hh => ?_⟩⟩ h
  obtain ⟨c, ty, hmb, hl, hI'⟩ := hb S H M hD hS hI
  have h5 : hm P (execOp (ev (mk l j)) ⟨none, .store t x y, oty, pos, af, g⟩) H M fun nx H' M' => nx = Next.skip ∧ I (sset S k) H' M' := by
    show Cam.hm P (Instr.storeAt t (ev (mk l j) x) (ev (mk l j) y) >>= fun _ => pure Next.skip) H M _
    rw [hx j, hy j]
    exact hm_bind (hm_st hs.h hmb hn hl (fun j _ _ h => by omega) (fun u hu => List.all_eq_true.1 h1 u hu) (hm_pure ⟨rfl, hI'⟩))
  obtain ⟨nx, w1, H1, M1, hr, hh1, rfl, hI1⟩ := h5 w0 w hh
  exact ⟨_, w1, hr, H1, M1, hh1, rfl, hI1⟩
theorem qc_call {d : Nat} {op : Op} {ty : TypeId} {pos : String} {af : Array Edge} {g : Option (Nat × Bool)} {q : FuncId} {args : Array Value} (v : Value) (hd : Nat.blt d n = true) (hw : ∀ j, wantE ⟨some d, op, ty, pos, af, g⟩ all (mk l j) = true)
    (hx : ∀ j, cst P (execOp (ev (mk l j)) ⟨some d, op, ty, pos, af, g⟩) = some (.enter q args)) (hc : ∀ S H M, S k = false → I S H M → ACalls P q args H M fun v' H' M' => v' = v ∧ I (sset S k) H' M')
    (h : QC P n all I (k + 1) rest ((d, v) :: l) l2) : QC P n all I k (⟨some d, op, ty, pos, af, g⟩ :: rest) l l2 :=
  .cons v ⟨hd, .inl ⟨hw, fun j S H M _ hS hI w0 w hh => ⟨_, w, cst_run _ (hx j) w, hc S H M hS hI w0 w hh⟩⟩⟩ h
end
end Go.Cam
/- Comparisons whose answer is a law of its own; numbers. -/
namespace Go.Cam
section
variable {P : Program} {f : FuncId} {n : Nat} {R : Post} {k : List It} {l l2 : List (Nat × Value)} {H M : Heap} {all : Array Oper} {rest : List Oper} {I : (Nat → Bool) → Heap → Heap → Prop} {q : Nat}
/-- what a type's comparison comes to -/
class EQ (P : Program) (t : Nat) (X Y : Value) (v : outParam Bool) : Prop where
  g : ∀ op x y, cst P (eqGuard op t x y X Y) = some ()
  e : ∀ w, (binOp .eql t X Y).run P w = .ok (.bool v) w
  n : ∀ w, (binOp .neq t X Y).run P w = .ok (.bool (!v)) w
theorem qs_binw {o : Oper} {e : Nat → Value} {op : BinOp} {t t2 : TypeId} {x y : Operand} {v : Value} (ho : o.op = .binOp op t x y t2) (hg : cst P (eqGuard op t x y (ev e x) (ev e y)) = some ()) (hv : ∀ w, (binOp op t (ev e x) (ev e y)).run P w = .ok v w) : Qs P o e H M v := by
  refine qt_exec (s := do eqGuard op t x y (ev e x) (ev e y); binOp op t (ev e x) (ev e y)) (by unfold execOp; rw [ho]) fun w0 w _ => ?_
  rw [hm_run_bind _ _ w (cst_run _ hg w)]
  exact hv w
theorem run_eqs {d : Nat} {oty : TypeId} {pos : String} {af : Array Edge} {g : Option (Nat × Bool)} {t t2 : TypeId} {x y : Operand} {X Y : Value} {v : Bool} (eq : EQ P t X Y v) (hd : Nat.blt d n = true) (hw : ∀ j, wantE ⟨some d, .binOp .eql t x y t2, oty, pos, af, g⟩ all (mk l j) = true)
    (hx : ∀ j, ev (mk l j) x = X) (hy : ∀ j, ev (mk l j) y = Y) (h : Run P f n R (.ops all rest :: k) ((d, .bool v) :: l) H M) : Run P f n R (.ops all (⟨some d, .binOp .eql t x y t2, oty, pos, af, g⟩ :: rest) :: k) l H M :=
  run_qt _ (by exact hd) hw (fun j => (qs_binw rfl (by rw [hx j, hy j]; exact eq.g _ _ _) (by rw [hx j, hy j]; exact eq.e)).qt) h
theorem run_nes {d : Nat} {oty : TypeId} {pos : String} {af : Array Edge} {g : Option (Nat × Bool)} {t t2 : TypeId} {x y : Operand} {X Y : Value} {v : Bool} (eq : EQ P t X Y v) (hd : Nat.blt d n = true) (hw : ∀ j, wantE ⟨some d, .binOp .neq t x y t2, oty, pos, af, g⟩ all (mk l j) = true)
    (hx : ∀ j, ev (mk l j) x = X) (hy : ∀ j, ev (mk l j) y = Y) (h : Run P f n R (.ops all rest :: k) ((d, .bool (!v)) :: l) H M) : Run P f n R (.ops all (⟨some d, .binOp .neq t x y t2, oty, pos, af, g⟩ :: rest) :: k) l H M :=
  run_qt _ (by exact hd) hw (fun j => (qs_binw rfl (by rw [hx j, hy j]; exact eq.g _ _ _) (by rw [hx j, hy j]; exact eq.n)).qt) h
theorem ql_eqs {d : Nat} {oty : TypeId} {pos : String} {af : Array Edge} {g : Option (Nat × Bool)} {t t2 : TypeId} {x y : Operand} {X Y : Value} {v : Bool} (eq : EQ P t X Y v) (hd : Nat.blt d n = true) (hw : ∀ j, wantE ⟨some d, .binOp .eql t x y t2, oty, pos, af, g⟩ all (mk l j) = true)
    (hx : ∀ j, ev (mk l j) x = X) (hy : ∀ j, ev (mk l j) y = Y) (h : QL P n all H M rest ((d, .bool v) :: l) l2) : QL P n all H M (⟨some d, .binOp .eql t x y t2, oty, pos, af, g⟩ :: rest) l l2 :=
  .yes _ (by exact hd) hw (fun j => qs_binw rfl (by rw [hx j, hy j]; exact eq.g _ _ _) (by rw [hx j, hy j]; exact eq.e)) h
theorem ql_nes {d : Nat} {oty : TypeId} {pos : String} {af : Array Edge} {g : Option (Nat × Bool)} {t t2 : TypeId} {x y : Operand} {X Y : Value} {v : Bool} (eq : EQ P t X Y v) (hd : Nat.blt d n = true) (hw : ∀ j, wantE ⟨some d, .binOp .neq t x y t2, oty, pos, af, g⟩ all (mk l j) = true)
    (hx : ∀ j, ev (mk l j) x = X) (hy : ∀ j, ev (mk l j) y = Y) (h : QL P n all H M rest ((d, .bool (!v)) :: l) l2) : QL P n all H M (⟨some d, .binOp .neq t x y t2, oty, pos, af, g⟩ :: rest) l l2 :=
  .yes _ (by exact hd) hw (fun j => qs_binw rfl (by rw [hx j, hy j]; exact eq.g _ _ _) (by rw [hx j, hy j]; exact eq.n)) h
theorem qc_eqs {d : Nat} {oty : TypeId} {pos : String} {af : Array Edge} {g : Option (Nat × Bool)} {t t2 : TypeId} {x y : Operand} {X Y : Value} {v : Bool} (eq : EQ P t X Y v) (hd : Nat.blt d n = true) (hw : ∀ j, wantE ⟨some d, .binOp .eql t x y t2, oty, pos, af, g⟩ all (mk l j) = true)
    (hx : ∀ j, ev (mk l j) x = X) (hy : ∀ j, ev (mk l j) y = Y) (hs : ∀ S H M, I S H M → I (sset S q) H M) (h : QC P n all I (q + 1) rest ((d, .bool v) :: l) l2) : QC P n all I q (⟨some d, .binOp .eql t x y t2, oty, pos, af, g⟩ :: rest) l l2 :=
  qc_qs _ (by exact hd) hw (fun j _ _ _ _ => qs_binw rfl (by rw [hx j, hy j]; exact eq.g _ _ _) (by rw [hx j, hy j]; exact eq.e)) hs h
theorem qc_nes {d : Nat} {oty : TypeId} {pos : String} {af : Array Edge} {g : Option (Nat × Bool)} {t t2 : TypeId} {x y : Operand} {X Y : Value} {v : Bool} (eq : EQ P t X Y v) (hd : Nat.blt d n = true) (hw : ∀ j, wantE ⟨some d, .binOp .neq t x y t2, oty, pos, af, g⟩ all (mk l j) = true)
    (hx : ∀ j, ev (mk l j) x = X) (hy : ∀ j, ev (mk l j) y = Y) (hs : ∀ S H M, I S H M → I (sset S q) H M) (h : QC P n all I (q + 1) rest ((d, .bool (!v)) :: l) l2) : QC P n all I q (⟨some d, .binOp .neq t x y t2, oty, pos, af, g⟩ :: rest) l l2 :=
  qc_qs _ (by exact hd) hw (fun j _ _ _ _ => qs_binw rfl (by rw [hx j, hy j]; exact eq.g _ _ _) (by rw [hx j, hy j]; exact eq.n)) hs h
end
end Go.Cam
/- The builtin len; its forms. -/
namespace Go.Cam
class STY (P : Program) (t : Nat) : Prop where
  h : cst P (underlying t) = some .string
section
variable {P : Program} {f : FuncId} {n : Nat} {R : Post} {k : List It} {l l2 : List (Nat × Value)} {H M : Heap} {all : Array Oper} {rest : List Oper} {I : (Nat → Bool) → Heap → Heap → Prop} {q : Nat}
theorem qs_len {d : Option Nat} {oty : TypeId} {pos : String} {af : Array Edge} {g : Option (Nat × Bool)} {t : TypeId} {p : Operand} {e : Nat → Value} {b : Option Addr} {m c el : Nat} [sc : SC P t el] (hp : ev e p = .slice b m c) :
    Qs P ⟨d, .call ⟨.builtin .len, #[p], #[t]⟩, oty, pos, af, g⟩ e H M (.int .i64 m) := by
  refine qt_cst ?_
  show cst P (resolve (ev e) ⟨.builtin .len, #[p], #[t]⟩ oty >>= fun d => invoke d.target d.args) = _
  have e1 : #[p].map (ev e) = #[ev e p] := by simp
  unfold resolve
  dsimp only
  rw [e1, hp]
  show cst P (Builtin.len_ #[t] oty #[.slice b m c] >>= fun v => pure (Next.value v)) = _
  unfold Builtin.len_
  simp only [List.getElem?_toArray, List.getElem?_cons_zero]
  rw [cst_of_run, cst_of_run, sc.h]
  rfl
theorem qs_lens {d : Option Nat} {oty : TypeId} {pos : String} {af : Array Edge} {g : Option (Nat × Bool)} {t : TypeId} {p : Operand} {e : Nat → Value} {s : ByteArray} [sc : STY P t] (hp : ev e p = .string s) :
    Qs P ⟨d, .call ⟨.builtin .len, #[p], #[t]⟩, oty, pos, af, g⟩ e H M (.int .i64 s.size) := by
  refine qt_cst ?_
  show cst P (resolve (ev e) ⟨.builtin .len, #[p], #[t]⟩ oty >>= fun d => invoke d.target d.args) = _
  have e1 : #[p].map (ev e) = #[ev e p] := by simp
  unfold resolve
  dsimp only
  rw [e1, hp]
  show cst P (Builtin.len_ #[t] oty #[.string s] >>= fun v => pure (Next.value v)) = _
  unfold Builtin.len_
  simp only [List.getElem?_toArray, List.getElem?_cons_zero]
  rw [cst_of_run, cst_of_run, sc.h]
  rfl
theorem run_len {d : Nat} {oty : TypeId} {pos : String} {af : Array Edge} {g : Option (Nat × Bool)} {t : TypeId} {p : Operand} {b : Option Addr} {m c el : Nat} [sc : SC P t el] (hd : Nat.blt d n = true) (hw : ∀ j, wantE ⟨some d, .call ⟨.builtin .len, #[p], #[t]⟩, oty, pos, af, g⟩ all (mk l j) = true)
    (hp : ∀ j, ev (mk l j) p = .slice b m c) (h : Run P f n R (.ops all rest :: k) ((d, .int .i64 m) :: l) H M) : Run P f n R (.ops all (⟨some d, .call ⟨.builtin .len, #[p], #[t]⟩, oty, pos, af, g⟩ :: rest) :: k) l H M :=
  run_qt _ (by exact hd) hw (fun j => (qs_len (hp j)).qt) h
theorem ql_len {d : Nat} {oty : TypeId} {pos : String} {af : Array Edge} {g : Option (Nat × Bool)} {t : TypeId} {p : Operand} {b : Option Addr} {m c el : Nat} [sc : SC P t el] (hd : Nat.blt d n = true) (hw : ∀ j, wantE ⟨some d, .call ⟨.builtin .len, #[p], #[t]⟩, oty, pos, af, g⟩ all (mk l j) = true)
    (hp : ∀ j, ev (mk l j) p = .slice b m c) (h : QL P n all H M rest ((d, .int .i64 m) :: l) l2) : QL P n all H M (⟨some d, .call ⟨.builtin .len, #[p], #[t]⟩, oty, pos, af, g⟩ :: rest) l l2 :=
  .yes _ (by exact hd) hw (fun j => qs_len (hp j)) h
theorem qc_len {d : Nat} {oty : TypeId} {pos : String} {af : Array Edge} {g : Option (Nat × Bool)} {t : TypeId} {p : Operand} {b : Option Addr} {m c el : Nat} [sc : SC P t el] (hd : Nat.blt d n = true) (hw : ∀ j, wantE ⟨some d, .call ⟨.builtin .len, #[p], #[t]⟩, oty, pos, af, g⟩ all (mk l j) = true)
    (hp : ∀ j, ev (mk l j) p = .slice b m c) (hs : ∀ S H M, I S H M → I (sset S q) H M) (h : QC P n all I (q + 1) rest ((d, .int .i64 m) :: l) l2) : QC P n all I q (⟨some d, .call ⟨.builtin .len, #[p], #[t]⟩, oty, pos, af, g⟩ :: rest) l l2 :=
  qc_qs _ (by exact hd) hw (fun j _ _ _ _ => qs_len (hp j)) hs h
theorem run_lens {d : Nat} {oty : TypeId} {pos : String} {af : Array Edge} {g : Option (Nat × Bool)} {t : TypeId} {p : Operand} {s : ByteArray} [sc : STY P t] (hd : Nat.blt d n = true) (hw : ∀ j, wantE ⟨some d, .call ⟨.builtin .len, #[p], #[t]⟩, oty, pos, af, g⟩ all (mk l j) = true)
    (hp : ∀ j, ev (mk l j) p = .string s) (h : Run P f n R (.ops all rest :: k) ((d, .int .i64 s.size) :: l) H M) : Run P f n R (.ops all (⟨some d, .call ⟨.builtin .len, #[p], #[t]⟩, oty, pos, af, g⟩ :: rest) :: k) l H M :=
  run_qt _ (by exact hd) hw (fun j => (qs_lens (hp j)).qt) h
end
end Go.Cam
/- Slices of one's own, beside other blocks that one knows. -/
namespace Go.Cam
theorem Own.has' {M : Heap} {e sz c : Nat} {v : Value} {xs : List Value} (h : Own M e sz v xs) (hc : ob v = some c) : ∃ cs, M c = some (.cells cs e (0, 0)) := by
  rcases h with ⟨rfl, _⟩ | ⟨b, len, cap, cs, rfl, _, _, _, hm, _⟩
  · simp [ob] at hc
  · simp [ob] at hc; subst hc; exact ⟨cs, hm⟩
/-- a slice of one's own that is none of the blocks bs, and none that stood at the beginning -/
structure Mn (M0 : Heap) (bs : List Nat) (e sz : Nat) (M : Heap) (v : Value) (xs : List Value) : Prop where
  own : Own M e sz v xs
  out : ∀ c, ob v = some c → c ∉ bs ∧ ∀ o, M0 c ≠ some o
section
variable {M0 M M' : Heap} {bs : List Nat} {e sz r : Nat} {v v' : Value} {xs ys : List Value}
theorem Mn.ch (h : Mn M0 bs e sz M v xs) {cs : List Nat} (hc : Ch cs M M') (hs : ∀ c, c ∈ cs → c ∈ bs) : Mn M0 bs e sz M' v xs :=
  ⟨h.own.frame fun c o hv ho => hc c o (fun e => (h.out c hv).1 (hs c e)) ho, h.out⟩
theorem Mn.new (h : Mn M0 bs e sz M v xs) (hc : New M r M') : Mn M0 bs e sz M' v xs :=
  ⟨h.own.frame fun c o _ ho => (hc c o ho).1, h.out⟩
theorem Mn.ne (h : Mn M0 bs e sz M v xs) (hc : New M r M') : ob v ≠ some r := fun e => by
  obtain ⟨cs, hm⟩ := h.own.has' e
  exact (hc _ _ hm).2 rfl
theorem Mn.put (h : Mn M0 bs e sz M v xs) (hc : Put M r M') (hne : ob v ≠ some r) : Mn M0 bs e sz M' v xs :=
  ⟨h.own.frame fun c o hv ho => hc c o (fun e => hne (e ▸ hv)) ho, h.out⟩
theorem Mn.app (h : Mn M0 bs e sz M v xs) (hch : Ch bs M0 M) (hb : ∀ c, c ∈ bs → ∃ o, M c = some o) (ho : Own M' e sz v' ys) (ha : App M v M' v') :
    Mn M0 bs e sz M' v' ys ∧ Ch bs M0 M' ∧ ∀ c, c ∈ bs → ∀ o, M c = some o → M' c = some o := by
  have hvb : ∀ c, c ∈ bs → ob v ≠ some c := fun c hc e => (h.out c e).1 hc
  refine ⟨⟨ho, fun c hc => ⟨fun e => ?_, fun o hm => ?_⟩⟩, fun c o hc hm => ?_, fun c hc o hm => (ha c o (hvb c hc) hm).1⟩
  · obtain ⟨ob1, hb1⟩ := hb c e
    exact (ha c ob1 (hvb c e) hb1).2 hc
  · have hcb : c ∉ bs := fun e => by obtain ⟨ob1, hb1⟩ := hb c e; exact (ha c ob1 (hvb c e) hb1).2 hc
    have h1 := hch c o hcb hm
    have hvc : ob v ≠ some c := fun e => (h.out c e).2 o hm
    exact (ha c o hvc h1).2 hc
  · have hvc : ob v ≠ some c := fun e => (h.out c e).2 o hm
    exact (ha c o hvc (hch c o hc hm)).1
/-- a slice that was just written out -/
theorem Mn.made {k : Nat} {cells : Array Value} (hr : M' r = some (.cells cells e (0, 0))) (hk : New M r M') (hch : Ch bs M0 M) (hb : ∀ c, c ∈ bs → ∃ o, M c = some o) (hs : cells.size = k * sz) : Mn M0 bs e sz M' (.slice (some ⟨r, 0, none⟩) k k) cells.toList := by
  refine ⟨.inr ⟨r, k, k, cells, rfl, by simpa using hs, hs, Nat.le_refl _, hr, List.take_of_length_le (Nat.le_refl _)⟩, fun c hc => ?_⟩
  simp only [ob, Option.some.injEq] at hc
  subst hc
  have hnb : r ∉ bs := fun e => by obtain ⟨o, ho⟩ := hb r e; exact (hk _ _ ho).2 rfl
  exact ⟨hnb, hk.none hch hnb⟩
/-- as many elements as there are, and where they lie -/
theorem Mn.at (h : Mn M0 bs e sz M v xs) (n : Nat) (hn : xs.length = n * sz) (h0 : 0 < n) (hz : 0 < sz) :
    ∃ b cap cs, v = .slice (some ⟨b, 0, none⟩) n cap ∧ cs.size = cap * sz ∧ n ≤ cap ∧ M b = some (.cells cs e (0, 0)) ∧ cs.toList.take (n * sz) = xs ∧ b ∉ bs ∧ ∀ o, M0 b ≠ some o := by
  rcases h.own with ⟨_, rfl⟩ | ⟨b, len, cap, cs, rfl, h1, h2, h3, h4, h5⟩
  · have := Nat.mul_pos h0 hz; simp at hn; omega
  · have : len = n := Nat.eq_of_mul_eq_mul_right hz (h1 ▸ hn)
    subst this
    exact ⟨b, cap, cs, rfl, h2, h3, h4, by rw [← hn]; exact h5, h.out b rfl⟩
end
theorem Ch.out {M0 M M1 : Heap} {b : Nat} {bs : List Nat} (a : Ch bs M0 M) (h : Ch [b] M M1) (hb : ∀ o, M0 b ≠ some o) : Ch bs M0 M1 := fun c o hc ho => h c o (fun e => hb o (by rw [← List.mem_singleton.1 e]; exact ho)) (a c o hc ho)
theorem take_get {cs : Array Value} {xs : List Value} {n : Nat} (h : cs.toList.take n = xs) {i : Nat} (hi : i < n) : cs[i]? = xs[i]? := by
  rw [← h, List.getElem?_take, if_pos hi]; simp
end Go.Cam
