/- Regions that draw their order, in general: what holds when a set of their operations is done. -/
import Derived.Test.YtmlddafbenfilaaDoorCamF
import Derived.Orders
import Derived.WalkKit
import Derived.Test.YtmlddafbenfilaaDoorCamB
import Derived.ProofKit
import Derived.Carry
import Derived.OpenShut
import Derived.OrdersHeld
import Derived.Deep.Slices
namespace Go.Cam
def sset (S : Nat → Bool) (k : Nat) : Nat → Bool := fun i => bif Nat.beq i k then true else S i
theorem sset_self (S : Nat → Bool) (k : Nat) : sset S k k = true := by simp [sset]
theorem sset_ne (S : Nat → Bool) {k i : Nat} (h : i ≠ k) : sset S k i = S i := by simp [sset, beq_no h]
/-- the first operation that fills a slot -/
def widx (t : Nat) : Nat → List Oper → Option Nat
  | _, [] => none
  | k, o :: r => if o.dst = some t then some k else widx t (k + 1) r
theorem widx_spec {t : Nat} : ∀ {os : List Oper} {k q : Nat}, widx t k os = some q → k ≤ q ∧ ∃ o, os[q - k]? = some o ∧ o.dst = some t
  | [], k, q, h => by simp [widx] at h
  | o :: r, k, q, h => by
    unfold widx at h
    split at h
    · rename_i e; cases h; exact ⟨Nat.le_refl _, o, by simp, e⟩
    · obtain ⟨h1, o', h2, h3⟩ := widx_spec h
      refine ⟨by omega, o', ?_, h3⟩
      have : q - k = (q - (k + 1)) + 1 := by omega
      rw [this, List.getElem?_cons_succ]; exact h2
def nowEdge (o : Oper) (j : Nat) : Bool := o.after.any fun e => Region.binds .any e && Nat.beq e.on j
/-- the row of operations may be carried out in whatever order: each looks only at what stands when it comes up -/
def drawB (os : List Oper) : Bool :=
  Region.noSelect os.toArray && (List.range os.length).all fun i => match os[i]? with
    | none => true
    | some o => (o.after.all fun e => !Region.binds .any e || Nat.blt e.on i) && (match o.dst with | some t => widx t 0 os == some i | none => true) &&
        (o.looksAt os.toArray).all fun t => match widx t 0 os with
          | none => true
          | some q => Nat.beq q i || (nowEdge o q) || (match os[q]? with | some o' => nowEdge o' i | none => false)
structure Draw (os : List Oper) : Prop where
  sel : Region.noSelect os.toArray = true
  lt : ∀ i o, os[i]? = some o → ∀ e ∈ o.after, Region.binds .any e = true → e.on < i
  uniq : ∀ i o t, os[i]? = some o → o.dst = some t → widx t 0 os = some i
  look : ∀ i o, os[i]? = some o → ∀ t ∈ o.looksAt os.toArray, ∀ q, widx t 0 os = some q → q = i ∨ (∃ e ∈ o.after, Region.binds .any e = true ∧ e.on = q) ∨ ∃ o', os[q]? = some o' ∧ ∃ e ∈ o'.after, Region.binds .any e = true ∧ e.on = i
theorem nowEdge_spec {o : Oper} {j : Nat} (h : nowEdge o j = true) : ∃ e ∈ o.after, Region.binds .any e = true ∧ e.on = j := by
  unfold nowEdge at h
  obtain ⟨e, he, hb⟩ := Array.any_eq_true'.1 h
  simp only [Bool.and_eq_true] at hb
  exact ⟨e, he, hb.1, Nat.eq_of_beq_eq_true hb.2⟩
theorem drawB_spec {os : List Oper} (h : drawB os = true) : Draw os := by
  unfold drawB at h
  simp only [Bool.and_eq_true, List.all_eq_true, List.mem_range] at h
  obtain ⟨hs, h⟩ := h
  have lt : ∀ i o, os[i]? = some o → i < os.length := fun i o ho => (List.getElem?_eq_some_iff.1 ho).1
  refine ⟨hs, fun i o ho e he hb => ?_, fun i o t ho ht => ?_, fun i o ho t ht q hq => ?_⟩
  · have := h i (lt i o ho)
    rw [ho] at this
    simp only [Bool.and_eq_true, Array.all_eq_true_iff_forall_mem] at this
    have := this.1.1 e he
    simpa [hb] using this
  · have := h i (lt i o ho)
    rw [ho] at this
    simp only [Bool.and_eq_true] at this
    have := this.1.2
    rw [ht] at this
    simpa using this
  · have := h i (lt i o ho)
    rw [ho] at this
    simp only [Bool.and_eq_true, List.all_eq_true] at this
    have := this.2 t ht
    rw [hq] at this
    simp only [Bool.or_eq_true] at this
    rcases this with (h1 | h1) | h1
    · exact .inl (Nat.eq_of_beq_eq_true h1)
    · exact .inr (.inl (nowEdge_spec h1))
    · cases ho' : os[q]? with
      | none => rw [ho'] at h1; cases h1
      | some o' => rw [ho'] at h1; exact .inr (.inr ⟨o', rfl, nowEdge_spec h1⟩)
/-- what the slots hold when the operations of S are done -/
def ES (os : List Oper) (e : Nat → Value) (vs : Nat → Value) (S : Nat → Bool) (t : Nat) : Value := match widx t 0 os with
  | some q => bif S q then vs q else e t
  | none => e t
theorem ES_put {os : List Oper} (hd : Draw os) (e : Nat → Value) (vs : Nat → Value) (S : Nat → Bool) {i : Nat} {o : Oper} (ho : os[i]? = some o) :
    put (ES os e vs S) o.dst (vs i) = ES os e vs (sset S i) := by
  funext t
  have hne : ∀ q, widx t 0 os = some q → o.dst ≠ some t → q ≠ i := fun q hq hd' e' => by
    subst e'
    obtain ⟨_, o', h1, h2⟩ := widx_spec hq
    rw [Nat.sub_zero, ho] at h1
    cases h1
    exact hd' h2
  cases hdst : o.dst with
  | none =>
    show ES os e vs S t = _
    unfold ES
    cases hq : widx t 0 os with
    | none => rfl
    | some q => simp only [sset_ne S (hne q hq (by rw [hdst]; simp))]
  | some d =>
    show (bif Nat.beq d t then vs i else ES os e vs S t) = _
    by_cases h : d = t
    · subst h
      have := hd.uniq i o d ho hdst
      simp [ES, this, sset_self]
    · rw [beq_no h, cond_false]
      unfold ES
      cases hq : widx t 0 os with
      | none => rfl
      | some q => simp only [sset_ne S (hne q hq (by rw [hdst]; simpa using h))]
/-- what one operation comes to, calls and all -/
def hmc (P : Program) (e : Sem Next) (H M : Heap) (K : Value → Heap → Heap → Prop) : Prop :=
  ∀ w0 w, Has w0 w H M → ∃ nx w1, e.run P w = .ok nx w1 ∧ match nx with
    | .value v => ∃ H' M', Has w0 w1 H' M' ∧ K v H' M'
    | .skip => ∃ H' M', Has w0 w1 H' M' ∧ K undef H' M'
    | .enter f args => Calls P f args w1 fun e w2 => ∃ v H' M', e = .returned v ∧ Has w0 w2 H' M' ∧ K v H' M'
    | _ => False
def Dep (o : Oper) (S : Nat → Bool) : Prop := ∀ e ∈ o.after, Region.binds .any e = true → S e.on = true
theorem count_set {listed : Array Bool} {i : Nat} (h : listed.getD i true = false) : (listed.setIfInBounds i true).toList.count false + 1 = listed.toList.count false := by
  have hlt : i < listed.size := by
    rcases Nat.lt_or_ge i listed.size with h' | h'
    · exact h'
    · simp [Array.getElem?_eq_none h'] at h
  have hv : listed[i] = false := by simpa [hlt] using h
  have h2 : listed.toList.set i true = (listed.setIfInBounds i true).toList := by simp
  rw [← h2]
  have hl : i < listed.toList.length := by simpa using hlt
  rw [List.set_eq_take_append_cons_drop, if_pos hl]
  have h3 : listed.toList = listed.toList.take i ++ listed.toList[i] :: listed.toList.drop (i + 1) := by
    rw [← List.drop_eq_getElem_cons hl]; simp
  have h4 : listed.toList[i] = false := by simpa using hv
  rw [h4] at h3
  conv => rhs; rw [h3]
  simp [List.count_append]
  omega
section
variable {P : Program} {n : Nat} {I : (Nat → Bool) → Heap → Heap → Prop} {os : List Oper} {l : List (Nat × Value)}
end
section
variable {P : Program} {n : Nat} {all : Array Oper} {I : (Nat → Bool) → Heap → Heap → Prop} {k : Nat} {l l2 : List (Nat × Value)} {rest : List Oper}
end
end Go.Cam
/- Comparisons whose answer is a law of its own; numbers. -/
namespace Go.Cam
section
variable {P : Program} {f : FuncId} {n : Nat} {R : Post} {k : List It} {l l2 : List (Nat × Value)} {H M : Heap} {all : Array Oper} {rest : List Oper} {I : (Nat → Bool) → Heap → Heap → Prop} {q : Nat}
theorem qs_binw {o : Oper} {e : Nat → Value} {op : BinOp} {t t2 : TypeId} {x y : Operand} {v : Value} (ho : o.op = .binOp op t x y t2) (hg : cst P (eqGuard op t x y (ev e x) (ev e y)) = some ()) (hv : ∀ w, (binOp op t (ev e x) (ev e y)).run P w = .ok v w) : Qs P o e H M v := by
  refine qt_exec (s := do eqGuard op t x y (ev e x) (ev e y); binOp op t (ev e x) (ev e y)) (by unfold execOp; rw [ho]) fun w0 w _ => ?_
  rw [hm_run_bind _ _ w (cst_run _ hg w)]
  exact hv w
end
end Go.Cam
/- The builtin len; its forms. -/
namespace Go.Cam
class STY (P : Program) (t : Nat) : Prop where
  h : cst P (underlying t) = some .string
section
variable {P : Program} {f : FuncId} {n : Nat} {R : Post} {k : List It} {l l2 : List (Nat × Value)} {H M : Heap} {all : Array Oper} {rest : List Oper} {I : (Nat → Bool) → Heap → Heap → Prop} {q : Nat}
theorem qs_len {d : Option Nat} {oty : TypeId} {pos : String} {af : Array Edge} {g : Option (Nat × Bool)} {t : TypeId} {p : Operand} {e : Nat → Value} {b : Option Addr} {m c el : Nat} [sc : SC P t el] (hp : ev e p = .slice b m c) :
    Qs P ⟨d, .call ⟨.builtin .len, #[p], #[t]⟩, oty, pos, af, g⟩ e H M (.int .i64 m) := by
  refine qt_cst ?_
  show cst P (resolve (ev e) ⟨.builtin .len, #[p], #[t]⟩ oty >>= fun d => invoke d.target d.args) = _
  have e1 : #[p].map (ev e) = #[ev e p] := by simp
  unfold resolve
  dsimp only
  rw [e1, hp]
  show cst P (Builtin.len_ #[t] oty #[.slice b m c] >>= fun v => pure (Next.value v)) = _
  unfold Builtin.len_
  simp only [List.getElem?_toArray, List.getElem?_cons_zero]
  rw [cst_of_run, cst_of_run, sc.h]
  rfl
theorem qs_lens {d : Option Nat} {oty : TypeId} {pos : String} {af : Array Edge} {g : Option (Nat × Bool)} {t : TypeId} {p : Operand} {e : Nat → Value} {s : ByteArray} [sc : STY P t] (hp : ev e p = .string s) :
    Qs P ⟨d, .call ⟨.builtin .len, #[p], #[t]⟩, oty, pos, af, g⟩ e H M (.int .i64 s.size) := by
  refine qt_cst ?_
  show cst P (resolve (ev e) ⟨.builtin .len, #[p], #[t]⟩ oty >>= fun d => invoke d.target d.args) = _
  have e1 : #[p].map (ev e) = #[ev e p] := by simp
  unfold resolve
  dsimp only
  rw [e1, hp]
  show cst P (Builtin.len_ #[t] oty #[.string s] >>= fun v => pure (Next.value v)) = _
  unfold Builtin.len_
  simp only [List.getElem?_toArray, List.getElem?_cons_zero]
  rw [cst_of_run, cst_of_run, sc.h]
  rfl
end
end Go.Cam
/- Slices of one's own, beside other blocks that one knows. -/
namespace Go.Cam
theorem Own.has' {M : Heap} {e sz c : Nat} {v : Value} {xs : List Value} (h : Own M e sz v xs) (hc : ob v = some c) : ∃ cs, M c = some (.cells cs e (0, 0)) := by
  rcases h with ⟨rfl, _⟩ | ⟨b, len, cap, cs, rfl, _, _, _, hm, _⟩
  · simp [ob] at hc
  · simp [ob] at hc; subst hc; exact ⟨cs, hm⟩
/-- a slice of one's own that is none of the blocks bs, and none that stood at the beginning -/
structure Mn (M0 : Heap) (bs : List Nat) (e sz : Nat) (M : Heap) (v : Value) (xs : List Value) : Prop where
  own : Own M e sz v xs
  out : ∀ c, ob v = some c → c ∉ bs ∧ ∀ o, M0 c ≠ some o
section
variable {M0 M M' : Heap} {bs : List Nat} {e sz r : Nat} {v v' : Value} {xs ys : List Value}
theorem Mn.ch (h : Mn M0 bs e sz M v xs) {cs : List Nat} (hc : Ch cs M M') (hs : ∀ c, c ∈ cs → c ∈ bs) : Mn M0 bs e sz M' v xs :=
  ⟨h.own.frame fun c o hv ho => hc c o (fun e => (h.out c hv).1 (hs c e)) ho, h.out⟩
theorem Mn.new (h : Mn M0 bs e sz M v xs) (hc : New M r M') : Mn M0 bs e sz M' v xs :=
  ⟨h.own.frame fun c o _ ho => (hc c o ho).1, h.out⟩
theorem Mn.ne (h : Mn M0 bs e sz M v xs) (hc : New M r M') : ob v ≠ some r := fun e => by
  obtain ⟨cs, hm⟩ := h.own.has' e
  exact (hc _ _ hm).2 rfl
theorem Mn.put (h : Mn M0 bs e sz M v xs) (hc : Put M r M') (hne : ob v ≠ some r) : Mn M0 bs e sz M' v xs :=
  ⟨h.own.frame fun c o hv ho => hc c o (fun e => hne (e ▸ hv)) ho, h.out⟩
theorem Mn.app (h : Mn M0 bs e sz M v xs) (hch : Ch bs M0 M) (hb : ∀ c, c ∈ bs → ∃ o, M c = some o) (ho : Own M' e sz v' ys) (ha : App M v M' v') :
    Mn M0 bs e sz M' v' ys ∧ Ch bs M0 M' ∧ ∀ c, c ∈ bs → ∀ o, M c = some o → M' c = some o := by
  have hvb : ∀ c, c ∈ bs → ob v ≠ some c := fun c hc e => (h.out c e).1 hc
  refine ⟨⟨ho, fun c hc => ⟨fun e => ?_, fun o hm => ?_⟩⟩, fun c o hc hm => ?_, fun c hc o hm => (ha c o (hvb c hc) hm).1⟩
  · obtain ⟨ob1, hb1⟩ := hb c e
    exact (ha c ob1 (hvb c e) hb1).2 hc
  · have hcb : c ∉ bs := fun e => by obtain ⟨ob1, hb1⟩ := hb c e; exact (ha c ob1 (hvb c e) hb1).2 hc
    have h1 := hch c o hcb hm
    have hvc : ob v ≠ some c := fun e => (h.out c e).2 o hm
    exact (ha c o hvc h1).2 hc
  · have hvc : ob v ≠ some c := fun e => (h.out c e).2 o hm
    exact (ha c o hvc (hch c o hc hm)).1
/-- as many elements as there are, and where they lie -/
theorem Mn.at (h : Mn M0 bs e sz M v xs) (n : Nat) (hn : xs.length = n * sz) (h0 : 0 < n) (hz : 0 < sz) :
    ∃ b cap cs, v = .slice (some ⟨b, 0, none⟩) n cap ∧ cs.size = cap * sz ∧ n ≤ cap ∧ M b = some (.cells cs e (0, 0)) ∧ cs.toList.take (n * sz) = xs ∧ b ∉ bs ∧ ∀ o, M0 b ≠ some o := by
  rcases h.own with ⟨_, rfl⟩ | ⟨b, len, cap, cs, rfl, h1, h2, h3, h4, h5⟩
  · have := Nat.mul_pos h0 hz; simp at hn; omega
  · have : len = n := Nat.eq_of_mul_eq_mul_right hz (h1 ▸ hn)
    subst this
    exact ⟨b, cap, cs, rfl, h2, h3, h4, by rw [← hn]; exact h5, h.out b rfl⟩
end
theorem Ch.out {M0 M M1 : Heap} {b : Nat} {bs : List Nat} (a : Ch bs M0 M) (h : Ch [b] M M1) (hb : ∀ o, M0 b ≠ some o) : Ch bs M0 M1 := fun c o hc ho => h c o (fun e => hb o (by rw [← List.mem_singleton.1 e]; exact ho)) (a c o hc ho)
end Go.Cam
/- Regions that draw their order and make one block on the way. -/
namespace Go.Cam
section
variable {P : Program} {n : Nat} {I : Nat → (Nat → Bool) → Heap → Heap → Prop} {os : List Oper} {l : List (Nat × Value)}
end
end Go.Cam
/- From a walk over known blocks to what a row of the law asks. -/
namespace Go.Cam
open Go.ChangeShapes Go.WideShapes Go.ChangeAt Go.RowKit
/-- the blocks of a world, held -/
def held (W : World) : Heap := fun b => W.heap[b]?
def nil : Heap := fun _ => none
theorem Has.start (W : World) : Has W W (held W) nil :=
  ⟨rfl, rfl, rfl, Nat.le_refl _, fun _ _ h => h, fun _ _ h => (nomatch h), fun _ _ => rfl⟩
section
variable {H : Type} {enc : TypeId × Value → H} {P : Program}
theorem trodAll_below (hl : laidOutB P = true) {W W' : World} (hb : Below W.heap.size W W') : ∀ {ts : List TypeId} {vs : List Value} {ds : List (DataW H)} {ps : List MemPlace}, ts.all (fun t => P.readableRec t && decide (t < P.types.size)) = true →
    DataW.TrodAll enc P W 0 (fun _ => true) true ts vs ds ps → (∀ x ∈ ps, x.block < W.heap.size) → DataW.TrodAll enc P W' 0 (fun b => decide (b < W.heap.size)) true ts vs ds ps
  | [], vs, ds, ps, _, h, _ => by
    obtain ⟨rfl, rfl, rfl⟩ := trodAll_nil h
    exact h
  | t :: ts, vs, ds, ps, hr, h, hlt => by
    simp only [List.all_cons, Bool.and_eq_true, decide_eq_true_eq] at hr
    obtain ⟨v, vs', d, ds', p, q, rfl, rfl, rfl, h1, h2⟩ := trodAll_cons h
    exact trodAll_cons_mk (Below.trod hl hr.1.1 hr.1.2 h1 hb fun x hx => hlt x (by simp [hx])) (trodAll_below hl hb hr.2 h2 fun x hx => hlt x (by simp [hx]))
/-- the law answers true, and what it was handed reads as it did -/
theorem law_post {f : Func} {s : ChangeSpec} {W W' : World} {args : Array Value} {ds gs : List (DataW H)} {before : List MemPlace} {tb : TypeId} (hl : laidOutB P = true) (hr : f.params.toList.all (fun t => P.readableRec t && decide (t < P.types.size)) = true)
    (hv : s.vars = []) (hf : (s.fn H (ds ++ gs)).results = [.lit (.bool true)] ∧ (s.fn H (ds ++ gs)).args = ds ∧ (s.fn H (ds ++ gs)).vars = []) (hrt : f.resultTypes = #[tb]) (htb : P.underlying tb = some .bool)
    (hW : DataW.Whole enc P f.params.toList s.vars false W args.toList ds gs before) (hb : Below W.heap.size W W') : s.post enc P f false true false false W args (.bool true) W' := by
  have hW' := hW
  obtain ⟨p, q, hA, hV, rfl, _, _⟩ := hW
  rw [hv] at hV
  obtain ⟨rfl, rfl⟩ := trodVars_none hV
  have hlt : ∀ x ∈ p, x.block < W.heap.size := fun x hx => by simpa using hW'.lt x (by simp [hx])
  refine ⟨ds, [], p ++ [], [], p, [], hW', ?_, ?_, ?_, hb.frame _, fun h => by cases h⟩
  · rw [hf.1, hrt]
    exact trodAll_cons_mk (shut_bool htb _) trodAll_mk0
  · rw [hf.2.1]
    exact trodAll_below hl hb hr hA hlt
  · rw [hf.2.2, hv]; exact rfl
end
end Go.Cam
/- Regions that draw, walked in an order of one's own; slices of slices. -/
namespace Go.Cam
section
variable {P : Program} {n : Nat} {os : List Oper}
end
end Go.Cam
/- Slices of slices; slices that begin empty; append within a tail. -/
namespace Go.Cam
/-- the bounds as they are written -/
def loB (e : Nat → Value) (lo : Option Operand) (l : Nat) : Prop := match lo with | none => l = 0 | some y => ∃ k, ev e y = .int k l
def hiB (e : Nat → Value) (hi : Option Operand) (len h : Nat) : Prop := match hi with | none => h = len | some y => ∃ k, ev e y = .int k h
section
variable {P : Program} {H M : Heap}
theorem cst_sliceBound {v : Value} {k : IntKind} {i y : Nat} {code : BoundsCode} (hv : v = .int k i) (h : i ≤ y) : cst P (Instr.sliceBound v y code) = some i := by
  subst hv
  unfold Instr.sliceBound
  rw [cst_bind (show cst P (asIntOf (.int k (i : Int))) = some (k, (i : Int)) from rfl)]
  dsimp only
  rw [if_pos (by omega)]
  simp [cst, pure]
end
section
variable {P : Program} {f : FuncId} {n : Nat} {R : Post} {k : List It} {l l2 : List (Nat × Value)} {H M : Heap} {all : Array Oper} {rest : List Oper} {K : List (Nat × Value) → Heap → Heap → Prop}
theorem hm_bs0 {t el : Nat} [sc : SC P t el] {sz : Nat} [hs : SZ P el sz] {K : Value → Heap → Heap → Prop} (h : ∀ r, Fresh H M r → K (.slice (some ⟨r, 0, none⟩) 0 0) H (upd M r (.cells #[] el))) : hm P (Instr.buildSlice t 0 #[]) H M K := by
  unfold Instr.buildSlice
  refine hm_bind (hm_cst sc.h ?_)
  dsimp only
  refine hm_bind (hm_cst hs.h ?_)
  rw [if_neg (by omega), if_pos (by omega)]
  refine hm_bind (hm_pure ?_)
  have e1 : (Array.range (0 * sz)).map (fun x => (#[] : Array Value)[x % (#[] : Array Value).size]!) = #[] := by simp
  rw [e1]
  show hm P (newRow el #[] >>= fun a => pure (.slice (some a) 0 0)) H M K
  exact hm_bind (hm_newRow fun r hr => hm_pure (h r hr))
theorem execOp_app (e : Nat → Value) {d : Option Nat} {pos : String} {af : Array Edge} {g : Option (Nat × Bool)} {t : TypeId} {p q : Operand} : execOp (ev e) ⟨d, .call ⟨.builtin .append, #[p, q], #[t, t]⟩, t, pos, af, g⟩ = (Builtin.append_ #[t, t] t #[ev e p, ev e q] >>= fun v => pure (Next.value v)) := by
  show (resolve (ev e) ⟨.builtin .append, #[p, q], #[t, t]⟩ t >>= fun d => invoke d.target d.args) = _
  have : #[p, q].map (ev e) = #[ev e p, ev e q] := by simp
  unfold resolve
  dsimp only
  rw [this]; rfl
end
theorem own_nil {M : Heap} {r e sz : Nat} (h : M r = some (.cells #[] e (0, 0))) : Own M e sz (.slice (some ⟨r, 0, none⟩) 0 0) [] := .inr ⟨r, 0, 0, #[], rfl, by simp, by simp, Nat.le_refl _, h, rfl⟩
end Go.Cam
/- Regions that draw, step by step: what may be taken first, and what alone may come up. -/
namespace Go.Cam
def Keeps (Ms M : Heap) : Prop := ∀ b o, Ms b = some o → M b = some o
theorem Keeps.nil (M : Heap) : Keeps nil M := fun _ _ h => (nomatch h)
theorem Keeps.refl (M : Heap) : Keeps M M := fun _ _ h => h
theorem Keeps.new {Ms M M' : Heap} {r : Nat} (h : Keeps Ms M) (k : New M r M') : Keeps Ms M' := fun b o hb => (k b o (h b o hb)).1
theorem Keeps.one {M : Heap} {b : Nat} {o : Obj} (h : M b = some o) : Keeps (upd Cam.nil b o) M := fun c o' hc => by
  by_cases e : c = b
  · subst e; rw [upd_same] at hc; cases hc; exact h
  · rw [upd_ne e] at hc; cases hc
section
variable {P : Program} {n : Nat} {os : List Oper} {H Ms M : Heap} {l l2 : List (Nat × Value)} {steps : List (Bool × Nat)} {K : List (Nat × Value) → Heap → Prop}
end
section
variable {P : Program} {f : FuncId} {n : Nat} {R : Post} {k : List It} {l : List (Nat × Value)} {H M : Heap}
end
end Go.Cam
/- Arrays that begin zero; numbers that were handed in. -/
namespace Go.Cam
section
variable {P : Program} {f : FuncId} {n : Nat} {R : Post} {k : List It} {l : List (Nat × Value)} {H M : Heap} {all : Array Oper} {rest : List Oper}
end
theorem Mn.nil {M0 M M' : Heap} {bs : List Nat} {e sz r : Nat} (hr : M' r = some (.cells #[] e (0, 0))) (hk : New M r M') (hch : Ch bs M0 M) (hb : ∀ c, c ∈ bs → ∃ o, M c = some o) : Mn M0 bs e sz M' (.slice (some ⟨r, 0, none⟩) 0 0) [] := by
  refine ⟨own_nil hr, fun c hc => ?_⟩
  simp only [ob, Option.some.injEq] at hc
  subst hc
  have hnb : r ∉ bs := fun e => by obtain ⟨o, ho⟩ := hb r e; exact (hk _ _ ho).2 rfl
  exact ⟨hnb, hk.none hch hnb⟩
end Go.Cam
/- What was handed in, as flat rows of cells: slices of structs. -/
namespace Go.Cam
open Go.ChangeShapes Go.WideShapes Go.Deep
inductive Kd where
  | int (k : IntKind)
  | str
  | bool
def Kd.fits : Kd → Value → Prop
  | .int k, v => ∃ n, v = .int k n ∧ (Lit.int k n).wf = true
  | .str, v => ∃ s : ByteArray, v = .string s ∧ s.size ≤ maxLen
  | .bool, v => ∃ b, v = .bool b
def Fit : List Kd → List Value → Prop
  | [], [] => True
  | k :: ks, v :: vs => k.fits v ∧ Fit ks vs
  | _, _ => False
theorem Fit.append : ∀ {a b : List Kd} {x y : List Value}, Fit a x → Fit b y → Fit (a ++ b) (x ++ y)
  | [], _, [], _, _, h => h
  | _ :: _, _, _ :: _, _, h1, h2 => ⟨h1.1, h1.2.append h2⟩
  | [], _, _ :: _, _, h, _ => h.elim
  | _ :: _, _, [], _, h, _ => h.elim
theorem Fit.len : ∀ {a : List Kd} {x : List Value}, Fit a x → x.length = a.length
  | [], [], _ => rfl
  | _ :: _, _ :: _, h => by simp [h.2.len]
  | [], _ :: _, h => h.elim
  | _ :: _, [], h => h.elim
section
variable {H : Type} {enc : TypeId × Value → H} {P : Program} {w : World} {base : Nat} {spare : Nat → Bool} {held : Bool}
/-- a slice of structs, each a flat row of cells that are only read -/
def Rows (H0 : Heap) (v : Value) (sz len : Nat) (row : Nat → List Value) : Prop :=
  ∃ base cap, v = .slice base len cap ∧ ∀ i, i < len → ∃ b off c ty fr, base = some ⟨b, off, none⟩ ∧ H0 b = some (.cells c ty fr) ∧ off + i * sz + sz ≤ c.size ∧ c.extract (off + i * sz) (off + i * sz + sz) = (row i).toArray
theorem cell_in {W : World} {b o : Nat} {v : Value} (h : W.cell? ⟨b, o, none⟩ = some v) : ∃ c ty fr, W.heap[b]? = some (.cells c ty fr) ∧ c[o]? = some v := by
  unfold World.cell? at h
  split at h
  · rename_i c ty fr hb
    exact ⟨c, ty, fr, hb, by simpa using h⟩
  · cases h
end
end Go.Cam
/- Assertions of known blocks, laid side by side: what a walk knows of the memory, as a list. -/
namespace Go.Cam
def Le (A B : Heap) : Prop := ∀ b o, A b = some o → B b = some o
theorem Le.refl (A : Heap) : Le A A := fun _ _ h => h
theorem Le.trans {A B C : Heap} (h : Le A B) (g : Le B C) : Le A C := fun b o e => g b o (h b o e)
/-- an assertion of held blocks and owned ones -/
structure HP where
  p : Heap → Heap → Prop
  mono : ∀ {H M H' M' : Heap}, Le H H' → Le M M' → p H M → p H' M'
def HP.own (b : Nat) (o : Obj) : HP := ⟨fun _ M => M b = some o, fun _ h2 h => h2 _ _ h⟩
def HP.star (A B : HP) : HP :=
  ⟨fun H M => ∃ M1 M2, Le M1 M ∧ Le M2 M ∧ (∀ b, M1 b = none ∨ M2 b = none) ∧ A.p H M1 ∧ B.p H M2,
   fun h1 h2 ⟨M1, M2, a, b, d, x, y⟩ => ⟨M1, M2, a.trans h2, b.trans h2, d, A.mono h1 (Le.refl _) x, B.mono h1 (Le.refl _) y⟩⟩
def HP.emp : HP := ⟨fun _ _ => True, fun _ _ _ => trivial⟩
def HP.per (φ : Heap → Prop) (m : ∀ {H H' : Heap}, Le H H' → φ H → φ H') : HP := ⟨fun H _ => φ H, fun h1 _ h => m h1 h⟩
def HP.ex {α : Type} (P : α → HP) : HP := ⟨fun H M => ∃ x, (P x).p H M, fun h1 h2 ⟨x, h⟩ => ⟨x, (P x).mono h1 h2 h⟩⟩
def HP.and (φ : Prop) (A : HP) : HP := ⟨fun H M => φ ∧ A.p H M, fun h1 h2 h => ⟨h.1, A.mono h1 h2 h.2⟩⟩
/-- an assertion that needs no block of its own -/
class Per (A : HP) : Prop where
  h : ∀ {H M M' : Heap}, A.p H M → A.p H M'
instance (φ : Heap → Prop) (m) : Per (HP.per φ m) := ⟨fun h => h⟩
instance : Per HP.emp := ⟨fun h => h⟩
def Sat : List HP → HP
  | [] => .emp
  | a :: r => a.star (Sat r)
theorem star_swap {A B C : HP} {H M : Heap} (h : (A.star (B.star C)).p H M) : (B.star (A.star C)).p H M := by
  obtain ⟨M1, M2, a1, a2, d, hA, N1, N2, b1, b2, e, hB, hC⟩ := h
  refine ⟨N1, fun c => match M1 c with | some o => some o | none => N2 c, b1.trans a2, ?_, ?_, hB, M1, N2, ?_, ?_, ?_, hA, hC⟩
  · intro c o hc
    dsimp only at hc
    cases h1 : M1 c with
    | some o' => rw [h1] at hc; cases hc; exact a1 _ _ h1
    | none => rw [h1] at hc; exact a2 _ _ (b2 _ _ hc)
  · intro c
    dsimp only
    cases h1 : N1 c with
    | none => exact .inl rfl
    | some o =>
      refine .inr ?_
      rcases d c with h2 | h2
      · rw [h2]
        rcases e c with h3 | h3
        · rw [h1] at h3; cases h3
        · exact h3
      · have := b1 _ _ h1; rw [h2] at this; cases this
  · intro c o hc; dsimp only; rw [hc]
  · intro c o hc
    dsimp only
    cases h1 : M1 c with
    | none => exact hc
    | some o' =>
      rcases d c with h2 | h2
      · rw [h1] at h2; cases h2
      · have := b2 _ _ hc; rw [h2] at this; cases this
  · intro c
    rcases d c with h2 | h2
    · exact .inl h2
    · cases h3 : N2 c with
      | none => exact .inr rfl
      | some o => have := b2 _ _ h3; rw [h2] at this; cases this
theorem star_mono {A B C : HP} (hBC : ∀ H M, B.p H M → C.p H M) {H M : Heap} (h : (A.star B).p H M) : (A.star C).p H M := by
  obtain ⟨M1, M2, a1, a2, d, hA, hB⟩ := h
  exact ⟨M1, M2, a1, a2, d, hA, hBC _ _ hB⟩
theorem star_monoL {A B C : HP} (hAC : ∀ H M, A.p H M → C.p H M) {H M : Heap} (h : (A.star B).p H M) : (C.star B).p H M := by
  obtain ⟨M1, M2, a1, a2, d, hA, hB⟩ := h
  exact ⟨M1, M2, a1, a2, d, hAC _ _ hA, hB⟩
/-- one assertion is picked out of a list -/
inductive Sel (a : HP) : List HP → List HP → Prop
  | here {r} : Sel a (a :: r) r
  | there {x r s} : Sel a r s → Sel a (x :: r) (x :: s)
theorem Sel.sat {a : HP} {As Bs : List HP} (s : Sel a As Bs) : ∀ {H M : Heap}, (Sat As).p H M → (a.star (Sat Bs)).p H M := by
  induction s with
  | here => exact fun h => h
  | there s ih => exact fun h => star_swap (star_mono (fun _ _ => ih) h)
theorem Sel.back {a : HP} {As Bs : List HP} (s : Sel a As Bs) : ∀ {H M : Heap}, (a.star (Sat Bs)).p H M → (Sat As).p H M := by
  induction s with
  | here => exact fun h => h
  | there s ih => exact fun h => star_mono (fun _ _ => ih) (star_swap h)
theorem star_fst {A B : HP} {H M : Heap} (h : (A.star B).p H M) : A.p H M := by
  obtain ⟨M1, M2, a1, a2, d, hA, hB⟩ := h; exact A.mono (Le.refl _) a1 hA
theorem star_snd {A B : HP} {H M : Heap} (h : (A.star B).p H M) : B.p H M := by
  obtain ⟨M1, M2, a1, a2, d, hA, hB⟩ := h; exact B.mono (Le.refl _) a2 hB
theorem Sel.hold {a : HP} {As Bs : List HP} (s : Sel a As Bs) {H M : Heap} (h : (Sat As).p H M) : a.p H M := star_fst (s.sat h)
/-- one assertion is put in another's place -/
inductive Upd (a b : HP) : List HP → List HP → Prop
  | here {r} : Upd a b (a :: r) (b :: r)
  | there {x r s} : Upd a b r s → Upd a b (x :: r) (x :: s)
theorem Upd.sels {a b : HP} {As Bs : List HP} (u : Upd a b As Bs) : ∃ Cs, Sel a As Cs ∧ Sel b Bs Cs := by
  induction u with
  | here => exact ⟨_, .here, .here⟩
  | there _ ih => obtain ⟨Cs, h1, h2⟩ := ih; exact ⟨_, h1.there, h2.there⟩
theorem own_write {b : Nat} {o o' : Obj} {X : HP} {H M : Heap} (h : ((HP.own b o).star X).p H M) : M b = some o ∧ ((HP.own b o').star X).p H (upd M b o') := by
  have hb : M b = some o := star_fst h
  refine ⟨hb, ?_⟩
  obtain ⟨M1, M2, a1, a2, d, hA, hB⟩ := h
  have h2 : M2 b = none := (d b).resolve_left (fun e => by rw [show M1 b = some o from hA] at e; cases e)
  refine ⟨upd M1 b o', M2, ?_, ?_, ?_, upd_same _ _ _, hB⟩
  · intro c o2 hc
    by_cases e : c = b
    · subst e; rw [upd_same] at hc ⊢; exact hc
    · rw [upd_ne e] at hc ⊢; exact a1 _ _ hc
  · intro c o2 hc
    by_cases e : c = b
    · subst e; rw [h2] at hc; cases hc
    · rw [upd_ne e]; exact a2 _ _ hc
  · intro c
    by_cases e : c = b
    · subst e; exact .inr h2
    · rw [upd_ne e]; exact d c
theorem own_new {o : Obj} {X : HP} {H M : Heap} {r : Nat} (hr : Fresh H M r) (h : X.p H M) : ((HP.own r o).star X).p H (upd M r o) := by
  refine ⟨upd (fun _ => none) r o, M, ?_, ?_, ?_, upd_same _ _ _, h⟩
  · intro c o2 hc
    by_cases e : c = r
    · subst e; rw [upd_same] at hc ⊢; exact hc
    · rw [upd_ne e] at hc; cases hc
  · intro c o2 hc; exact hr.old hc
  · intro c
    by_cases e : c = r
    · subst e; exact .inr hr.2
    · rw [upd_ne e]; exact .inl rfl
theorem own_freeze {b : Nat} {o : Obj} {X : HP} {H M : Heap} (hd : ∀ b, H b ≠ none → M b = none) (h : ((HP.own b o).star X).p H M) : Sub H M (upd H b o) (del M b) ∧ X.p (upd H b o) (del M b) := by
  have hb : M b = some o := star_fst h
  obtain ⟨M1, M2, a1, a2, d, hA, hB⟩ := h
  have h2 : M2 b = none := (d b).resolve_left (fun e => by rw [show M1 b = some o from hA] at e; cases e)
  refine ⟨Sub.freeze hb, X.mono ?_ ?_ hB⟩
  · intro c o2 hc
    by_cases e : c = b
    · subst e; have := hd c (by rw [hc]; simp); rw [hb] at this; cases this
    · rw [upd_ne e]; exact hc
  · intro c o2 hc
    by_cases e : c = b
    · subst e; rw [h2] at hc; cases hc
    · rw [del_ne e]; exact a2 _ _ hc
theorem per_add {A X : HP} [Per A] {H M M0 : Heap} (hA : A.p H M0) (h : X.p H M) : (A.star X).p H M :=
  ⟨fun _ => none, M, (fun _ _ h => nomatch h), Le.refl _, fun _ => .inl rfl, Per.h hA, h⟩
/-- what is asked of a list, and what is left -/
inductive Split : List HP → List HP → List HP → Prop
  | nil {As} : Split As [] As
  | cons {a As Bs Ps Rs} : Sel a As Bs → Split Bs Ps Rs → Split As (a :: Ps) Rs
  | per {a As Bs Ps Rs} [Per a] : Sel a As Bs → Split As Ps Rs → Split As (a :: Ps) Rs
theorem Split.sat {As Ps Rs : List HP} (s : Split As Ps Rs) : ∀ {H M : Heap}, (Sat As).p H M → (Sat (Ps ++ [Sat Rs])).p H M := by
  induction s with
  | nil => exact fun {H M} h => ⟨M, fun _ => none, Le.refl _, (fun _ _ h => nomatch h), fun _ => .inr rfl, h, trivial⟩
  | cons s _ ih => exact fun h => star_mono (fun _ _ => ih) (s.sat h)
  | per s _ ih => exact fun h => per_add (s.hold h) (ih h)
theorem Split.perx {a : HP} {As Bs Ps Rs : List HP} (s : Sel a As Bs) (_ : Per a) (r : Split As Ps Rs) : Split As (a :: Ps) Rs := .per s r
theorem Sat.app {As Rs : List HP} : ∀ {H M : Heap}, (Sat (As ++ [Sat Rs])).p H M → (Sat (As ++ Rs)).p H M := by
  induction As with
  | nil => exact fun h => star_fst h
  | cons a r ih => exact fun h => star_mono (fun _ _ => ih) h
/-- one list says what another one says -/
inductive Ent : List HP → List HP → Prop
  | nil {As} : Ent As []
  | cons {a As Bs Ps} : Sel a As Bs → Ent Bs Ps → Ent As (a :: Ps)
  | per {a As Bs Ps} [Per a] : Sel a As Bs → Ent As Ps → Ent As (a :: Ps)
theorem Ent.sat {As Ps : List HP} (s : Ent As Ps) : ∀ {H M : Heap}, (Sat As).p H M → (Sat Ps).p H M := by
  induction s with
  | nil => exact fun _ => trivial
  | cons s _ ih => exact fun h => star_mono (fun _ _ => ih) (s.sat h)
  | per s _ ih => exact fun h => per_add (s.hold h) (ih h)

class AppL (A B : List HP) (C : outParam (List HP)) : Prop where
  h : A ++ B = C
instance {B} : AppL [] B B := ⟨rfl⟩
instance {a A B C} [p : AppL A B C] : AppL (a :: A) B (a :: C) := ⟨by rw [List.cons_append, p.h]⟩
structure RunS (P : Program) (f : FuncId) (n : Nat) (R : Value → HP) (k : List It) (l : List (Nat × Value)) (As : List HP) : Prop where
  h : ∀ H M, (Sat As).p H M → Run P f n (fun v H' M' => (R v).p H' M') k l H M
instance {P f n R k l As} : CoeFun (RunS P f n R k l As) (fun _ => ∀ H M, (Sat As).p H M → Run P f n (fun v H' M' => (R v).p H' M') k l H M) := ⟨RunS.h⟩
def post (Q : Value → List HP → Prop) (F : HP) (v : Value) : HP :=
  ⟨fun H M => ∃ Bs, Q v Bs ∧ (Sat (Bs ++ [F])).p H M, fun h1 h2 ⟨Bs, q, s⟩ => ⟨Bs, q, (Sat _).mono h1 h2 s⟩⟩
/-- a contract: what it asks for, and what it comes to -/
def Ctr (P : Program) (f : FuncId) (args : List Value) (As : List HP) (Q : Value → List HP → Prop) : Prop :=
  ∀ (F : HP) H M, (Sat (As ++ [F])).p H M → ACalls P f args.toArray H M (fun v H' M' => (post Q F v).p H' M')
section
variable {P : Program} {f : FuncId} {n : Nat} {R : Value → HP} {k : List It} {l : List (Nat × Value)} {As : List HP} {all : Array Oper} {rest : List Oper}
theorem s_seq {x y : Code} (h : RunS P f n R (.code x :: .code y :: k) l As) : RunS P f n R (.code (.seq x y) :: k) l As := .mk fun _ _ s => run_seq (h _ _ s)
theorem s_skip (h : RunS P f n R k l As) : RunS P f n R (.code .skip :: k) l As := .mk fun _ _ s => run_skip (h _ _ s)
theorem s_block {id : Nat} {c : Code} (h : RunS P f n R (.code c :: .inBlock id :: k) l As) : RunS P f n R (.code (.block id c) :: k) l As := .mk fun _ _ s => run_block (h _ _ s)
theorem s_inBlock {id : Nat} (h : RunS P f n R k l As) : RunS P f n R (.inBlock id :: k) l As := .mk fun _ _ s => run_inBlock (h _ _ s)
theorem s_exit {id : Nat} {k2 : List It} (h : RunS P f n R k2 l As) (hx : xto id k = some k2 := by rfl) : RunS P f n R (.code (.exit id) :: k) l As := .mk fun _ _ s => run_exit hx (h _ _ s)
theorem s_region {id : Nat} {ops : List Oper} (h : RunS P f n R (.ops ops.toArray ops :: k) l As) : RunS P f n R (.code (.region id ops.toArray false) :: k) l As := .mk fun _ _ s => run_region (h _ _ s)
theorem s_nil (h : RunS P f n R k l As) : RunS P f n R (.ops all [] :: k) l As := .mk fun _ _ s => run_ops_nil (h _ _ s)
theorem s_cond {c : Operand} {x y : Code} (t : Bool) (ht : t = true → RunS P f n R (.code x :: k) l As) (hf : t = false → RunS P f n R (.code y :: k) l As)
    (hc : ∀ j, ev (mk l j) c = .bool t := by intro j; rfl) : RunS P f n R (.code (.cond c x y) :: k) l As :=
  .mk fun _ _ s => run_cond t hc (fun e => ht e _ _ s) (fun e => hf e _ _ s)
theorem s_if {c : Operand} {x y : Code} {p : Prop} [Decidable p] (ht : p → RunS P f n R (.code x :: k) l As) (hf : ¬ p → RunS P f n R (.code y :: k) l As)
    (hc : ∀ j, ev (mk l j) c = .bool (decide p) := by intro j; rfl) : RunS P f n R (.code (.cond c x y) :: k) l As :=
  s_cond (decide p) (fun h => ht (of_decide_eq_true h)) (fun h => hf (of_decide_eq_false h)) hc
/-- a condition that is known -/
theorem s_true {c : Operand} {x y : Code} (h : RunS P f n R (.code x :: k) l As) (hc : ∀ j, ev (mk l j) c = .bool true := by intro j; rfl) : RunS P f n R (.code (.cond c x y) :: k) l As :=
  s_cond true (fun _ => h) (fun e => nomatch e) hc
theorem s_false {c : Operand} {x y : Code} (h : RunS P f n R (.code y :: k) l As) (hc : ∀ j, ev (mk l j) c = .bool false := by intro j; rfl) : RunS P f n R (.code (.cond c x y) :: k) l As :=
  s_cond false (fun e => nomatch e) (fun _ => h) hc
theorem s_keep (l' : List (Nat × Value)) (h : RunS P f n R k l' As) (hl : ∀ j, agrees (mk l j) l' := by intro j; repeat (first | exact trivial | refine ⟨rfl, ?_⟩)) : RunS P f n R k l As := .mk fun _ _ s => run_keep l' hl (h _ _ s)
theorem s_ent {Bs : List HP} (h : RunS P f n R k l Bs) (he : Ent As Bs) : RunS P f n R k l As := .mk fun _ _ s => h _ _ (he.sat s)
theorem s_entF {Bs : List HP} (he : Ent As Bs) (h : RunS P f n R k l Bs) : RunS P f n R k l As := s_ent h he
theorem s_open {A B : HP} (he : ∀ H M, A.p H M → B.p H M) (h : RunS P f n R k l (B :: As)) : RunS P f n R k l (A :: As) := .mk fun _ _ s => h _ _ (star_monoL he s)
/-- to the front -/
theorem s_front {a : HP} {Bs : List HP} (s : Sel a As Bs) (h : RunS P f n R k l (a :: Bs)) : RunS P f n R k l As := .mk fun _ _ q => h _ _ (s.sat q)
theorem s_dup {a : HP} [Per a] {Bs : List HP} (s : Sel a As Bs) (h : RunS P f n R k l (a :: As)) : RunS P f n R k l As := .mk fun _ _ q => h _ _ (per_add (s.hold q) q)
/-- what holds of the memory may be known -/
theorem s_know {φ : Prop} {a : HP} {Bs : List HP} (s : Sel a As Bs) (hφ : ∀ H M, a.p H M → φ) (h : φ → RunS P f n R k l As) : RunS P f n R k l As := .mk fun _ _ q => h (hφ _ _ (s.hold q)) _ _ q

theorem s_nrm {A B C : List HP} [ap : AppL A B C] (h : RunS P f n R k l C) : RunS P f n R k l (A ++ B) := by rw [ap.h]; exact h
structure LookS (P : Program) (o : Oper) (l : List (Nat × Value)) (As : List HP) (v : Value) : Prop where
  h : ∀ j H M, (Sat As).p H M → Qs P o (mk l j) H M v
instance {P o l As v} : CoeFun (LookS P o l As v) (fun _ => ∀ j H M, (Sat As).p H M → Qs P o (mk l j) H M v) := ⟨LookS.h⟩
theorem s_look {d : Nat} {op : Op} {ty : TypeId} {pos : String} {af : Array Edge} {g : Option (Nat × Bool)} {v : Value} (hv : LookS P ⟨some d, op, ty, pos, af, g⟩ l As v)
    (h : RunS P f n R (.ops all rest :: k) ((d, v) :: l) As) (hd : Nat.blt d n = true := by rfl) (hw : ∀ j, wantE ⟨some d, op, ty, pos, af, g⟩ all (mk l j) = true := by intro j; rfl) :
    RunS P f n R (.ops all (⟨some d, op, ty, pos, af, g⟩ :: rest) :: k) l As := .mk fun _ _ s => run_qt v hd hw (fun j => (hv j _ _ s).qt) (h _ _ s)
theorem s_no {d : Nat} {op : Op} {ty : TypeId} {pos : String} {af : Array Edge} {g : Option (Nat × Bool)}
    (h : RunS P f n R (.ops all rest :: k) ((d, undef) :: l) As) (hw : ∀ j, wantE ⟨some d, op, ty, pos, af, g⟩ all (mk l j) = false := by intro j; rfl) (hd : Nat.blt d n = true := by rfl) :
    RunS P f n R (.ops all (⟨some d, op, ty, pos, af, g⟩ :: rest) :: k) l As := .mk fun _ _ s => run_no hd hw (h _ _ s)
/-- a pure operation -/
theorem s_p {d : Nat} {op : Op} {ty : TypeId} {pos : String} {af : Array Edge} {v : Value}
    (h : RunS P f n R (.ops all rest :: k) ((d, v) :: l) As) (hv : ∀ j, cst P (execOp (ev (mk l j)) ⟨some d, op, ty, pos, af, none⟩) = some (.value v) := by intro j; rfl) (hd : Nat.blt d n = true := by rfl) :
    RunS P f n R (.ops all (⟨some d, op, ty, pos, af, none⟩ :: rest) :: k) l As := .mk fun _ _ s => run_p hv hd (h _ _ s)
theorem s_y {d : Nat} {op : Op} {ty : TypeId} {pos : String} {af : Array Edge} {g : Option (Nat × Bool)} {v : Value}
    (h : RunS P f n R (.ops all rest :: k) ((d, v) :: l) As) (hw : ∀ j, wantE ⟨some d, op, ty, pos, af, g⟩ all (mk l j) = true := by intro j; rfl)
    (hv : ∀ j, cst P (execOp (ev (mk l j)) ⟨some d, op, ty, pos, af, g⟩) = some (.value v) := by intro j; rfl) (hd : Nat.blt d n = true := by rfl) :
    RunS P f n R (.ops all (⟨some d, op, ty, pos, af, g⟩ :: rest) :: k) l As := .mk fun _ _ s => run_y hv hd hw (h _ _ s)
/-- a loop -/
theorem s_loop {α : Type} {c : Code} (L : α → List (Nat × Value)) (I : α → List HP) (Pre : α → Prop) (μ : α → Nat) (a0 : α) (hp : Pre a0) (he : Ent As (I a0))
    (round : ∀ a, Pre a → (∀ a', Pre a' → μ a' < μ a → RunS P f n R (.inLoop c :: k) (L a') (I a')) → RunS P f n R (.code c :: .inLoop c :: k) (L a) (I a))
    (hl : ∀ j, agrees (mk l j) (L a0) := by intro j; repeat (first | exact trivial | refine ⟨rfl, ?_⟩)) : RunS P f n R (.code (.loop c) :: k) l As := .mk fun H M s =>
  run_loopI L (fun a H M => Pre a ∧ (Sat (I a)).p H M) μ a0 hl ⟨hp, he.sat s⟩ fun a H M ⟨hp, hs⟩ next =>
    round a hp (fun a' hp' hlt => .mk fun _ _ hs' => next a' _ _ ⟨hp', hs'⟩ hlt) H M hs
/-- a loop's first round, carried out -/
theorem s_unroll {c : Code} (h : RunS P f n R (.code c :: .inLoop c :: k) l As) : RunS P f n R (.code (.loop c) :: k) l As := .mk fun H M s => run_loop (h H M s)
/-- what is still to be done, proved once for all ways that come there -/
theorem s_join {k' : List It} {α : Type} (L : α → List (Nat × Value)) (I : α → List HP) (Pre : α → Prop) (K : ∀ a, Pre a → RunS P f n R k (L a) (I a))
    (h : (∀ a, Pre a → RunS P f n R k (L a) (I a)) → RunS P f n R k' l As) : RunS P f n R k' l As := h K
/-- what the program's table says of a function that is called -/
class FN (P : Program) (q : FuncId) : Prop where
  h : ∀ args, cst P (callFunc q args) = some (.enter q args)
theorem exec_call {q : FuncId} [fn : FN P q] {e : Nat → Value} {as : List Operand} {tys : Array TypeId} {d : Option Nat} {ty : TypeId} {pos : String} {af : Array Edge} {g : Option (Nat × Bool)} :
    cst P (execOp (ev e) ⟨d, .call ⟨.value (.func q), as.toArray, tys⟩, ty, pos, af, g⟩) = some (.enter q (as.map (ev e)).toArray) := by
  show cst P (callFunc q (#[] ++ as.toArray.map (ev e) ++ #[])) = _
  rw [fn.h]
  simp
theorem s_call {d : Nat} {ty : TypeId} {pos : String} {af : Array Edge} {g : Option (Nat × Bool)} {q : FuncId} {as : List Operand} {tys : Array TypeId} {args : List Value} {Ps Rs : List HP} {Q : Value → List HP → Prop} [FN P q]
    (ha : ∀ j, as.map (ev (mk l j)) = args := by intro j; rfl) (sp : Split As Ps Rs) (hs : Ctr P q args Ps Q) (h : ∀ v Bs, Q v Bs → RunS P f n R (.ops all rest :: k) ((d, v) :: l) (Bs ++ Rs))
    (hd : Nat.blt d n = true := by rfl)
    (hw : ∀ j, wantE ⟨some d, .call ⟨.value (.func q), as.toArray, tys⟩, ty, pos, af, g⟩ all (mk l j) = true := by intro j; rfl) :
    RunS P f n R (.ops all (⟨some d, .call ⟨.value (.func q), as.toArray, tys⟩, ty, pos, af, g⟩ :: rest) :: k) l As := .mk fun _ _ s =>
  run_callo hd hw (fun j => by rw [exec_call, ha j]) (hs (Sat Rs) _ _ (sp.sat s)) fun v _ _ ⟨Bs, hq, hb⟩ => h v Bs hq _ _ (Sat.app hb)
theorem s_enter {fn : Func} {c : Code} {args : List Value} {Ps : List HP} {Q : Value → List HP → Prop} (n : Nat) (l : List (Nat × Value)) (Cs : HP → List HP) (hf : P.funcs[f]? = some fn) (h : ∀ F, RunS P f n (post Q F) [.code c] l (Cs F))
    (hb : fn.body = some c := by rfl) (hn : fn.ntmps = n := by rfl) (hl : Nat.ble args.length n = true := by rfl) (hz : zipArgs 0 args = l := by rfl) (hC : ∀ F, Ps ++ [F] = Cs F := by intro F; rfl) : Ctr P f args Ps Q :=
  fun F _ _ s => enter hf hb hn (Nat.le_of_ble_eq_true hl) (by rw [hz]; exact h F _ _ (by rw [← hC F]; exact s))
end
end Go.Cam
