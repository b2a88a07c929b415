/- Regions that draw their order: those that look may come up at any time, the others one behind the other. -/
import Derived.Test.YtgbbcpfnmkeijaaGreatCamV
namespace Go.Cam
def vset (vs : Nat → Value) (i : Nat) (v : Value) : Nat → Value := fun q => bif Nat.beq q i then v else vs q
theorem vset_self (vs : Nat → Value) (i : Nat) (v : Value) : vset vs i v i = v := by simp [vset]
theorem vset_ne (vs : Nat → Value) {i q : Nat} (v : Value) (h : q ≠ i) : vset vs i v q = vs q := by simp [vset, beq_no h]
theorem ES_congr {os : List Oper} {e : Nat → Value} {vs vs' : Nat → Value} {S : Nat → Bool} (h : ∀ i, S i = true → vs i = vs' i) : ES os e vs S = ES os e vs' S := by
  funext t; unfold ES
  cases widx t 0 os with
  | none => rfl
  | some q =>
    dsimp only
    cases hq : S q with
    | false => rfl
    | true => rw [h q hq]
def Closed (os : List Oper) (S : Nat → Bool) : Prop := ∀ i o, os[i]? = some o → S i = true → Dep o S
section
variable {P : Program} {n : Nat} {os : List Oper} {l : List (Nat × Value)}
/-- whatever order: what holds of the operations that are done, and their values -/
theorem draw_sim (hd : Draw os) (j : Nat → Value) (w0 : World) (Q : Exit → Act → World → Prop) (J : (Nat → Bool) → (Nat → Value) → Heap → Heap → Prop)
    (hdin : ∀ (i : Nat) (o : Oper), os[i]? = some o → din n o.dst = true)
    (step : ∀ S vs H M (i : Nat) (o : Oper), J S vs H M → os[i]? = some o → Dep o S → S i = false → Closed os S →
      (wantE o os.toArray (ES os (mk l j) vs S) = true → hmc P (execOp (ev (ES os (mk l j) vs S)) o) H M fun v H' M' => J (sset S i) (vset vs i v) H' M') ∧
      (wantE o os.toArray (ES os (mk l j) vs S) = false → J (sset S i) (vset vs i undef) H M))
    (hQ : ∀ a w S vs H M, (∀ i, i < os.length → S i = true) → Agr n a (ES os (mk l j) vs S) → Has w0 w H M → J S vs H M → Q .normal a w) :
    ∀ (fuel : Nat) (listed : Array Bool) (a : Act) (w : World) (vs : Nat → Value) (H M : Heap), listed.size = os.length → listed.toList.count false ≤ fuel →
      Closed os (fun q => listed.getD q false) →
      Agr n a (ES os (mk l j) vs fun q => listed.getD q false) → Has w0 w H M → J (fun q => listed.getD q false) vs H M → wpAny P .any os.toArray Q fuel listed a w := by
  have hempty : ∀ (listed : Array Bool), listed.size = os.length → Region.ready .any os.toArray listed = [] → ∀ i, i < os.length → listed.getD i false = true := by
    intro listed hs hr i
    induction i using Nat.strongRecOn with
    | _ i ih =>
      intro hi
      cases hc : listed.getD i false with
      | true => rfl
      | false =>
        have hi' : i < listed.size := by omega
        have : i ∈ Region.ready .any os.toArray listed := by
          rw [mem_ready]
          refine ⟨?_, os[i], by simp [hi], fun e he hb => ?_⟩
          · simpa [hi'] using hc
          · have hlt := hd.lt i os[i] (List.getElem?_eq_getElem hi) e he hb
            exact ih e.on hlt (by omega)
        rw [hr] at this; cases this
  intro fuel
  induction fuel with
  | zero =>
    intro listed a w vs H M hs hcnt hcl ha hh hI
    have hall : ∀ i, i < os.length → listed.getD i false = true := by
      intro i hi
      cases hc : listed.getD i false with
      | true => rfl
      | false =>
        have hi' : i < listed.size := by omega
        have hv : listed[i] = false := by simpa [hi'] using hc
        have : false ∈ listed.toList := by rw [← hv]; simp
        have := List.count_pos_iff.2 this
        omega
    refine ⟨?_, hQ a w _ vs H M hall ha hh hI⟩
    rw [List.eq_nil_iff_forall_not_mem]
    intro i hi
    rw [mem_ready] at hi
    obtain ⟨h1, o, ho, _⟩ := hi
    have hlt : i < os.length := by have := (Array.getElem?_eq_some_iff.1 ho).1; simpa using this
    have h2 := hall i hlt
    have hi' : i < listed.size := by omega
    simp [hi'] at h1 h2
    rw [h1] at h2; cases h2
  | succ fuel ih =>
    intro listed a w vs H M hs hcnt hcl ha hh hI
    refine ⟨fun hr => hQ a w _ vs H M (hempty listed hs hr) ha hh hI, fun i hi => ?_⟩
    rw [mem_ready] at hi
    obtain ⟨hun, o, ho, hdep⟩ := hi
    have ho' : os[i]? = some o := by simpa using ho
    have hlt : i < os.length := (List.getElem?_eq_some_iff.1 ho').1
    have hi' : i < listed.size := by omega
    have hun' : listed.getD i false = false := by simpa [hi'] using hun
    have hset : (fun q => (listed.setIfInBounds i true).getD q false) = sset (fun q => listed.getD q false) i := by
      funext q
      by_cases e : q = i
      · subst e; rw [sset_self]; simp [hi']
      · rw [sset_ne _ e, getD_set_ne _ (Ne.symm e)]
    have next : ∀ v w1 H1 M1, Has w0 w1 H1 M1 → J (sset (fun q => listed.getD q false) i) (vset vs i v) H1 M1 → wpAny P .any os.toArray Q fuel (listed.setIfInBounds i true) (a.put o.dst v) w1 := by
      intro v w1 H1 M1 hh1 hI1
      refine ih _ _ _ (vset vs i v) H1 M1 (by simpa using hs) (by have := count_set hun; omega) ?_ ?_ hh1 (by rw [hset]; exact hI1)
      · intro q o2 ho2 hq e he hb
        by_cases e' : q = i
        · subst e'
          rw [ho'] at ho2; cases ho2
          exact getD_set_true (hdep e he hb)
        · dsimp only at hq
          rw [getD_set_ne _ (Ne.symm e')] at hq
          exact getD_set_true (hcl q o2 ho2 hq e he hb)
      · rw [hset, ← ES_put hd _ _ _ ho', vset_self, ES_congr (vs' := vs) fun q hq => vset_ne _ _ fun e => by subst e; rw [hun'] at hq; cases hq]
        exact ha.put _ _ (din_ok (hdin i o ho'))
    have hst := step (fun q => listed.getD q false) vs H M i o hI ho' (fun e he hb => hdep e he hb) hun' hcl
    have hwant : Region.wanted o (yielded os.toArray a.tmps) = wantE o os.toArray (ES os (mk l j) vs fun q => listed.getD q false) := wantE_ok ha _ _
    unfold wpOp
    rw [ho]
    dsimp only
    rw [hwant]
    cases hw : wantE o os.toArray (ES os (mk l j) vs fun q => listed.getD q false) with
    | true =>
      rw [if_pos rfl]
      refine .inl ?_
      unfold Oper.wp
      rw [ha.eval]
      obtain ⟨nx, w1, hrun, hnx⟩ := hst.1 hw w0 w hh
      rw [hrun]
      cases nx with
      | value v => obtain ⟨H1, M1, hh1, hI1⟩ := hnx; exact next v w1 H1 M1 hh1 hI1
      | skip => obtain ⟨H1, M1, hh1, hI1⟩ := hnx; exact next undef w1 H1 M1 hh1 hI1
      | enter f args =>
        refine Calls.mono hnx fun e w2 ⟨v, H1, M1, he, hh1, hI1⟩ => ?_
        subst he
        exact next v w2 H1 M1 hh1 hI1
      | _ => exact hnx.elim
    | false =>
      rw [if_neg (by simp)]
      exact next undef w H M hh (hst.2 hw)
end
theorem hmc_mono {P : Program} {e : Sem Next} {H M : Heap} {K K' : Value → Heap → Heap → Prop} (h : hmc P e H M K) (hk : ∀ v H' M', K v H' M' → K' v H' M') : hmc P e H M K' := by
  intro w0 w hh
  obtain ⟨nx, w1, hr, hn⟩ := h w0 w hh
  refine ⟨nx, w1, hr, ?_⟩
  cases nx <;> try exact hn
  · obtain ⟨H', M', a, b⟩ := hn; exact ⟨H', M', a, hk _ _ _ b⟩
  · obtain ⟨H', M', a, b⟩ := hn; exact ⟨H', M', a, hk _ _ _ b⟩
  · exact Calls.mono hn fun e w2 ⟨v, H', M', a, b, c⟩ => ⟨v, H', M', a, b, hk _ _ _ c⟩
/-- one operation, whatever it does; and one that leaves Z as it is -/
def StepS (P : Program) (o : Oper) (l : List (Nat × Value)) (A : HP) (K : Value → HP → Prop) : Prop :=
  ∀ j (F : HP) H M, (A.star F).p H M → hmc P (execOp (ev (mk l j)) o) H M fun v H' M' => ∃ A', K v A' ∧ (A'.star F).p H' M'
def QuS (P : Program) (o : Oper) (l : List (Nat × Value)) (Z : HP) (v : Value) : Prop :=
  ∀ j (F : HP) H M, (Z.star F).p H M → hmc P (execOp (ev (mk l j)) o) H M fun v' H' M' => v' = v ∧ (Z.star F).p H' M'
def QF (P : Program) (n : Nat) (all : Array Oper) (Z : HP) (o : Oper) (l : List (Nat × Value)) (v : Value) : Prop :=
  (∀ j, wantE o all (mk l j) = true) ∧ QuS P o l Z v ∨ (∀ j, wantE o all (mk l j) = false) ∧ v = undef
def DW (P : Program) (n : Nat) (os : List Oper) (Z : HP) (K : List (Nat × Value) → HP → Prop) : List (Bool × Nat) → List (Nat × Value) → HP → Prop
  | [], l, A => K l A
  | (b, i) :: r, l, A => ∃ o, os[i]? = some o ∧ din n o.dst = true ∧ match b with
    | true => ∃ v, QF P n os.toArray Z o l v ∧ DW P n os Z K r (putl l o.dst v) A
    | false => (∀ j, wantE o os.toArray (mk l j) = true) ∧ StepS P o l A (fun v A' => DW P n os Z K r (putl l o.dst v) A') ∨ (∀ j, wantE o os.toArray (mk l j) = false) ∧ DW P n os Z K r (putl l o.dst undef) A
def depN (os : List Oper) : Nat → Nat → Nat → Bool
  | 0, _, _ => false
  | k + 1, i, c => match os[i]? with
    | none => false
    | some o => o.after.any fun e => Region.binds .any e && (Nat.beq e.on c || depN os k e.on c)
theorem depN_spec {os : List Oper} {S : Nat → Bool} (hcl : Closed os S) : ∀ (k i c : Nat) (o : Oper), depN os k i c = true → os[i]? = some o → Dep o S → S c = true
  | 0, _, _, _, h, _, _ => by cases h
  | k + 1, i, c, o, h, ho, hdep => by
    unfold depN at h
    rw [ho] at h
    obtain ⟨e, he, hb⟩ := Array.any_eq_true'.1 h
    simp only [Bool.and_eq_true, Bool.or_eq_true] at hb
    obtain ⟨h1, h2 | h2⟩ := hb
    · rw [← Nat.eq_of_beq_eq_true h2]; exact hdep e he h1
    · cases ho2 : os[e.on]? with
      | none => cases k with
        | zero => cases h2
        | succ k => unfold depN at h2; rw [ho2] at h2; cases h2
      | some o2 => exact depN_spec hcl k e.on c o2 h2 ho2 (hcl _ _ ho2 (hdep e he h1))
def ordB (os : List Oper) : List (Bool × Nat) → List Nat → List Nat → Bool
  | [], done, _ => (List.range os.length).all fun i => done.contains i
  | (b, i) :: r, done, ch => !done.contains i && (match os[i]? with
      | none => false
      | some o => (o.after.all fun e => !Region.binds .any e || done.contains e.on) && ch.all fun c => depN os os.length i c) && ordB os r (i :: done) (if b then ch else i :: ch)
/-- what an order that is fit says at each of its places -/
structure Fits (os : List Oper) (p : List (Bool × Nat)) : Prop where
  all : ∀ i, i < os.length → i ∈ p.map (·.2)
  one : ∀ a b i r, p = a ++ (b, i) :: r → i ∉ a.map (·.2)
  dep : ∀ a b i r o, p = a ++ (b, i) :: r → os[i]? = some o → ∀ e ∈ o.after, Region.binds .any e = true → e.on ∈ a.map (·.2)
  chain : ∀ a b i r c o, p = a ++ (b, i) :: r → (false, c) ∈ a → os[i]? = some o → depN os os.length i c = true
theorem ordB_spec {os : List Oper} {p : List (Bool × Nat)} (h : ordB os p [] [] = true) : Fits os p := by
  have key : ∀ (r a : List (Bool × Nat)) (done ch : List Nat), (∀ i, i ∈ done ↔ i ∈ a.map (·.2)) → (∀ c, c ∈ ch ↔ (false, c) ∈ a) → ordB os r done ch = true →
      (∀ i, i < os.length → i ∈ (a ++ r).map (·.2)) ∧ (∀ a' b i r', r = a' ++ (b, i) :: r' → i ∉ (a ++ a').map (·.2)) ∧
      (∀ a' b i r' o, r = a' ++ (b, i) :: r' → os[i]? = some o → ∀ e ∈ o.after, Region.binds .any e = true → e.on ∈ (a ++ a').map (·.2)) ∧
      (∀ a' b i r' c o, r = a' ++ (b, i) :: r' → (false, c) ∈ a ++ a' → os[i]? = some o → depN os os.length i c = true) := by
    intro r
    induction r with
    | nil =>
      intro a done ch hd _ h
      simp only [ordB, List.all_eq_true, List.mem_range, List.contains_iff_mem] at h
      refine ⟨fun i hi => by rw [List.append_nil]; exact (hd i).1 (h i hi), ?_, ?_, ?_⟩
      · intro a' b i r' e; cases a' <;> cases e
      · intro a' b i r' o e; cases a' <;> cases e
      · intro a' b i r' c o e; cases a' <;> cases e
    | cons x r ih =>
      obtain ⟨b, i⟩ := x
      intro a done ch hd hc h
      simp only [ordB, Bool.and_eq_true] at h
      obtain ⟨⟨h1, h2⟩, h3⟩ := h
      obtain ⟨i1, i2, i3, i4⟩ := ih (a ++ [(b, i)]) (i :: done) (if b then ch else i :: ch) (by intro q; simp [hd q, or_comm]) (by
        intro c; cases b <;> simp [hc c, or_comm]) h3
      refine ⟨fun q hq => by have := i1 q hq; simpa using this, ?_, ?_, ?_⟩
      · intro a' b' i' r' e
        cases a' with
        | nil => cases e; simp only [List.append_nil]; intro hm; exact absurd ((hd i).2 hm) (by simpa using h1)
        | cons y a' => cases e; have := i2 a' b' i' r' rfl; simpa using this
      · intro a' b' i' r' o e ho
        cases a' with
        | nil =>
          cases e
          rw [ho] at h2
          simp only [Bool.and_eq_true, Array.all_eq_true_iff_forall_mem] at h2
          intro ed he hb
          have := h2.1 ed he
          simp only [hb, Bool.not_true, Bool.false_or, List.contains_iff_mem] at this
          rw [List.append_nil]; exact (hd _).1 this
        | cons y a' => cases e; have := i3 a' b' i' r' o rfl ho; simpa using this
      · intro a' b' i' r' c o e hm ho
        cases a' with
        | nil =>
          cases e
          rw [ho] at h2
          simp only [Bool.and_eq_true, List.all_eq_true] at h2
          exact h2.2 c ((hc c).2 (by simpa using hm))
        | cons y a' => cases e; exact i4 a' b' i' r' c o rfl (by simpa using hm) ho
  obtain ⟨a, b, c, d⟩ := key p [] [] [] (by simp) (by simp) h
  exact ⟨by simpa using a, by simpa using b, by simpa using c, by simpa using d⟩
def Lp (os : List Oper) (l : List (Nat × Value)) (vF : Nat → Value) (a : List (Bool × Nat)) : List (Nat × Value) := a.foldl (fun l x => putl l ((os[x.2]?).bind (·.dst)) (vF x.2)) l
theorem Lp_snoc (os : List Oper) (l : List (Nat × Value)) (vF : Nat → Value) (a : List (Bool × Nat)) (x : Bool × Nat) : Lp os l vF (a ++ [x]) = putl (Lp os l vF a) ((os[x.2]?).bind (·.dst)) (vF x.2) := by simp [Lp]
theorem Lp_congr {os : List Oper} {l : List (Nat × Value)} {vF vF' : Nat → Value} : ∀ {a : List (Bool × Nat)} , (∀ x ∈ a, vF x.2 = vF' x.2) → Lp os l vF a = Lp os l vF' a := by
  intro a
  unfold Lp
  induction a generalizing l with
  | nil => intro _; rfl
  | cons x a ih =>
    intro h
    simp only [List.foldl_cons]
    rw [h x (by simp)]
    exact ih fun y hy => h y (by simp [hy])
theorem Lp_ES {os : List Oper} (hd : Draw os) {p : List (Bool × Nat)} (hp : Fits os p) (l : List (Nat × Value)) (vF : Nat → Value) (j : Nat → Value) (hin : ∀ x ∈ p, ∃ o, os[x.2]? = some o) : ∀ k, k ≤ p.length →
    mk (Lp os l vF (p.take k)) j = ES os (mk l j) vF (fun q => ((p.take k).map (·.2)).contains q)
  | 0, _ => by
    funext t; unfold ES
    cases widx t 0 os with
    | none => rfl
    | some q => simp [Lp]
  | k + 1, hk => by
    have e1 : p.take (k + 1) = p.take k ++ [p[k]] := by rw [List.take_succ_eq_append_getElem (by omega)]
    obtain ⟨o, ho⟩ := hin p[k] (List.getElem_mem _)
    have e2 : (fun q => ((p.take (k + 1)).map (·.2)).contains q) = sset (fun q => ((p.take k).map (·.2)).contains q) (p[k]).2 := by
      funext q
      rw [e1]
      by_cases h : q = (p[k]).2
      · subst h; rw [sset_self, List.contains_iff_mem, List.map_append, List.mem_append]; exact .inr (by simp)
      · rw [sset_ne _ h, Bool.eq_iff_iff, List.contains_iff_mem, List.contains_iff_mem, List.map_append, List.mem_append]
        exact ⟨fun h' => h'.resolve_right (by simpa using h), .inl⟩
    rw [e2, ← ES_put hd _ _ _ ho, e1, Lp_snoc, ho, ← Lp_ES hd hp l vF j hin k (by omega), putl_ok]
    rfl
section
variable {P : Program} {n : Nat} {os : List Oper} {Z : HP} {K : List (Nat × Value) → HP → Prop} {l : List (Nat × Value)} {p : List (Bool × Nat)}
def Pend (P : Program) (n : Nat) (os : List Oper) (Z : HP) (l : List (Nat × Value)) (vF : Nat → Value) (a : List (Bool × Nat)) : Prop :=
  ∀ a1 i a2, a = a1 ++ (true, i) :: a2 → ∃ o, os[i]? = some o ∧ QF P n os.toArray Z o (Lp os l vF a1) (vF i)
theorem Pend.congr {vF vF' : Nat → Value} {a : List (Bool × Nat)} (h : Pend P n os Z l vF a) (he : ∀ x ∈ a, vF x.2 = vF' x.2) : Pend P n os Z l vF' a := by
  intro a1 i a2 e
  obtain ⟨o, ho, q⟩ := h a1 i a2 e
  refine ⟨o, ho, ?_⟩
  rw [← he (true, i) (by rw [e]; simp), ← Lp_congr fun x hx => he x (by rw [e]; simp [hx])]
  exact q
theorem dw_adv {A : HP} : ∀ (r a : List (Bool × Nat)) (vF : Nat → Value), (∀ a1 b i r1, a ++ r = a1 ++ (b, i) :: r1 → i ∉ a1.map (·.2)) → DW P n os Z K r (Lp os l vF a) A → Pend P n os Z l vF a →
    ∃ b r' vF', a ++ r = (a ++ b) ++ r' ∧ (∀ x r1, r' = x :: r1 → x.1 = false) ∧ (∀ c, (false, c) ∉ b) ∧ (∀ x ∈ a, vF x.2 = vF' x.2) ∧ Pend P n os Z l vF' (a ++ b) ∧ DW P n os Z K r' (Lp os l vF' (a ++ b)) A
  | [], a, vF, _, h, hp => ⟨[], [], vF, by simp, (fun _ _ e => nomatch e), by simp, fun _ _ => rfl, by simpa using hp, by simpa using h⟩
  | (false, c) :: r, a, vF, _, h, hp => ⟨[], (false, c) :: r, vF, by simp, fun x r1 e => by cases e; rfl, by simp, fun _ _ => rfl, by simpa using hp, by simpa using h⟩
  | (true, i) :: r, a, vF, hn, h, hp => by
    obtain ⟨o, ho, _, v, hq, hdw⟩ := h
    have hi := hn a true i r rfl
    have hag : ∀ x ∈ a, vF x.2 = vset vF i v x.2 := fun x hx => (vset_ne _ _ fun e => hi (List.mem_map.2 ⟨x, hx, e⟩)).symm
    have e1 : Lp os l (vset vF i v) (a ++ [(true, i)]) = putl (Lp os l vF a) o.dst v := by
      rw [Lp_snoc, ← Lp_congr hag]; simp [ho, vset_self]
    obtain ⟨b, r', vF', q1, q2, q3, q4, q5, q6⟩ := dw_adv r (a ++ [(true, i)]) (vset vF i v) (by simpa using hn) (by rw [e1]; exact hdw) (by
      intro a1 i' a2 e
      rcases List.eq_nil_or_concat a2 with rfl | ⟨a3, y, rfl⟩
      · obtain ⟨rfl, h2⟩ := List.append_inj' e rfl
        cases h2
        exact ⟨o, ho, by rw [vset_self, ← Lp_congr hag]; exact hq⟩
      · have e3 : a = a1 ++ (true, i') :: a3 := by
          have e4 : a ++ [(true, i)] = (a1 ++ (true, i') :: a3) ++ [y] := by simpa using e
          exact (List.append_inj' e4 rfl).1
        exact (hp.congr hag) a1 i' a3 e3)
    refine ⟨(true, i) :: b, r', vF', by simpa using q1, q2, ?_, ?_, by simpa using q5, by simpa using q6⟩
    · intro c hc; rcases List.mem_cons.1 hc with h | h
      · cases h
      · exact q3 c h
    · intro x hx; rw [hag x hx]; exact q4 x (by simp [hx])
theorem dw_draw (hd : Draw os) (hp : Fits os p) (hin : ∀ x ∈ p, ∃ o, os[x.2]? = some o ∧ din n o.dst = true) {A : HP} (hdw : DW P n os Z K p l A) {H M : Heap} (h0 : (Z.star A).p H M) (j : Nat → Value) {w0 w : World} {a : Act} (hh : Has w0 w H M) (ha : Agr n a (mk l j)) :
    wpAny P .any os.toArray (fun e a' w' => e = .normal ∧ ∃ l' A' H' M', Agr n a' (mk l' j) ∧ Has w0 w' H' M' ∧ K l' A' ∧ (Z.star A').p H' M') os.length (Array.replicate os.length false) a w := by
  have hz : (fun q => (Array.replicate os.length false).getD q false) = fun _ => false := by
    funext q; simp only [Array.getD_eq_getD_getElem?, Array.getElem?_replicate]; split <;> rfl
  have hin' : ∀ x ∈ p, ∃ o, os[x.2]? = some o := fun x hx => by obtain ⟨o, h, _⟩ := hin x hx; exact ⟨o, h⟩
  have hES := Lp_ES hd hp l
  let J : (Nat → Bool) → (Nat → Value) → Heap → Heap → Prop := fun S vs H M => ∃ (a r : List (Bool × Nat)) (vF : Nat → Value) (A : HP), p = a ++ r ∧ (∀ x r1, r = x :: r1 → x.1 = false) ∧ (∀ i, S i = true → i ∈ a.map (·.2)) ∧
    (∀ c, (false, c) ∈ a → S c = true) ∧ (∀ i, S i = true → vs i = vF i) ∧ Pend P n os Z l vF a ∧ (Z.star A).p H M ∧ DW P n os Z K r (Lp os l vF a) A
  have hlen : ∀ a r, p = a ++ r → p.take a.length = a := fun a r e => by rw [e]; simp
  -- what an operation looks at
  have hlook : ∀ (S : Nat → Bool) (vs vF : Nat → Value) (a1 r1 : List (Bool × Nat)) (b : Bool) (i : Nat) (o : Oper), p = a1 ++ (b, i) :: r1 → os[i]? = some o → Dep o S → S i = false → Closed os S → (∀ q, S q = true → vs q = vF q) →
      ∀ t ∈ o.looksAt os.toArray, ES os (mk l j) vs S t = mk (Lp os l vF a1) j t := by
    intro S vs vF a1 r1 b i o e ho hdep hun hcl hv t ht
    have h1 := hES vF j hin' a1.length (by rw [e]; simp)
    rw [hlen a1 _ e] at h1
    rw [h1]
    unfold ES
    cases hq : widx t 0 os with
    | none => rfl
    | some q =>
      dsimp only
      rcases hd.look i o ho t ht q hq with rfl | ⟨ed, he, hb, rfl⟩ | ⟨o2, ho2, ed, he, hb, heq⟩
      · have := hp.one a1 b q r1 e
        have h2 : (a1.map (·.2)).contains q = false := by
          cases hc : (a1.map (·.2)).contains q with
          | false => rfl
          | true => rw [List.contains_iff_mem] at hc; exact absurd hc this
        rw [hun, h2]; rfl
      · have := hp.dep a1 b i r1 o e ho ed he hb
        rw [hdep ed he hb, hv _ (hdep ed he hb)]
        have h2 : (a1.map (·.2)).contains ed.on = true := by rw [List.contains_iff_mem]; exact this
        rw [h2]
      · have hlq : S q = false := by
          cases hc : S q with
          | false => rfl
          | true => have h5 := hcl q o2 ho2 hc ed he hb; rw [heq, hun] at h5; cases h5
        have hnq : (a1.map (·.2)).contains q = false := by
          cases hc : (a1.map (·.2)).contains q with
          | false => rfl
          | true =>
            rw [List.contains_iff_mem] at hc
            obtain ⟨⟨b2, q2⟩, hm, rfl⟩ := List.mem_map.1 hc
            obtain ⟨c1, c2, rfl⟩ := List.append_of_mem hm
            have h6 := hp.dep c1 b2 q2 (c2 ++ (b, i) :: r1) o2 (by rw [e]; simp) ho2 ed he hb
            rw [heq] at h6
            exact absurd (List.mem_map.1 h6 |> fun ⟨x, hx, hx2⟩ => List.mem_map.2 ⟨x, by simp [hx], hx2⟩) (hp.one _ b i r1 e)
        rw [hlq, hnq]; rfl
  have hwantE : ∀ (o : Oper) (e1 e2 : Nat → Value), (∀ t ∈ o.looksAt os.toArray, e1 t = e2 t) → wantE o os.toArray e1 = wantE o os.toArray e2 := by
    intro o e1 e2 h
    unfold wantE
    cases hg : o.guard with
    | none => rfl
    | some gw =>
      obtain ⟨g, want⟩ := gw
      dsimp only
      congr 1
      unfold gv
      cases hb : (os.toArray[g]?).bind (·.dst) with
      | none => rfl
      | some d => dsimp only; rw [h d (by simp only [Oper.looksAt, hg, hb]; simp)]
  have hexec : ∀ (i : Nat) (o : Oper) (e1 e2 : Nat → Value), os[i]? = some o → (∀ t ∈ o.looksAt os.toArray, e1 t = e2 t) → execOp (ev e1) o = execOp (ev e2) o := by
    intro i o e1 e2 ho h
    refine execOp_congr o (Region.noSelect_spec hd.sel i o · · (by simpa using ho)) fun x hx => ?_
    cases x with
    | tmp t => exact h t (List.mem_append_left _ (List.mem_filterMap.2 ⟨.tmp t, by simpa using hx, rfl⟩))
    | const v => rfl
    | global g => rfl
    | func f => rfl
  refine draw_sim (n := n) (l := l) hd j w0 _ J (fun i o ho => ?_) ?_ ?_ os.length _ a w (fun _ => undef) H M (by simp) (by simp) ?_ ?_ hh ?_
  · obtain ⟨x, hx, rfl⟩ := List.mem_map.1 (hp.all i (List.getElem?_eq_some_iff.1 ho).1)
    obtain ⟨o2, h1, h2⟩ := hin x hx
    rw [ho] at h1; cases h1; exact h2
  · -- a step
    rintro S vs H1 M1 i o ⟨pa, r, vF, A1, e, hr, hS, hch, hv, hpend, hst, hdw1⟩ ho hdep hun hcl
    have hmem : i ∈ p.map (·.2) := hp.all i (List.getElem?_eq_some_iff.1 ho).1
    rw [e, List.map_append, List.mem_append] at hmem
    rcases hmem with hm | hm
    · obtain ⟨⟨b, i'⟩, hmm, rfl⟩ := List.mem_map.1 hm
      obtain ⟨a1, a2, ha12⟩ := List.append_of_mem hmm
      have hb : b = true := by
        cases b with
        | true => rfl
        | false => have := hch _ hmm; rw [hun] at this; cases this
      subst hb
      obtain ⟨o2, ho2, hq⟩ := hpend a1 i' a2 ha12
      rw [ho] at ho2; cases ho2
      have hl := hlook S vs vF a1 (a2 ++ r) true i' o (by rw [e, ha12]; simp) ho hdep hun hcl hv
      have hJ : ∀ H2 M2, (Z.star A1).p H2 M2 → J (sset S i') (vset vs i' (vF i')) H2 M2 := fun H2 M2 h2 =>
        ⟨pa, r, vF, A1, e, hr, fun q hq => by
          by_cases c : q = i'
          · subst c; exact List.mem_map.2 ⟨_, hmm, rfl⟩
          · rw [sset_ne _ c] at hq; exact hS q hq, fun c hc => by
          by_cases c' : c = i'
          · subst c'; exact sset_self _ _
          · rw [sset_ne _ c']; exact hch c hc, fun q hq => by
          by_cases c : q = i'
          · subst c; exact vset_self _ _ _
          · rw [sset_ne _ c] at hq; rw [vset_ne _ _ c]; exact hv q hq, hpend, h2, hdw1⟩
      rcases hq with ⟨hw, hqs⟩ | ⟨hw, hvu⟩
      · refine ⟨fun _ => ?_, fun hwf => ?_⟩
        · rw [hexec i' o _ _ ho hl]
          exact hmc_mono (hqs j A1 H1 M1 hst) fun v H2 M2 ⟨h1, h2⟩ => by rw [h1]; exact hJ H2 M2 h2
        · rw [hwantE o _ _ hl, hw j] at hwf; cases hwf
      · refine ⟨fun hwt => ?_, fun _ => ?_⟩
        · rw [hwantE o _ _ hl, hw j] at hwt; cases hwt
        · rw [← hvu]; exact hJ _ _ hst
    · obtain ⟨⟨b, i'⟩, hmm, rfl⟩ := List.mem_map.1 hm
      obtain ⟨r1, r2, hr12⟩ := List.append_of_mem hmm
      cases r1 with
      | cons x r1 =>
        obtain ⟨b2, c⟩ := x
        have hb2 : b2 = false := hr _ _ hr12
        subst hb2
        have h1 := hp.chain (pa ++ (false, c) :: r1) b i' r2 c o (by rw [e, hr12]; simp) (by simp) ho
        have h2 := depN_spec hcl _ _ _ _ h1 ho hdep
        have h3 := hS c h2
        exact absurd h3 (hp.one pa false c (r1 ++ (b, i') :: r2) (by rw [e, hr12]; simp))
      | nil =>
        rw [List.nil_append] at hr12
        have hb2 : b = false := hr _ _ hr12
        subst hb2
        subst hr12
        have hl := hlook S vs vF pa r2 false i' o e ho hdep hun hcl hv
        obtain ⟨o2, ho2, _, hstep⟩ := hdw1
        rw [ho] at ho2; cases ho2
        have hnot := hp.one pa false i' r2 e
        have hJ : ∀ v A2 H2 M2, (A2.star Z).p H2 M2 → DW P n os Z K r2 (putl (Lp os l vF pa) o.dst v) A2 → J (sset S i') (vset vs i' v) H2 M2 := by
          intro v A2 H2 M2 h2 hdw2
          have hag : ∀ x ∈ pa, vF x.2 = vset vF i' v x.2 := fun x hx => (vset_ne _ _ fun e => hnot (List.mem_map.2 ⟨x, hx, e⟩)).symm
          have e1 : Lp os l (vset vF i' v) (pa ++ [(false, i')]) = putl (Lp os l vF pa) o.dst v := by
            rw [Lp_snoc, ← Lp_congr hag]; simp [ho, vset_self]
          obtain ⟨b, r', vF', q1, q2, q3, q4, q5, q6⟩ := dw_adv r2 (pa ++ [(false, i')]) (vset vF i' v) (by
              intro a1 b2 i2 r3 e3
              exact hp.one a1 b2 i2 r3 (by rw [e, ← e3]; simp)) (by rw [e1]; exact hdw2) (by
              intro a1 i2 a2 e2
              rcases List.eq_nil_or_concat a2 with rfl | ⟨a3, y, rfl⟩
              · obtain ⟨_, h2⟩ := List.append_inj' e2 rfl
                cases h2
              · have e3 : pa = a1 ++ (true, i2) :: a3 := by
                  have e4 : pa ++ [(false, i')] = (a1 ++ (true, i2) :: a3) ++ [y] := by simpa using e2
                  exact (List.append_inj' e4 rfl).1
                exact (hpend.congr hag) a1 i2 a3 e3)
          have hsw : (Z.star A2).p H2 M2 := by
            obtain ⟨N1, N2, c1, c2, g, x, y⟩ := h2
            exact ⟨N2, N1, c2, c1, fun c => (g c).symm, y, x⟩
          refine ⟨pa ++ [(false, i')] ++ b, r', vF', A2, by rw [e, ← q1]; simp, q2, fun q hq => ?_, fun c hc => ?_, fun q hq => ?_, q5, hsw, q6⟩
          · by_cases c : q = i'
            · subst c; simp
            · rw [sset_ne _ c] at hq
              have := hS q hq
              rw [List.map_append, List.map_append, List.mem_append, List.mem_append]; exact .inl (.inl this)
          · rw [List.mem_append, List.mem_append] at hc
            rcases hc with (hc | hc) | hc
            · by_cases c' : c = i'
              · subst c'; exact sset_self _ _
              · rw [sset_ne _ c']; exact hch c hc
            · simp at hc; subst hc; exact sset_self _ _
            · exact absurd hc (q3 c)
          · by_cases c : q = i'
            · subst c
              rw [vset_self]
              have := q4 (false, q) (by simp)
              rw [vset_self] at this; exact this
            · rw [sset_ne _ c] at hq
              obtain ⟨x, hx, rfl⟩ := List.mem_map.1 (hS q hq)
              rw [vset_ne _ _ c, hv _ hq, hag x hx]
              exact q4 x (by simp [hx])
        rcases hstep with ⟨hw, hs⟩ | ⟨hw, hs⟩
        · refine ⟨fun _ => ?_, fun hwf => ?_⟩
          · rw [hexec i' o _ _ ho hl]
            have hsw : (A1.star Z).p H1 M1 := by
              obtain ⟨N1, N2, c1, c2, g, x, y⟩ := hst
              exact ⟨N2, N1, c2, c1, fun c => (g c).symm, y, x⟩
            exact hmc_mono (hs j Z H1 M1 hsw) fun v H2 M2 ⟨A2, h1, h2⟩ => hJ v A2 H2 M2 h2 h1
          · rw [hwantE o _ _ hl, hw j] at hwf; cases hwf
        · refine ⟨fun hwt => ?_, fun _ => ?_⟩
          · rw [hwantE o _ _ hl, hw j] at hwt; cases hwt
          · have hsw : (A1.star Z).p H1 M1 := by
              obtain ⟨N1, N2, c1, c2, g, x, y⟩ := hst
              exact ⟨N2, N1, c2, c1, fun c => (g c).symm, y, x⟩
            exact hJ undef A1 H1 M1 hsw hs
  · -- the end
    rintro a2 w2 S vs H2 M2 hall ha2 hh2 ⟨pa, r, vF, A1, e, hr, hS, hch, hv, hpend, hst, hdw1⟩
    have hr0 : r = [] := by
      cases r with
      | nil => rfl
      | cons x r1 =>
        obtain ⟨b, c⟩ := x
        obtain ⟨o, ho, _⟩ := hdw1
        exact absurd (hS c (hall c (List.getElem?_eq_some_iff.1 ho).1)) (hp.one pa b c r1 e)
    subst hr0
    rw [List.append_nil] at e
    subst e
    refine ⟨rfl, _, A1, H2, M2, ?_, hh2, hdw1, hst⟩
    have h1 := hES vF j hin' p.length (Nat.le_refl _)
    rw [List.take_length] at h1
    rw [h1]
    have : ES os (mk l j) vs S = ES os (mk l j) vF (fun q => (p.map (·.2)).contains q) := by
      funext t; unfold ES
      cases hq : widx t 0 os with
      | none => rfl
      | some q =>
        obtain ⟨_, o, ho, _⟩ := widx_spec hq
        rw [Nat.sub_zero] at ho
        have hlt := (List.getElem?_eq_some_iff.1 ho).1
        have h2 : (p.map (·.2)).contains q = true := by rw [List.contains_iff_mem]; exact hp.all q hlt
        dsimp only
        rw [hall q hlt, h2, hv q (hall q hlt)]
    rw [← this]; exact ha2
  · intro i o ho hc
    have := congrFun hz i
    dsimp only at this hc
    rw [this] at hc; cases hc
  · rw [hz]
    have : ES os (mk l j) (fun _ => undef) (fun _ => false) = mk l j := by
      funext t; unfold ES; cases widx t 0 os <;> rfl
    rw [this]; exact ha
  · obtain ⟨b, r', vF', q1, q2, q3, q4, q5, q6⟩ := dw_adv (P := P) (n := n) (os := os) (Z := Z) (K := K) (l := l) (A := A) p [] (fun _ => undef) (by intro a1 b i r1 e; exact hp.one a1 b i r1 (by simpa using e)) hdw (by
      intro a1 i a2 e; cases a1 <;> cases e)
    rw [hz]
    exact ⟨b, r', vF', A, by simpa using q1, q2, fun i h => (nomatch h), fun c hc => absurd hc (q3 c), fun i h => (nomatch h), by simpa using q5, h0, by simpa using q6⟩
end
end Go.Cam
