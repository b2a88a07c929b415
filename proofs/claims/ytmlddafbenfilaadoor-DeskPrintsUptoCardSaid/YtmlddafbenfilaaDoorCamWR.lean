/- Regions that draw their order: what is only read at first may be given free for the steps behind. -/
import Derived.Test.YtmlddafbenfilaaDoorCamW
namespace Go.Cam
inductive Dw where
  | q (i : Nat)
  | s (i : Nat)
  | r
  | alt (i j : Nat)
  | alt2 (a c b : Nat)
  | altq1 (c q b : Nat)
  | altq (a c q b : Nat)
/-- the orders that a list stands for -/
def lins : List Dw → List (List (Bool × Nat))
  | [] => [[]]
  | .q i :: p => (lins p).map ((true, i) :: ·)
  | .s i :: p => (lins p).map ((false, i) :: ·)
  | .r :: p => lins p
  | .alt i j :: p => (lins p).map (fun t => (false, i) :: (false, j) :: t) ++ (lins p).map (fun t => (false, j) :: (false, i) :: t)
  | .alt2 a c b :: p => (lins p).map (fun t => (false, a) :: (false, c) :: (false, b) :: t) ++ ((lins p).map (fun t => (false, a) :: (false, b) :: (false, c) :: t) ++ (lins p).map (fun t => (false, b) :: (false, a) :: (false, c) :: t))
  | .altq1 c q b :: p => (lins p).map (fun t => (false, c) :: (true, q) :: (false, b) :: t) ++ (lins p).map (fun t => (false, b) :: (false, c) :: (true, q) :: t)
  | .altq a c q b :: p => (lins p).map (fun t => (false, a) :: (false, c) :: (true, q) :: (false, b) :: t) ++ ((lins p).map (fun t => (false, a) :: (false, b) :: (false, c) :: (true, q) :: t) ++ (lins p).map (fun t => (false, b) :: (false, a) :: (false, c) :: (true, q) :: t))
def strip : List Dw → List (Bool × Nat)
  | [] => []
  | .q i :: p => (true, i) :: strip p
  | .s i :: p => (false, i) :: strip p
  | .r :: p => strip p
  | .alt i j :: p => (false, i) :: (false, j) :: strip p
  | .alt2 a c b :: p => (false, a) :: (false, c) :: (false, b) :: strip p
  | .altq1 c q b :: p => (false, c) :: (true, q) :: (false, b) :: strip p
  | .altq a c q b :: p => (false, a) :: (false, c) :: (true, q) :: (false, b) :: strip p
theorem strip_lins : ∀ p, strip p ∈ lins p
  | [] => List.mem_singleton.2 rfl
  | .q i :: p => List.mem_map.2 ⟨_, strip_lins p, rfl⟩
  | .s i :: p => List.mem_map.2 ⟨_, strip_lins p, rfl⟩
  | .r :: p => strip_lins p
  | .alt i j :: p => List.mem_append_left _ (List.mem_map.2 ⟨_, strip_lins p, rfl⟩)
  | .alt2 a c b :: p => List.mem_append_left _ (List.mem_map.2 ⟨_, strip_lins p, rfl⟩)
  | .altq1 c q b :: p => List.mem_append_left _ (List.mem_map.2 ⟨_, strip_lins p, rfl⟩)
  | .altq a c q b :: p => List.mem_append_left _ (List.mem_map.2 ⟨_, strip_lins p, rfl⟩)
theorem strip_s (i : Nat) (r : List Dw) : strip (.s i :: r) = (false, i) :: strip r := rfl
def okR (os : List Oper) : List Dw → List Nat → List Nat → Bool
  | [], _, _ => true
  | .r :: p, bf, must => must.isEmpty && okR os p bf bf
  | .q i :: p, bf, must => okR os p (i :: bf) must
  | .s c :: p, bf, must => must.all (fun i => depN os os.length c i) && okR os p (c :: bf) []
  | .alt c d :: p, bf, must => must.all (fun i => depN os os.length c i && depN os os.length d i) && (okR os p (d :: c :: bf) [] && okR os p (c :: d :: bf) [])
  | .alt2 a c b :: p, bf, must => must.all (fun i => depN os os.length a i && depN os os.length b i) && (okR os p (b :: c :: a :: bf) [] && (okR os p (c :: b :: a :: bf) [] && okR os p (c :: a :: b :: bf) []))
  | .altq1 c q b :: p, bf, must => must.all (fun i => depN os os.length c i && depN os os.length b i) && (okR os p (b :: q :: c :: bf) [] && okR os p (q :: c :: b :: bf) [])
  | .altq a c q b :: p, bf, must => must.all (fun i => depN os os.length a i && depN os os.length b i) && (okR os p (b :: q :: c :: a :: bf) [] && (okR os p (q :: c :: b :: a :: bf) [] && okR os p (q :: c :: a :: b :: bf) []))
/-- later operations wait for the steps ahead of them -/
def chR (os : List Oper) : List Dw → Bool
  | [] => true
  | .r :: p => chR os p
  | .q _ :: p => chR os p
  | .s c :: p => (strip p).all (fun x => depN os os.length x.2 c) && chR os p
  | .alt c d :: p => (strip p).all (fun x => depN os os.length x.2 c && depN os os.length x.2 d) && chR os p
  | .alt2 a c b :: p => (strip p).all (fun x => depN os os.length x.2 a && (depN os os.length x.2 c && depN os os.length x.2 b)) && (depN os os.length c a && chR os p)
  | .altq1 c q b :: p => (strip p).all (fun x => depN os os.length x.2 c && depN os os.length x.2 b) && (depN os os.length q c && chR os p)
  | .altq a c q b :: p => (strip p).all (fun x => depN os os.length x.2 a && (depN os os.length x.2 c && depN os os.length x.2 b)) && (depN os os.length c a && (depN os os.length q a && (depN os os.length q c && chR os p)))
structure Fits0 (os : List Oper) (p : List (Bool × Nat)) : Prop where
  all : ∀ i, i < os.length → i ∈ p.map (·.2)
  one : ∀ a b i r, p = a ++ (b, i) :: r → i ∉ a.map (·.2)
  dep : ∀ a b i r o, p = a ++ (b, i) :: r → os[i]? = some o → ∀ e ∈ o.after, Region.binds .any e = true → e.on ∈ a.map (·.2)
  ex : ∀ x ∈ p, ∃ o, os[x.2]? = some o
theorem ordB_ex {os : List Oper} : ∀ (p : List (Bool × Nat)) (done ch : List Nat), ordB os p done ch = true → ∀ x ∈ p, ∃ o, os[x.2]? = some o
  | [], _, _, _, _, h => nomatch h
  | (b, i) :: r, done, ch, h, x, hx => by
    simp only [ordB, Bool.and_eq_true] at h
    rcases List.mem_cons.1 hx with rfl | hx
    · show ∃ o, os[i]? = some o
      cases ho : os[i]? with
      | none => rw [ho] at h; simp at h
      | some o => exact ⟨o, rfl⟩
    · exact ordB_ex r _ _ h.2 x hx
def tts (p : List (Bool × Nat)) : List (Bool × Nat) := p.map fun x => (true, x.2)
theorem tts_map (p : List (Bool × Nat)) : (tts p).map (·.2) = p.map (·.2) := by simp [tts]
theorem fits0 {os : List Oper} {p : List (Bool × Nat)} (h : ordB os (tts p) [] [] = true) : Fits0 os p := by
  have f := ordB_spec h
  refine ⟨fun i hi => by have := f.all i hi; rwa [tts_map] at this, fun a b i r e => ?_, fun a b i r o e ho ed he hb => ?_, fun x hx => ordB_ex _ _ _ h (true, x.2) (List.mem_map.2 ⟨x, hx, rfl⟩)⟩
  · have := f.one (tts a) true i (tts r) (by rw [e]; simp [tts])
    rwa [tts_map] at this
  · have := f.dep (tts a) true i (tts r) o (by rw [e]; simp [tts]) ho ed he hb
    rwa [tts_map] at this
def linB (os : List Oper) (p : List Dw) : Bool := (lins p).all (fun t => ordB os (tts t) [] []) && chR os p
/-- a step of a region -/
def Stp (P : Program) (n : Nat) (os : List Oper) (i : Nat) (l : List (Nat × Value)) (A : HP) (k : List (Nat × Value) → HP → Prop) : Prop :=
  ∃ o, os[i]? = some o ∧ din n o.dst = true ∧ ((∀ j, wantE o os.toArray (mk l j) = true) ∧ StepS P o l A (fun v A' => k (putl l o.dst v) A') ∨ (∀ j, wantE o os.toArray (mk l j) = false) ∧ k (putl l o.dst undef) A)
def DWR (P : Program) (n : Nat) (os : List Oper) (K : HP → List (Nat × Value) → HP → Prop) : List Dw → HP → List (Nat × Value) → HP → Prop
  | [], Z, l, A => K Z l A
  | .q i :: r, Z, l, A => ∃ o, os[i]? = some o ∧ din n o.dst = true ∧ ∃ v, QF P n os.toArray Z o l v ∧ DWR P n os K r Z (putl l o.dst v) A
  | .s i :: r, Z, l, A => Stp P n os i l A (fun l' A' => DWR P n os K r Z l' A')
  | .r :: r, Z, l, A => ∃ B Z' A' : HP, (∀ H M, A.p H M → B.p H M) ∧ (∀ H M, (Z.star B).p H M ↔ (Z'.star A').p H M) ∧ DWR P n os K r Z' l A'
  | .alt i j :: r, Z, l, A => Stp P n os i l A (fun l' A' => Stp P n os j l' A' (fun l' A' => DWR P n os K r Z l' A')) ∧ Stp P n os j l A (fun l' A' => Stp P n os i l' A' (fun l' A' => DWR P n os K r Z l' A'))
  | .alt2 a c b :: r, Z, l, A => Stp P n os a l A (fun l' A' => Stp P n os c l' A' (fun l' A' => Stp P n os b l' A' (fun l' A' => DWR P n os K r Z l' A')) ∧ Stp P n os b l' A' (fun l' A' => Stp P n os c l' A' (fun l' A' => DWR P n os K r Z l' A'))) ∧ Stp P n os b l A (fun l' A' => Stp P n os a l' A' (fun l' A' => Stp P n os c l' A' (fun l' A' => DWR P n os K r Z l' A')))
  | .altq1 c q b :: r, Z, l, A => Stp P n os c l A (fun l' A' => ∃ o, os[q]? = some o ∧ din n o.dst = true ∧ ∃ v, QF P n os.toArray Z o l' v ∧ Stp P n os b (putl l' o.dst v) A' (fun l' A' => DWR P n os K r Z l' A')) ∧ Stp P n os b l A (fun l' A' => Stp P n os c l' A' (fun l' A' => ∃ o, os[q]? = some o ∧ din n o.dst = true ∧ ∃ v, QF P n os.toArray Z o l' v ∧ DWR P n os K r Z (putl l' o.dst v) A'))
  | .altq a c q b :: r, Z, l, A => Stp P n os a l A (fun l' A' => Stp P n os c l' A' (fun l' A' => ∃ o, os[q]? = some o ∧ din n o.dst = true ∧ ∃ v, QF P n os.toArray Z o l' v ∧ Stp P n os b (putl l' o.dst v) A' (fun l' A' => DWR P n os K r Z l' A')) ∧ Stp P n os b l' A' (fun l' A' => Stp P n os c l' A' (fun l' A' => ∃ o, os[q]? = some o ∧ din n o.dst = true ∧ ∃ v, QF P n os.toArray Z o l' v ∧ DWR P n os K r Z (putl l' o.dst v) A'))) ∧ Stp P n os b l A (fun l' A' => Stp P n os a l' A' (fun l' A' => Stp P n os c l' A' (fun l' A' => ∃ o, os[q]? = some o ∧ din n o.dst = true ∧ ∃ v, QF P n os.toArray Z o l' v ∧ DWR P n os K r Z (putl l' o.dst v) A')))
def isStep : Dw → Bool
  | .alt2 _ _ _ => true
  | .altq1 _ _ _ => true
  | .altq _ _ _ _ => true
  | .s _ => true
  | .alt _ _ => true
  | _ => false
theorem sstar_comm {A B : HP} {H M : Heap} (h : (A.star B).p H M) : (B.star A).p H M := by
  obtain ⟨N1, N2, c1, c2, g, x, y⟩ := h
  exact ⟨N2, N1, c2, c1, fun c => (g c).symm, y, x⟩
section
variable {P : Program} {n : Nat} {os : List Oper} {K : HP → List (Nat × Value) → HP → Prop} {l : List (Nat × Value)} {p : List Dw}
/-- the operations that only look, told so far -/
def PendR (P : Program) (n : Nat) (os : List Oper) (l : List (Nat × Value)) (vF : Nat → Value) (a : List (Bool × Nat)) (S : Nat → Bool) (must : Nat → Prop) (Z A : HP) : Prop :=
  ∀ a1 i a2, a = a1 ++ (true, i) :: a2 → S i = false → ∃ o Zi Xi, os[i]? = some o ∧ QF P n os.toArray Zi o (Lp os l vF a1) (vF i) ∧ (∀ H M, (Z.star A).p H M ↔ (Zi.star Xi).p H M) ∧ ((Zi = Z ∧ Xi = A) ∨ must i)
theorem dwr_adv {S : Nat → Bool} : ∀ (r : List Dw) (a : List (Bool × Nat)) (vF : Nat → Value) (must : List Nat) (Z A : HP), (∀ t ∈ lins r, Fits0 os (a ++ t)) → chR os r = true → okR os r (a.map (·.2)).reverse must = true → DWR P n os K r Z (Lp os l vF a) A → PendR P n os l vF a S (fun i => i ∈ must) Z A →
    ∃ b r' vF' must' Z' A', (∀ t ∈ lins r', Fits0 os ((a ++ b) ++ t)) ∧ chR os r' = true ∧ (∀ x r1, r' = x :: r1 → isStep x = true) ∧ (∀ c, (false, c) ∉ b) ∧ (∀ x ∈ a, vF x.2 = vF' x.2) ∧ okR os r' ((a ++ b).map (·.2)).reverse must' = true ∧ PendR P n os l vF' (a ++ b) S (fun i => i ∈ must') Z' A' ∧ (∀ H M, (Z.star A).p H M → (Z'.star A').p H M) ∧ DWR P n os K r' Z' (Lp os l vF' (a ++ b)) A'
  | [], a, vF, must, Z, A, hn, hc, hk, h, hp => ⟨[], [], vF, must, Z, A, by simpa using hn, hc, (fun _ _ e => nomatch e), by simp, fun _ _ => rfl, by simpa using hk, by simpa using hp, fun _ _ h => h, by simpa using h⟩
  | .s c :: r, a, vF, must, Z, A, hn, hc, hk, h, hp => ⟨[], .s c :: r, vF, must, Z, A, by simpa using hn, hc, fun x r1 e => by cases e; rfl, by simp, fun _ _ => rfl, by simpa using hk, by simpa using hp, fun _ _ h => h, by simpa using h⟩
  | .alt c d :: r, a, vF, must, Z, A, hn, hc, hk, h, hp => ⟨[], .alt c d :: r, vF, must, Z, A, by rw [List.append_nil]; exact hn, hc, fun x r1 e => by cases e; rfl, by simp, fun _ _ => rfl, by simpa using hk, by simpa using hp, fun _ _ h => h, by rw [List.append_nil]; exact h⟩
  | .alt2 c d e :: r, a, vF, must, Z, A, hn, hc, hk, h, hp => ⟨[], .alt2 c d e :: r, vF, must, Z, A, by rw [List.append_nil]; exact hn, hc, fun x r1 e => by cases e; rfl, by simp, fun _ _ => rfl, by simpa using hk, by simpa using hp, fun _ _ h => h, by rw [List.append_nil]; exact h⟩
  | .altq1 c d e :: r, a, vF, must, Z, A, hn, hc, hk, h, hp => ⟨[], .altq1 c d e :: r, vF, must, Z, A, by rw [List.append_nil]; exact hn, hc, fun x r1 e => by cases e; rfl, by simp, fun _ _ => rfl, by simpa using hk, by simpa using hp, fun _ _ h => h, by rw [List.append_nil]; exact h⟩
  | .altq c d e f :: r, a, vF, must, Z, A, hn, hc, hk, h, hp => ⟨[], .altq c d e f :: r, vF, must, Z, A, by rw [List.append_nil]; exact hn, hc, fun x r1 e => by cases e; rfl, by simp, fun _ _ => rfl, by simpa using hk, by simpa using hp, fun _ _ h => h, by rw [List.append_nil]; exact h⟩
  | .r :: r, a, vF, must, Z, A, hn, hc, hk, h, hp => by
    obtain ⟨B, Z', A', hAB, hiff, hdw⟩ := h
    simp only [okR, Bool.and_eq_true, List.isEmpty_iff] at hk
    obtain ⟨rfl, hk⟩ := hk
    obtain ⟨b, r', vF', must', Z2, A2, q1, qc, q2, q3, q4, q5, q6, q7, q8⟩ := dwr_adv r a vF (a.map (fun x : Bool × Nat => x.2)).reverse Z' A' hn hc hk hdw (fun a1 i a2 e hS => by
      obtain ⟨o, Zi, Xi, ho, hq, hx, hm⟩ := hp a1 i a2 e hS
      rcases hm with ⟨rfl, rfl⟩ | hm
      · exact ⟨o, Zi, B, ho, hq, fun H M => (hiff H M).symm, .inr (by simp [e])⟩
      · cases hm)
    exact ⟨b, r', vF', must', Z2, A2, q1, qc, q2, q3, q4, q5, q6, fun H M q => q7 H M ((hiff H M).1 (star_mono hAB q)), q8⟩
  | .q i :: r, a, vF, must, Z, A, hn, hc, hk, h, hp => by
    obtain ⟨o, ho, _, v, hq, hdw⟩ := h
    have hn' : ∀ t ∈ lins r, Fits0 os ((a ++ [(true, i)]) ++ t) := fun t ht => by
      have := hn ((true, i) :: t) (List.mem_map.2 ⟨t, ht, rfl⟩)
      simpa using this
    have hi : i ∉ a.map (·.2) := (hn _ (List.mem_map.2 ⟨_, strip_lins r, rfl⟩)).one a true i (strip r) rfl
    have hag : ∀ x ∈ a, vF x.2 = vset vF i v x.2 := fun x hx => (vset_ne _ _ fun e => hi (List.mem_map.2 ⟨x, hx, e⟩)).symm
    have e1 : Lp os l (vset vF i v) (a ++ [(true, i)]) = putl (Lp os l vF a) o.dst v := by
      rw [Lp_snoc, ← Lp_congr hag]; simp [ho, vset_self]
    obtain ⟨b, r', vF', must', Z2, A2, q1, qc, q2, q3, q4, q5, q6, q7, q8⟩ := dwr_adv r (a ++ [(true, i)]) (vset vF i v) must Z A hn' hc (by simpa [okR] using hk) (by rw [e1]; exact hdw) (by
      intro a1 i' a2 e hS
      rcases List.eq_nil_or_concat a2 with rfl | ⟨a3, y, rfl⟩
      · obtain ⟨rfl, h2⟩ := List.append_inj' e rfl
        cases h2
        exact ⟨o, Z, A, ho, by rw [vset_self, ← Lp_congr hag]; exact hq, fun _ _ => Iff.rfl, .inl ⟨rfl, rfl⟩⟩
      · have e3 : a = a1 ++ (true, i') :: a3 := by
          have e4 : a ++ [(true, i)] = (a1 ++ (true, i') :: a3) ++ [y] := by simpa using e
          exact (List.append_inj' e4 rfl).1
        obtain ⟨o', Zi, Xi, ho', hq', hx, hm⟩ := hp a1 i' a3 e3 hS
        refine ⟨o', Zi, Xi, ho', ?_, hx, hm⟩
        rw [← hag (true, i') (by rw [e3]; simp), ← Lp_congr fun x hx => hag x (by rw [e3]; simp [hx])]
        exact hq')
    refine ⟨(true, i) :: b, r', vF', must', Z2, A2, by simpa using q1, qc, q2, ?_, ?_, by simpa using q5, by simpa using q6, q7, by simpa using q8⟩
    · intro c hc; rcases List.mem_cons.1 hc with h | h
      · cases h
      · exact q3 c h
    · intro x hx; rw [hag x hx]; exact q4 x (by simp [hx])
theorem Lp_ES' {os : List Oper} (hd : Draw os) {p : List (Bool × Nat)} (l : List (Nat × Value)) (vF : Nat → Value) (j : Nat → Value) (hin : ∀ x ∈ p, ∃ o, os[x.2]? = some o) : ∀ k, k ≤ p.length →
    mk (Lp os l vF (p.take k)) j = ES os (mk l j) vF (fun q => ((p.take k).map (·.2)).contains q)
  | 0, _ => by
    funext t; unfold ES
    cases widx t 0 os with
    | none => rfl
    | some q => simp [Lp]
  | k + 1, hk => by
    have e1 : p.take (k + 1) = p.take k ++ [p[k]] := by rw [List.take_succ_eq_append_getElem (by omega)]
    obtain ⟨o, ho⟩ := hin p[k] (List.getElem_mem _)
    have e2 : (fun q => ((p.take (k + 1)).map (·.2)).contains q) = sset (fun q => ((p.take k).map (·.2)).contains q) (p[k]).2 := by
      funext q
      rw [e1]
      by_cases h : q = (p[k]).2
      · subst h; rw [sset_self, List.contains_iff_mem, List.map_append, List.mem_append]; exact .inr (by simp)
      · rw [sset_ne _ h, Bool.eq_iff_iff, List.contains_iff_mem, List.contains_iff_mem, List.map_append, List.mem_append]
        exact ⟨fun h' => h'.resolve_right (by simpa using h), .inl⟩
    rw [e2, ← ES_put hd _ _ _ ho, e1, Lp_snoc, ho, ← Lp_ES' hd l vF j hin k (by omega), putl_ok]
    rfl
theorem dwr_draw (hd : Draw os) (hlin : linB os p = true) (hdi : ∀ (i : Nat) (o : Oper), os[i]? = some o → din n o.dst = true) (hok : okR os p [] [] = true) {Z A : HP} (hdw : DWR P n os K p Z l A) {H M : Heap} (h0 : (Z.star A).p H M) (j : Nat → Value) {w0 w : World} {a : Act} (hh : Has w0 w H M) (ha : Agr n a (mk l j)) :
    wpAny P .any os.toArray (fun e a' w' => e = .normal ∧ ∃ l' Z' A' H' M', Agr n a' (mk l' j) ∧ Has w0 w' H' M' ∧ K Z' l' A' ∧ (Z'.star A').p H' M') os.length (Array.replicate os.length false) a w := by
  have hz : (fun q => (Array.replicate os.length false).getD q false) = fun _ => false := by
    funext q; simp only [Array.getD_eq_getD_getElem?, Array.getElem?_replicate]; split <;> rfl
  let J : (Nat → Bool) → (Nat → Value) → Heap → Heap → Prop := fun S vs H M => ∃ (a : List (Bool × Nat)) (r : List Dw) (vF : Nat → Value) (must : List Nat) (Z A : HP), (∀ t ∈ lins r, Fits0 os (a ++ t)) ∧ chR os r = true ∧ (∀ x r1, r = x :: r1 → isStep x = true) ∧ (∀ i, S i = true → i ∈ a.map (·.2)) ∧
    (∀ c, (false, c) ∈ a → S c = true) ∧ (∀ i, S i = true → vs i = vF i) ∧ okR os r (a.map (·.2)).reverse must = true ∧ PendR P n os l vF a S (fun i => i ∈ must) Z A ∧ (Z.star A).p H M ∧ DWR P n os K r Z (Lp os l vF a) A
  -- what an operation looks at
  have hlook : ∀ (S : Nat → Bool) (vs vF : Nat → Value) (p : List (Bool × Nat)) (hp : Fits0 os p) (a1 r1 : List (Bool × Nat)) (b : Bool) (i : Nat) (o : Oper), p = a1 ++ (b, i) :: r1 → os[i]? = some o → Dep o S → S i = false → Closed os S → (∀ q, S q = true → vs q = vF q) →
      ∀ t ∈ o.looksAt os.toArray, ES os (mk l j) vs S t = mk (Lp os l vF a1) j t := by
    intro S vs vF p hp a1 r1 b i o e ho hdep hun hcl hv t ht
    have h1 := Lp_ES' hd l vF j hp.ex a1.length (by rw [e]; simp)
    rw [show p.take a1.length = a1 by rw [e]; simp] at h1
    rw [h1]
    unfold ES
    cases hq : widx t 0 os with
    | none => rfl
    | some q =>
      dsimp only
      rcases hd.look i o ho t ht q hq with rfl | ⟨ed, he, hb, rfl⟩ | ⟨o2, ho2, ed, he, hb, heq⟩
      · have := hp.one a1 b q r1 e
        have h2 : (a1.map (·.2)).contains q = false := by
          cases hc : (a1.map (·.2)).contains q with
          | false => rfl
          | true => rw [List.contains_iff_mem] at hc; exact absurd hc this
        rw [hun, h2]; rfl
      · have := hp.dep a1 b i r1 o e ho ed he hb
        rw [hdep ed he hb, hv _ (hdep ed he hb)]
        have h2 : (a1.map (·.2)).contains ed.on = true := by rw [List.contains_iff_mem]; exact this
        rw [h2]
      · have hlq : S q = false := by
          cases hc : S q with
          | false => rfl
          | true => have h5 := hcl q o2 ho2 hc ed he hb; rw [heq, hun] at h5; cases h5
        have hnq : (a1.map (·.2)).contains q = false := by
          cases hc : (a1.map (·.2)).contains q with
          | false => rfl
          | true =>
            rw [List.contains_iff_mem] at hc
            obtain ⟨⟨b2, q2⟩, hm, rfl⟩ := List.mem_map.1 hc
            obtain ⟨c1, c2, rfl⟩ := List.append_of_mem hm
            have h6 := hp.dep c1 b2 q2 (c2 ++ (b, i) :: r1) o2 (by rw [e]; simp) ho2 ed he hb
            rw [heq] at h6
            exact absurd (List.mem_map.1 h6 |> fun ⟨x, hx, hx2⟩ => List.mem_map.2 ⟨x, by simp [hx], hx2⟩) (hp.one _ b i r1 e)
        rw [hlq, hnq]; rfl
  have hwantE : ∀ (o : Oper) (e1 e2 : Nat → Value), (∀ t ∈ o.looksAt os.toArray, e1 t = e2 t) → wantE o os.toArray e1 = wantE o os.toArray e2 := by
    intro o e1 e2 h
    unfold wantE
    cases hg : o.guard with
    | none => rfl
    | some gw =>
      obtain ⟨g, want⟩ := gw
      dsimp only
      congr 1
      unfold gv
      cases hb : (os.toArray[g]?).bind (·.dst) with
      | none => rfl
      | some d => dsimp only; rw [h d (by simp only [Oper.looksAt, hg, hb]; simp)]
  have hexec : ∀ (i : Nat) (o : Oper) (e1 e2 : Nat → Value), os[i]? = some o → (∀ t ∈ o.looksAt os.toArray, e1 t = e2 t) → execOp (ev e1) o = execOp (ev e2) o := by
    intro i o e1 e2 ho h
    refine execOp_congr o (Region.noSelect_spec hd.sel i o · · (by simpa using ho)) fun x hx => ?_
    cases x with
    | tmp t => exact h t (List.mem_append_left _ (List.mem_filterMap.2 ⟨.tmp t, by simpa using hx, rfl⟩))
    | const v => rfl
    | global g => rfl
    | func f => rfl
  refine draw_sim (n := n) (l := l) hd j w0 _ J (fun i o ho => ?_) ?_ ?_ os.length _ a w (fun _ => undef) H M (by simp) (by simp) ?_ ?_ hh ?_
  · exact hdi i o ho
  · -- a step
    rintro S vs H1 M1 i o ⟨pa, r, vF, must, Z1, A1, hfit, hchr, hr, hS, hch, hv, hkk, hpend, hst, hdw1⟩ ho hdep hun hcl
    have hp0 := hfit _ (strip_lins r)
    have hmem : i ∈ (pa ++ strip r).map (·.2) := hp0.all i (List.getElem?_eq_some_iff.1 ho).1
    rw [List.map_append, List.mem_append] at hmem
    rcases hmem with hm | hm
    · obtain ⟨⟨b, i'⟩, hmm, rfl⟩ := List.mem_map.1 hm
      obtain ⟨a1, a2, ha12⟩ := List.append_of_mem hmm
      have hb : b = true := by
        cases b with
        | true => rfl
        | false => have := hch _ hmm; rw [hun] at this; cases this
      subst hb
      obtain ⟨o2, Zi, Xi, ho2, hq, hiff, _⟩ := hpend a1 i' a2 ha12 hun
      rw [ho] at ho2; cases ho2
      have hl := hlook S vs vF _ hp0 a1 (a2 ++ strip r) true i' o (by rw [ha12]; simp) ho hdep hun hcl hv
      have hJ : ∀ H2 M2, (Zi.star Xi).p H2 M2 → J (sset S i') (vset vs i' (vF i')) H2 M2 := fun H2 M2 h2 =>
        ⟨pa, r, vF, must, Z1, A1, hfit, hchr, hr, fun q hq => by
          by_cases c : q = i'
          · subst c; exact List.mem_map.2 ⟨_, hmm, rfl⟩
          · rw [sset_ne _ c] at hq; exact hS q hq, fun c hc => by
          by_cases c' : c = i'
          · subst c'; exact sset_self _ _
          · rw [sset_ne _ c']; exact hch c hc, fun q hq => by
          by_cases c : q = i'
          · subst c; exact vset_self _ _ _
          · rw [sset_ne _ c] at hq; rw [vset_ne _ _ c]; exact hv q hq, hkk, fun b1 q b2 eb hsq => by
          by_cases c : q = i'
          · subst c; rw [sset_self] at hsq; cases hsq
          · rw [sset_ne _ c] at hsq; exact hpend b1 q b2 eb hsq, (hiff _ _).2 h2, hdw1⟩
      have hst2 := (hiff _ _).1 hst
      rcases hq with ⟨hw, hqs⟩ | ⟨hw, hvu⟩
      · refine ⟨fun _ => ?_, fun hwf => ?_⟩
        · rw [hexec i' o _ _ ho hl]
          exact hmc_mono (hqs j Xi H1 M1 hst2) fun v H2 M2 ⟨h1, h2⟩ => by rw [h1]; exact hJ H2 M2 h2
        · rw [hwantE o _ _ hl, hw j] at hwf; cases hwf
      · refine ⟨fun hwt => ?_, fun _ => ?_⟩
        · rw [hwantE o _ _ hl, hw j] at hwt; cases hwt
        · rw [← hvu]; exact hJ _ _ hst2
    · -- a step that is next
      have hexe : ∀ (r2 : List Dw), (∀ t ∈ lins (.s i :: r2), Fits0 os (pa ++ t)) → chR os r2 = true → (∀ q, q ∈ must → depN os os.length i q = true) → okR os r2 ((pa ++ [(false, i)]).map (·.2)).reverse [] = true → Stp P n os i (Lp os l vF pa) A1 (fun l' A' => DWR P n os K r2 Z1 l' A') →
          (wantE o os.toArray (ES os (mk l j) vs S) = true → hmc P (execOp (ev (ES os (mk l j) vs S)) o) H1 M1 fun v H' M' => J (sset S i) (vset vs i v) H' M') ∧
          (wantE o os.toArray (ES os (mk l j) vs S) = false → J (sset S i) (vset vs i undef) H1 M1) := by
        intro r2 hfit2 hchr2 hmust1 hkk2 hdw1
        have hp1 := hfit2 _ (strip_lins (.s i :: r2))
        rw [strip_s] at hp1
        have hl := hlook S vs vF _ hp1 pa (strip r2) false i o rfl ho hdep hun hcl hv
        obtain ⟨o2, ho2, _, hstep⟩ := hdw1
        rw [ho] at ho2; cases ho2
        have hnot := hp1.one pa false i (strip r2) rfl
        have hmust : ∀ q, q ∈ must → S q = true := fun q hq => depN_spec hcl _ _ _ _ (hmust1 q hq) ho hdep
        have hJ : ∀ v A2 H2 M2, (A2.star Z1).p H2 M2 → DWR P n os K r2 Z1 (putl (Lp os l vF pa) o.dst v) A2 → J (sset S i) (vset vs i v) H2 M2 := by
          intro v A2 H2 M2 h2 hdw2
          have hag : ∀ x ∈ pa, vF x.2 = vset vF i v x.2 := fun x hx => (vset_ne _ _ fun e => hnot (List.mem_map.2 ⟨x, hx, e⟩)).symm
          have e1 : Lp os l (vset vF i v) (pa ++ [(false, i)]) = putl (Lp os l vF pa) o.dst v := by
            rw [Lp_snoc, ← Lp_congr hag]; simp [ho, vset_self]
          obtain ⟨b, r', vF', must', Z2, A3, q1, qc, q2, q3, q4, q5, q6, q7, q8⟩ := dwr_adv (P := P) (n := n) (os := os) (K := K) (l := l) (S := sset S i) r2 (pa ++ [(false, i)]) (vset vF i v) [] Z1 A2 (fun t ht => by
              have := hfit2 ((false, i) :: t) (List.mem_map.2 ⟨t, ht, rfl⟩)
              simpa using this) hchr2 hkk2 (by rw [e1]; exact hdw2) (by
              intro a1 i2 a2 e2 hS2
              rcases List.eq_nil_or_concat a2 with rfl | ⟨a3, y, rfl⟩
              · obtain ⟨_, h2⟩ := List.append_inj' e2 rfl
                cases h2
              · have e3 : pa = a1 ++ (true, i2) :: a3 := by
                  have e4 : pa ++ [(false, i)] = (a1 ++ (true, i2) :: a3) ++ [y] := by simpa using e2
                  exact (List.append_inj' e4 rfl).1
                have hne : i2 ≠ i := fun e => hnot (by rw [e3, ← e]; simp)
                rw [sset_ne _ hne] at hS2
                obtain ⟨o', Zi, Xi, ho', hq', _, hm⟩ := hpend a1 i2 a3 e3 hS2
                rcases hm with ⟨rfl, _⟩ | hm
                · refine ⟨o', Zi, A2, ho', ?_, fun _ _ => Iff.rfl, .inl ⟨rfl, rfl⟩⟩
                  rw [← hag (true, i2) (by rw [e3]; simp), ← Lp_congr fun x hx => hag x (by rw [e3]; simp [hx])]
                  exact hq'
                · rw [hmust i2 hm] at hS2; cases hS2)
          refine ⟨pa ++ [(false, i)] ++ b, r', vF', must', Z2, A3, q1, qc, q2, fun q hq => ?_, fun c hc => ?_, fun q hq => ?_, q5, q6, q7 _ _ (sstar_comm h2), q8⟩
          · by_cases c : q = i
            · subst c; simp
            · rw [sset_ne _ c] at hq
              have := hS q hq
              rw [List.map_append, List.map_append, List.mem_append, List.mem_append]; exact .inl (.inl this)
          · rw [List.mem_append, List.mem_append] at hc
            rcases hc with (hc | hc) | hc
            · by_cases c' : c = i
              · subst c'; exact sset_self _ _
              · rw [sset_ne _ c']; exact hch c hc
            · simp at hc; subst hc; exact sset_self _ _
            · exact absurd hc (q3 c)
          · by_cases c : q = i
            · subst c
              rw [vset_self]
              have := q4 (false, q) (by simp)
              rw [vset_self] at this; exact this
            · rw [sset_ne _ c] at hq
              obtain ⟨x, hx, rfl⟩ := List.mem_map.1 (hS q hq)
              rw [vset_ne _ _ c, hv _ hq, hag x hx]
              exact q4 x (by simp [hx])
        rcases hstep with ⟨hw, hs⟩ | ⟨hw, hs⟩
        · refine ⟨fun _ => ?_, fun hwf => ?_⟩
          · rw [hexec i o _ _ ho hl]
            exact hmc_mono (hs j Z1 H1 M1 (sstar_comm hst)) fun v H2 M2 ⟨A2, h1, h2⟩ => hJ v A2 H2 M2 h2 h1
          · rw [hwantE o _ _ hl, hw j] at hwf; cases hwf
        · refine ⟨fun hwt => ?_, fun _ => ?_⟩
          · rw [hwantE o _ _ hl, hw j] at hwt; cases hwt
          · exact hJ undef A1 H1 M1 (sstar_comm hst) hs
      have hwait : ∀ (c0 : Nat) (z : List (Bool × Nat)), Fits0 os (pa ++ (false, c0) :: z) → depN os os.length i c0 = true → False := fun c0 z hf hd2 => hf.one pa false c0 z rfl (hS c0 (depN_spec hcl _ _ _ _ hd2 ho hdep))
      cases r with
      | nil => cases hm
      | cons x r2 =>
        cases x with
        | q c => exact absurd (hr _ _ rfl) (by simp [isStep])
        | r => exact absurd (hr _ _ rfl) (by simp [isStep])
        | s c0 =>
          simp only [chR, Bool.and_eq_true, List.all_eq_true] at hchr
          simp only [okR, Bool.and_eq_true, List.all_eq_true] at hkk
          by_cases hc0 : i = c0
          · subst hc0
            exact hexe r2 hfit hchr.2 hkk.1 (by simpa using hkk.2) hdw1
          · obtain ⟨y, hy, rfl⟩ := List.mem_map.1 hm
            rw [strip_s] at hy
            rcases List.mem_cons.1 hy with rfl | hy
            · exact absurd rfl hc0
            · exact (hwait c0 _ (by rw [← strip_s]; exact hp0) (hchr.1 y hy)).elim
        | alt c d =>
          simp only [chR, Bool.and_eq_true, List.all_eq_true] at hchr
          simp only [okR, Bool.and_eq_true, List.all_eq_true] at hkk
          obtain ⟨hd1, hd2⟩ := hdw1
          obtain ⟨y, hy, rfl⟩ := List.mem_map.1 hm
          have hy2 : y = (false, c) ∨ y = (false, d) ∨ y ∈ strip r2 := by simpa [strip] using hy
          rcases hy2 with rfl | rfl | hy2
          · refine hexe (.s d :: r2) (fun t ht => hfit t ?_) ?_ (fun q hq => (hkk.1 q hq).1) ?_ hd1
            · obtain ⟨t1, ht1, rfl⟩ := List.mem_map.1 ht
              obtain ⟨t2, ht2, rfl⟩ := List.mem_map.1 ht1
              exact List.mem_append_left _ (List.mem_map.2 ⟨t2, ht2, rfl⟩)
            · simp only [chR, Bool.and_eq_true, List.all_eq_true]
              exact ⟨fun z hz => (hchr.1 z hz).2, hchr.2⟩
            · simpa [okR] using hkk.2.1
          · refine hexe (.s c :: r2) (fun t ht => hfit t ?_) ?_ (fun q hq => (hkk.1 q hq).2) ?_ hd2
            · obtain ⟨t1, ht1, rfl⟩ := List.mem_map.1 ht
              obtain ⟨t2, ht2, rfl⟩ := List.mem_map.1 ht1
              exact List.mem_append_right _ (List.mem_map.2 ⟨t2, ht2, rfl⟩)
            · simp only [chR, Bool.and_eq_true, List.all_eq_true]
              exact ⟨fun z hz => (hchr.1 z hz).1, hchr.2⟩
            · simpa [okR] using hkk.2.2
          · exact (hwait c _ hp0 (hchr.1 y hy2).1).elim
        | alt2 a1 c1 b1 =>
          simp only [chR, Bool.and_eq_true, List.all_eq_true] at hchr
          simp only [okR, Bool.and_eq_true, List.all_eq_true] at hkk
          obtain ⟨hd1, hd2⟩ := hdw1
          obtain ⟨y, hy, rfl⟩ := List.mem_map.1 hm
          have hy2 : y = (false, a1) ∨ y = (false, c1) ∨ y = (false, b1) ∨ y ∈ strip r2 := by simpa [strip] using hy
          rcases hy2 with rfl | rfl | rfl | hy2
          · refine hexe (.alt c1 b1 :: r2) (fun t ht => hfit t ?_) ?_ (fun q hq => (hkk.1 q hq).1) ?_ hd1
            · obtain ⟨t1, ht1, rfl⟩ := List.mem_map.1 ht
              rcases List.mem_append.1 ht1 with ht1 | ht1
              · obtain ⟨t2, ht2, rfl⟩ := List.mem_map.1 ht1
                exact List.mem_append_left _ (List.mem_map.2 ⟨t2, ht2, rfl⟩)
              · obtain ⟨t2, ht2, rfl⟩ := List.mem_map.1 ht1
                exact List.mem_append_right _ (List.mem_append_left _ (List.mem_map.2 ⟨t2, ht2, rfl⟩))
            · simp only [chR, Bool.and_eq_true, List.all_eq_true]
              exact ⟨fun z hz => (hchr.1 z hz).2, hchr.2.2⟩
            · simpa [okR] using ⟨hkk.2.1, hkk.2.2.1⟩
          · exact (hwait a1 _ hp0 hchr.2.1).elim
          · refine hexe (.s a1 :: .s c1 :: r2) (fun t ht => hfit t ?_) ?_ (fun q hq => (hkk.1 q hq).2) ?_ hd2
            · obtain ⟨t1, ht1, rfl⟩ := List.mem_map.1 ht
              obtain ⟨t2, ht2, rfl⟩ := List.mem_map.1 ht1
              obtain ⟨t3, ht3, rfl⟩ := List.mem_map.1 ht2
              exact List.mem_append_right _ (List.mem_append_right _ (List.mem_map.2 ⟨t3, ht3, rfl⟩))
            · simp only [chR, strip, Bool.and_eq_true, List.all_eq_true]
              refine ⟨fun z hz => ?_, fun z hz => (hchr.1 z hz).2.1, hchr.2.2⟩
              rcases List.mem_cons.1 hz with rfl | hz
              · exact hchr.2.1
              · exact (hchr.1 z hz).1
            · simpa [okR] using hkk.2.2.2
          · exact (hwait a1 _ hp0 (hchr.1 y hy2).1).elim
        | altq1 c1 q1 b1 =>
          simp only [chR, Bool.and_eq_true, List.all_eq_true] at hchr
          simp only [okR, Bool.and_eq_true, List.all_eq_true] at hkk
          obtain ⟨hd1, hd2⟩ := hdw1
          obtain ⟨y, hy, rfl⟩ := List.mem_map.1 hm
          have hy2 : y = (false, c1) ∨ y = (true, q1) ∨ y = (false, b1) ∨ y ∈ strip r2 := by simpa [strip] using hy
          rcases hy2 with rfl | rfl | rfl | hy2
          · refine hexe (.q q1 :: .s b1 :: r2) (fun t ht => hfit t ?_) ?_ (fun q hq => (hkk.1 q hq).1) ?_ hd1
            · obtain ⟨t1, ht1, rfl⟩ := List.mem_map.1 ht
              obtain ⟨t2, ht2, rfl⟩ := List.mem_map.1 ht1
              obtain ⟨t3, ht3, rfl⟩ := List.mem_map.1 ht2
              exact List.mem_append_left _ (List.mem_map.2 ⟨t3, ht3, rfl⟩)
            · simp only [chR, Bool.and_eq_true, List.all_eq_true]
              exact ⟨fun z hz => (hchr.1 z hz).2, hchr.2.2⟩
            · simpa [okR] using hkk.2.1
          · exact (hwait c1 _ hp0 hchr.2.1).elim
          · refine hexe (.s c1 :: .q q1 :: r2) (fun t ht => hfit t ?_) ?_ (fun q hq => (hkk.1 q hq).2) ?_ hd2
            · obtain ⟨t1, ht1, rfl⟩ := List.mem_map.1 ht
              obtain ⟨t2, ht2, rfl⟩ := List.mem_map.1 ht1
              obtain ⟨t3, ht3, rfl⟩ := List.mem_map.1 ht2
              exact List.mem_append_right _ (List.mem_map.2 ⟨t3, ht3, rfl⟩)
            · simp only [chR, strip, Bool.and_eq_true, List.all_eq_true]
              refine ⟨fun z hz => ?_, hchr.2.2⟩
              rcases List.mem_cons.1 hz with rfl | hz
              · exact hchr.2.1
              · exact (hchr.1 z hz).1
            · simpa [okR] using hkk.2.2
          · exact (hwait c1 _ hp0 (hchr.1 y hy2).1).elim
        | altq a1 c1 q1 b1 =>
          simp only [chR, Bool.and_eq_true, List.all_eq_true] at hchr
          simp only [okR, Bool.and_eq_true, List.all_eq_true] at hkk
          obtain ⟨hd1, hd2⟩ := hdw1
          obtain ⟨y, hy, rfl⟩ := List.mem_map.1 hm
          have hy2 : y = (false, a1) ∨ y = (false, c1) ∨ y = (true, q1) ∨ y = (false, b1) ∨ y ∈ strip r2 := by simpa [strip] using hy
          rcases hy2 with rfl | rfl | rfl | rfl | hy2
          · refine hexe (.altq1 c1 q1 b1 :: r2) (fun t ht => hfit t ?_) ?_ (fun q hq => (hkk.1 q hq).1) ?_ hd1
            · obtain ⟨t1, ht1, rfl⟩ := List.mem_map.1 ht
              rcases List.mem_append.1 ht1 with ht1 | ht1
              · obtain ⟨t2, ht2, rfl⟩ := List.mem_map.1 ht1
                exact List.mem_append_left _ (List.mem_map.2 ⟨t2, ht2, rfl⟩)
              · obtain ⟨t2, ht2, rfl⟩ := List.mem_map.1 ht1
                exact List.mem_append_right _ (List.mem_append_left _ (List.mem_map.2 ⟨t2, ht2, rfl⟩))
            · simp only [chR, Bool.and_eq_true, List.all_eq_true]
              exact ⟨fun z hz => (hchr.1 z hz).2, hchr.2.2.2⟩
            · simpa [okR] using ⟨hkk.2.1, hkk.2.2.1⟩
          · exact (hwait a1 _ hp0 hchr.2.1).elim
          · exact (hwait a1 _ hp0 hchr.2.2.1).elim
          · refine hexe (.s a1 :: .s c1 :: .q q1 :: r2) (fun t ht => hfit t ?_) ?_ (fun q hq => (hkk.1 q hq).2) ?_ hd2
            · obtain ⟨t1, ht1, rfl⟩ := List.mem_map.1 ht
              obtain ⟨t2, ht2, rfl⟩ := List.mem_map.1 ht1
              obtain ⟨t3, ht3, rfl⟩ := List.mem_map.1 ht2
              obtain ⟨t4, ht4, rfl⟩ := List.mem_map.1 ht3
              exact List.mem_append_right _ (List.mem_append_right _ (List.mem_map.2 ⟨t4, ht4, rfl⟩))
            · simp only [chR, strip, Bool.and_eq_true, List.all_eq_true]
              refine ⟨fun z hz => ?_, fun z hz => ?_, hchr.2.2.2.2⟩
              · rcases List.mem_cons.1 hz with rfl | hz
                · exact hchr.2.1
                · rcases List.mem_cons.1 hz with rfl | hz
                  · exact hchr.2.2.1
                  · exact (hchr.1 z hz).1
              · rcases List.mem_cons.1 hz with rfl | hz
                · exact hchr.2.2.2.1
                · exact (hchr.1 z hz).2.1
            · simpa [okR] using hkk.2.2.2
          · exact (hwait a1 _ hp0 (hchr.1 y hy2).1).elim
  · -- the end
    rintro a2 w2 S vs H2 M2 hall ha2 hh2 ⟨pa, r, vF, must, Z1, A1, hfit, hchr, hr, hS, hch, hv, hkk, hpend, hst, hdw1⟩
    have hp0 := hfit _ (strip_lins r)
    have hlt : ∀ c, (∃ o, os[c]? = some o) → S c = true := fun c ⟨o, ho⟩ => hall c (List.getElem?_eq_some_iff.1 ho).1
    have hr0 : r = [] := by
      cases r with
      | nil => rfl
      | cons x r1 =>
        cases x with
        | q c => exact absurd (hr _ _ rfl) (by simp [isStep])
        | r => exact absurd (hr _ _ rfl) (by simp [isStep])
        | s c => exact absurd (hS c (hlt c (hp0.ex (false, c) (by simp [strip])))) (hp0.one pa false c (strip r1) rfl)
        | alt c d => exact absurd (hS c (hlt c (hp0.ex (false, c) (by simp [strip])))) (hp0.one pa false c _ rfl)
        | alt2 c d e => exact absurd (hS c (hlt c (hp0.ex (false, c) (by simp [strip])))) (hp0.one pa false c _ rfl)
        | altq1 c d e => exact absurd (hS c (hlt c (hp0.ex (false, c) (by simp [strip])))) (hp0.one pa false c _ rfl)
        | altq c d e f => exact absurd (hS c (hlt c (hp0.ex (false, c) (by simp [strip])))) (hp0.one pa false c _ rfl)
    subst hr0
    rw [show strip [] = [] from rfl, List.append_nil] at hp0
    refine ⟨rfl, _, Z1, A1, H2, M2, ?_, hh2, hdw1, hst⟩
    have h1 := Lp_ES' hd l vF j hp0.ex pa.length (Nat.le_refl _)
    rw [List.take_length] at h1
    rw [h1]
    have : ES os (mk l j) vs S = ES os (mk l j) vF (fun q => (pa.map (·.2)).contains q) := by
      funext t; unfold ES
      cases hq : widx t 0 os with
      | none => rfl
      | some q =>
        obtain ⟨_, o, ho, _⟩ := widx_spec hq
        rw [Nat.sub_zero] at ho
        have hlt := (List.getElem?_eq_some_iff.1 ho).1
        have h2 : (pa.map (·.2)).contains q = true := by rw [List.contains_iff_mem]; exact hp0.all q hlt
        dsimp only
        rw [hall q hlt, h2, hv q (hall q hlt)]
    rw [← this]; exact ha2
  · intro i o ho hc
    have := congrFun hz i
    dsimp only at this hc
    rw [this] at hc; cases hc
  · rw [hz]
    have : ES os (mk l j) (fun _ => undef) (fun _ => false) = mk l j := by
      funext t; unfold ES; cases widx t 0 os <;> rfl
    rw [this]; exact ha
  · simp only [linB, Bool.and_eq_true, List.all_eq_true] at hlin
    obtain ⟨b, r', vF', must', Z2, A2, q1, qc, q2, q3, q4, q5, q6, q7, q8⟩ := dwr_adv (P := P) (n := n) (os := os) (K := K) (l := l) (S := fun _ => false) p [] (fun _ => undef) [] Z A (fun t ht => by simpa using fits0 (hlin.1 t ht)) hlin.2 hok hdw (by
      intro a1 i a2 e; cases a1 <;> cases e)
    rw [hz]
    exact ⟨b, r', vF', must', Z2, A2, by simpa using q1, qc, q2, fun i h => (nomatch h), fun c hc => absurd hc (q3 c), fun i h => (nomatch h), by simpa using q5, by simpa using q6, q7 _ _ h0, by simpa using q8⟩
end
end Go.Cam
