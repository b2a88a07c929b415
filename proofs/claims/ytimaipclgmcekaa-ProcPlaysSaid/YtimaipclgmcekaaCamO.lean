/- Regions that draw, step by step: what may be taken first, and what alone may come up. -/
import Derived.Test.YtimaipclgmcekaaCamN
import Derived.OrdersHeld
namespace Go.Cam
/-- the steps of a walk: (true, i): operation i may be taken first; (false, i): it alone may come up -/
def stepsB (os : Array Oper) : List (Bool × Nat) → Array Bool → Bool
  | [], listed => (Region.ready .any os listed).isEmpty
  | (true, i) :: r, listed => (Region.ready .any os listed).contains i && Region.free .any os listed i && Nat.blt i os.size && stepsB os r (listed.setIfInBounds i true)
  | (false, i) :: r, listed => Region.ready .any os listed == [i] && Nat.blt i os.size && stepsB os r (listed.setIfInBounds i true)
def Keeps (Ms M : Heap) : Prop := ∀ b o, Ms b = some o → M b = some o
theorem Keeps.nil (M : Heap) : Keeps nil M := fun _ _ h => (nomatch h)
theorem Keeps.refl (M : Heap) : Keeps M M := fun _ _ h => h
theorem Keeps.new {Ms M M' : Heap} {r : Nat} (h : Keeps Ms M) (k : New M r M') : Keeps Ms M' := fun b o hb => (k b o (h b o hb)).1
theorem Keeps.one {M : Heap} {b : Nat} {o : Obj} (h : M b = some o) : Keeps (upd Cam.nil b o) M := fun c o' hc => by
  by_cases e : c = b
  · subst e; rw [upd_same] at hc; cases hc; exact h
  · rw [upd_ne e] at hc; cases hc
def OW (P : Program) (n : Nat) (os : List Oper) (H Ms : Heap) (steps : List (Bool × Nat)) (l : List (Nat × Value)) (M : Heap) (K : List (Nat × Value) → Heap → Prop) : Prop :=
  ∀ j w0 w a listed, Region.noSelect os.toArray = true → stepsB os.toArray steps listed = true → Has w0 w H M → Agr n a (mk l j) →
    wpAnyH P .any os.toArray (fun e a' w' => e = .normal ∧ ∃ l' M', Agr n a' (mk l' j) ∧ Has w0 w' H M' ∧ K l' M') (fun w => Has w0 w H Ms) steps.length listed a w
theorem Has.keeps {w0 w : World} {H M Ms : Heap} (h : Has w0 w H M) (k : Keeps Ms M) : Has w0 w H Ms := Sub.less k _ _ h
section
variable {P : Program} {n : Nat} {os : List Oper} {H Ms M : Heap} {l l2 : List (Nat × Value)} {steps : List (Bool × Nat)} {K : List (Nat × Value) → Heap → Prop}
theorem ow_done (h : K l M) : OW P n os H Ms [] l M K := by
  intro j w0 w a listed _ hb hh ha
  exact ⟨by simpa [stepsB] using hb, rfl, l, M, ha, hh, h⟩
theorem ow_takes (hk : Keeps Ms M) : ∀ (p : List Nat) (l : List (Nat × Value)), QL P n os.toArray H Ms (pick os p) l l2 → OW P n os H Ms steps l2 M K → OW P n os H Ms (p.map (fun i => (true, i)) ++ steps) l M K
  | [], l, hq, h => by cases hq; exact h
  | i :: r, l, hq, h => by
    intro j w0 w a listed hs hb hh ha
    simp only [List.map_cons, List.cons_append, stepsB, Bool.and_eq_true] at hb
    obtain ⟨⟨⟨hr, hf⟩, hi⟩, hb⟩ := hb
    have hlt : i < os.length := by simpa using hi
    have ho : os[i]? = some os[i] := List.getElem?_eq_getElem hlt
    rw [show pick os (i :: r) = os[i] :: pick os r by simp [pick, ho]] at hq
    cases hq with
    | yes v hd hw hqs hq =>
      refine wpAnyH_take (oi := os[i]) (v := v) (by simp [hlt]) hs hf hr (fun c a w h => absurd h.1 (by simp)) (.inl ⟨by rw [wantE_ok ha, hw j], fun w hw => ?_⟩) (hh.keeps hk) ?_
      · rw [ha.eval]; exact hqs j w0 w hw
      · exact ow_takes hk r _ hq h j w0 w _ _ hs hb hh (by rw [← putl_ok]; exact ha.put _ _ (din_ok hd))
    | no hd hw hq =>
      refine wpAnyH_take (oi := os[i]) (v := undef) (by simp [hlt]) hs hf hr (fun c a w h => absurd h.1 (by simp)) (.inr ⟨by rw [wantE_ok ha, hw j], rfl⟩) (hh.keeps hk) ?_
      exact ow_takes hk r _ hq h j w0 w _ _ hs hb hh (by rw [← putl_ok]; exact ha.put _ _ (din_ok hd))
theorem ow_only (i : Nat) (h : TL P n os.toArray (pick os [i]) l H M fun l' H' M' => H' = H ∧ Keeps Ms M' ∧ OW P n os H Ms steps l' M' K) : OW P n os H Ms ((false, i) :: steps) l M K := by
  intro j w0 w a listed hs hb hh ha
  simp only [stepsB, Bool.and_eq_true, beq_iff_eq] at hb
  obtain ⟨⟨hr, hi⟩, hb⟩ := hb
  have hlt : i < os.length := by simpa using hi
  have ho : os[i]? = some os[i] := List.getElem?_eq_getElem hlt
  rw [show pick os [i] = [os[i]] by simp [pick, ho]] at h
  have h1 := h j w0 w a hh ha
  refine wpAnyH_all hr (by simp) fun i' hi' => ?_
  rw [List.mem_singleton.1 hi']
  unfold wpList at h1
  unfold wpOp
  rw [show os.toArray[i]? = some os[i] by simp [hlt]]
  dsimp only
  have next : ∀ a' w', wpList P os.toArray (fun e a' w' => e = .normal ∧ ∃ l' H' M', Agr n a' (mk l' j) ∧ Has w0 w' H' M' ∧ H' = H ∧ Keeps Ms M' ∧ OW P n os H Ms steps l' M' K) [] a' w' →
      Has w0 w' H Ms ∧ wpAnyH P .any os.toArray (fun e a' w' => e = .normal ∧ ∃ l' M', Agr n a' (mk l' j) ∧ Has w0 w' H M' ∧ K l' M') (fun w => Has w0 w H Ms) steps.length (listed.setIfInBounds i true) a' w' := by
    intro a' w' hw
    obtain ⟨_, l', H', M', ha', hh', rfl, hk, how⟩ := hw
    exact ⟨hh'.keeps hk, how j w0 w' a' _ hs hb hh' ha'⟩
  by_cases hw : Region.wanted os[i] (yielded os.toArray a.tmps) = true
  · rw [if_pos hw] at h1 ⊢
    rcases h1 with h1 | h1
    · refine .inl ?_
      have h2 := Oper.wp_mono next h1
      unfold Oper.wp at h2 ⊢
      generalize (execOp a.eval os[i]).run P w = res at *
      cases res with
      | ok nx w1 =>
        cases nx <;> simp only [Oper.upon] at h2 ⊢ <;>
          first
            | exact h2
            | (refine Calls.mono h2 fun e w'' he => ?_
               cases e with
               | returned v => exact he
               | panicked c => exact absurd he.1 (by simp)
               | outgrown => obtain ⟨_, _, hx⟩ := he; cases hx.1)
      | halt x w1 => cases x <;> simp only [Oper.upon] at h2 ⊢ <;> first | exact h2 | exact absurd h2.1 (by simp)
    · obtain ⟨_, _, _, hx⟩ := h1; cases hx.1
  · rw [if_neg hw] at h1 ⊢
    exact next _ _ h1
end
section
variable {P : Program} {f : FuncId} {n : Nat} {R : Post} {k : List It} {l : List (Nat × Value)} {H M : Heap}
theorem run_steps {id : Nat} {ops : List Oper} (Ms : Heap) (steps : List (Bool × Nat)) (hmx : P.follows .mixedOrders = true) (hs : Region.noSelect ops.toArray = true) (hn : Nat.beq steps.length ops.length = true) (hB : stepsB ops.toArray steps (Array.replicate ops.length false) = true)
    (h : OW P n ops H Ms steps l M (fun l' M' => Run P f n R k l' H M')) : Run P f n R (.code (.region id ops.toArray true) :: k) l H M := by
  intro j w0 w a b cs k' hk hh ha hf hn'
  replace hn := Nat.eq_of_beq_eq_true hn
  cases hk with
  | @code _ _ k1 hk =>
    have h1 := wp_region_held (P := P) (id := id) (ops := ops.toArray) (Q := fun e a' w' => e = .normal ∧ ∃ l' M', Agr n a' (mk l' j) ∧ Has w0 w' H M' ∧ Run P f n R k l' H M') (S := fun w => Has w0 w H Ms) (a := a) (w := w) hmx (by
      have := h j w0 _ a _ hs hB hh.drew ha
      rw [hn] at this
      simpa using this)
    obtain ⟨e, a', w1, ⟨rfl, l', M', ha', hw1, hgo⟩, harr⟩ := h1 b k1 cs
    obtain ⟨v, w', fr, hst, r⟩ := hgo j w0 w1 a' b cs k1 hk hw1 ha' hf hn'
    exact ⟨v, w', fr, Steps.trans harr hst, r⟩
theorem tl_call {all : Array Oper} {rest : List Oper} {K : List (Nat × Value) → Heap → Heap → Prop} {d : Nat} {op : Op} {ty : TypeId} {pos : String} {af : Array Edge} {g : Option (Nat × Bool)} {q : FuncId} {args : Array Value} {R' : Post} (hd : Nat.blt d n = true) (hw : ∀ j, wantE ⟨some d, op, ty, pos, af, g⟩ all (mk l j) = true)
    (hx : ∀ j, cst P (execOp (ev (mk l j)) ⟨some d, op, ty, pos, af, g⟩) = some (.enter q args)) (hc : ACalls P q args H M R')
    (h : ∀ v H' M', R' v H' M' → TL P n all rest ((d, v) :: l) H' M' K) : TL P n all (⟨some d, op, ty, pos, af, g⟩ :: rest) l H M K := by
  intro j w0 w a hh ha
  unfold wpList
  rw [wantE_ok ha, hw j, if_pos rfl]
  refine .inl ?_
  unfold Oper.wp
  rw [ha.eval, cst_run _ (hx j) w]
  refine Calls.mono (hc w0 w hh) fun e w2 ⟨v, H', M', he, h2, hr⟩ => ?_
  subst he
  exact h v H' M' hr j w0 w2 _ h2 (ha.put (some d) v (din_ok (by exact hd)))
end
/-- what is still to be done, proved once for all ways that come there -/
theorem run_join {P : Program} {f : FuncId} {n : Nat} {R : Post} {k k' : List It} {l : List (Nat × Value)} {H M : Heap} {α : Type} (L : α → List (Nat × Value)) (Pre : α → Heap → Heap → Prop) (K : ∀ a H M, Pre a H M → Run P f n R k (L a) H M)
    (h : (∀ a H M, Pre a H M → Run P f n R k (L a) H M) → Run P f n R k' l H M) : Run P f n R k' l H M := h K
end Go.Cam
