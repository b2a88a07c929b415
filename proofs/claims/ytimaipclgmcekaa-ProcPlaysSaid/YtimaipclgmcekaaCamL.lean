/- Regions that draw, walked in an order of one's own; slices of slices. -/
import Derived.Test.YtimaipclgmcekaaCamK
import Derived.Test.YtimaipclgmcekaaCamZ
namespace Go.Cam
def permTake (os : Array Oper) : List Nat → Array Bool → Option (Array Bool)
  | [], listed => some listed
  | i :: r, listed => if (Region.ready .any os listed).contains i && Region.free .any os listed i && Nat.blt i os.size then permTake os r (listed.setIfInBounds i true) else none
def permOnly (os : Array Oper) : List Nat → Array Bool → Bool
  | [], listed => (Region.ready .any os listed).isEmpty
  | i :: r, listed => Region.ready .any os listed == [i] && Nat.blt i os.size && permOnly os r (listed.setIfInBounds i true)
def permB (os : List Oper) (p1 p2 : List Nat) : Bool :=
  Region.noSelect os.toArray && Nat.beq (p1.length + p2.length) os.length && match permTake os.toArray p1 (Array.replicate os.length false) with
    | some listed => permOnly os.toArray p2 listed
    | none => false
def pick (os : List Oper) : List Nat → List Oper
  | [] => []
  | i :: r => match os[i]? with
    | some o => o :: pick os r
    | none => pick os r
section
variable {P : Program} {n : Nat} {os : List Oper}
theorem perm_only (Q : Exit → Act → World → Prop) :
    ∀ (p2 : List Nat) (listed : Array Bool) (a : Act) (w : World), permOnly os.toArray p2 listed = true → wpList P os.toArray Q (pick os p2) a w → wpAny P .any os.toArray Q p2.length listed a w
  | [], listed, a, w, hp, h => ⟨by simpa [permOnly] using hp, h⟩
  | i :: r, listed, a, w, hp, h => by
    simp only [permOnly, Bool.and_eq_true, beq_iff_eq] at hp
    obtain ⟨⟨hr, hi⟩, hp⟩ := hp
    have hlt : i < os.length := by simpa using hi
    have ho : os[i]? = some os[i] := List.getElem?_eq_getElem hlt
    refine wpAny_all hr (by simp) fun i' hi' => ?_
    rw [List.mem_singleton.1 hi']
    rw [show pick os (i :: r) = os[i] :: pick os r by simp [pick, ho]] at h
    unfold wpList at h
    unfold wpOp
    rw [show os.toArray[i]? = some os[i] by simp [hlt]]
    dsimp only
    by_cases hw : Region.wanted os[i] (yielded os.toArray a.tmps) = true
    · rw [if_pos hw] at h ⊢
      exact h.imp (Oper.wp_mono fun a w h => perm_only Q r _ a w hp h) id
    · rw [if_neg hw] at h ⊢
      exact perm_only Q r _ _ w hp h
theorem perm_take {l2 : List (Nat × Value)} (Q : Exit → Act → World → Prop) (hQ : ∀ c a w, ¬ Q (.panic c) a w) (hs : Region.noSelect os.toArray = true) (j : Nat → Value) (m : Nat) (listed2 : Array Bool) :
    ∀ (p1 : List Nat) (l : List (Nat × Value)) (listed : Array Bool) (a : Act) (w : World), permTake os.toArray p1 listed = some listed2 → QL P n os.toArray nil nil (pick os p1) l l2 → Agr n a (mk l j) →
      (∀ a', Agr n a' (mk l2 j) → wpAny P .any os.toArray Q m listed2 a' w) → wpAny P .any os.toArray Q (p1.length + m) listed a w
  | [], l, listed, a, w, hp, hq, ha, h => by
    simp only [permTake, Option.some.injEq] at hp
    subst hp
    rw [show ([] : List Nat).length + m = m by simp]
    cases hq
    exact h a ha
  | i :: r, l, listed, a, w, hp, hq, ha, h => by
    unfold permTake at hp
    split at hp
    · rename_i hc
      simp only [Bool.and_eq_true] at hc
      obtain ⟨⟨hr, hf⟩, hi⟩ := hc
      have hlt : i < os.length := by simpa using hi
      have ho : os[i]? = some os[i] := List.getElem?_eq_getElem hlt
      rw [show pick os (i :: r) = os[i] :: pick os r by simp [pick, ho]] at hq
      have hw0 : ∀ w : World, Has w w nil nil := fun w => ⟨rfl, rfl, rfl, Nat.le_refl _, fun _ _ h => (nomatch h), fun _ _ h => (nomatch h), fun _ h => absurd rfl h⟩
      rw [show (i :: r).length + m = (r.length + m) + 1 by simp; omega]
      cases hq with
      | yes v hd hw hqs hq =>
        refine wpAny_take (oi := os[i]) (v := v) (by simp [hlt]) hs hf hr (fun c a w h => absurd h (hQ _ _ _)) (.inl ⟨by rw [wantE_ok ha, hw j], fun w => ?_⟩) ?_
        · rw [ha.eval]; exact hqs j w w (hw0 w)
        · exact perm_take Q hQ hs j m listed2 r _ _ _ w hp hq (by rw [← putl_ok]; exact ha.put _ _ (din_ok hd)) h
      | no hd hw hq =>
        refine wpAny_take (oi := os[i]) (v := undef) (by simp [hlt]) hs hf hr (fun c a w h => absurd h (hQ _ _ _)) (.inr ⟨by rw [wantE_ok ha, hw j], rfl⟩) ?_
        exact perm_take Q hQ hs j m listed2 r _ _ _ w hp hq (by rw [← putl_ok]; exact ha.put _ _ (din_ok hd)) h
    · cases hp
end
/-- a region that draws, walked in an order of one's own: p1: what looks at no memory; p2: the others, of which only one may ever come up -/
theorem run_perm {P : Program} {f : FuncId} {n : Nat} {R : Post} {k : List It} {l l2 : List (Nat × Value)} {H M : Heap} {id : Nat} {ops : List Oper} (p1 p2 : List Nat) (hmx : P.follows .mixedOrders = true) (hB : permB ops p1 p2 = true)
    (hq : QL P n ops.toArray nil nil (pick ops p1) l l2) (ht : TL P n ops.toArray (pick ops p2) l2 H M (fun l' H' M' => Run P f n R k l' H' M')) : Run P f n R (.code (.region id ops.toArray true) :: k) l H M := by
  intro j w0 w a b cs k' hk hh ha hf hn
  unfold permB at hB
  simp only [Bool.and_eq_true] at hB
  obtain ⟨⟨hs, hlen⟩, hB⟩ := hB
  replace hlen := Nat.eq_of_beq_eq_true hlen
  cases hp : permTake ops.toArray p1 (Array.replicate ops.length false) with
  | none => rw [hp] at hB; cases hB
  | some listed2 =>
    rw [hp] at hB
    cases hk with
    | @code _ _ k1 hk =>
      let Q : Exit → Act → World → Prop := fun e a' w' => e = .normal ∧ ∃ l' H' M', Agr n a' (mk l' j) ∧ Has w0 w' H' M' ∧ Run P f n R k l' H' M'
      have h1 := wp_region_any (P := P) (id := id) (ops := ops.toArray) (Q := Q) (a := a) (w := w) hmx (by
        have := perm_take (n := n) (l2 := l2) Q (fun c a w h => by cases h.1) hs j p2.length listed2 p1 l (Array.replicate ops.length false) a { w with drawn := w.drawn + 1 } hp hq ha
          (fun a' ha' => perm_only Q p2 listed2 a' _ hB (ht j w0 _ a' hh.drew ha'))
        rw [hlen] at this
        simpa using this)
      obtain ⟨e, a', w1, ⟨rfl, l', H', M', ha', hw1, hgo⟩, harr⟩ := h1 b k1 cs
      obtain ⟨v, w', fr, hst, r⟩ := hgo j w0 w1 a' b cs k1 hk hw1 ha' hf hn
      exact ⟨v, w', fr, Steps.trans harr hst, r⟩
end Go.Cam
