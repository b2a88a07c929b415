/- Slices of one's own, beside other blocks that one knows. -/
import Derived.Test.YtimaipclgmcekaaCamI
namespace Go.Cam
theorem Own.has' {M : Heap} {e sz c : Nat} {v : Value} {xs : List Value} (h : Own M e sz v xs) (hc : ob v = some c) : ∃ cs, M c = some (.cells cs e (0, 0)) := by
  rcases h with ⟨rfl, _⟩ | ⟨b, len, cap, cs, rfl, _, _, _, hm, _⟩
  · simp [ob] at hc
  · simp [ob] at hc; subst hc; exact ⟨cs, hm⟩
/-- a slice of one's own that is none of the blocks bs, and none that stood at the beginning -/
structure Mn (M0 : Heap) (bs : List Nat) (e sz : Nat) (M : Heap) (v : Value) (xs : List Value) : Prop where
  own : Own M e sz v xs
  out : ∀ c, ob v = some c → c ∉ bs ∧ ∀ o, M0 c ≠ some o
section
variable {M0 M M' : Heap} {bs : List Nat} {e sz r : Nat} {v v' : Value} {xs ys : List Value}
theorem Mn.ch (h : Mn M0 bs e sz M v xs) {cs : List Nat} (hc : Ch cs M M') (hs : ∀ c, c ∈ cs → c ∈ bs) : Mn M0 bs e sz M' v xs :=
  ⟨h.own.frame fun c o hv ho => hc c o (fun e => (h.out c hv).1 (hs c e)) ho, h.out⟩
theorem Mn.new (h : Mn M0 bs e sz M v xs) (hc : New M r M') : Mn M0 bs e sz M' v xs :=
  ⟨h.own.frame fun c o _ ho => (hc c o ho).1, h.out⟩
theorem Mn.ne (h : Mn M0 bs e sz M v xs) (hc : New M r M') : ob v ≠ some r := fun e => by
  obtain ⟨cs, hm⟩ := h.own.has' e
  exact (hc _ _ hm).2 rfl
theorem Mn.put (h : Mn M0 bs e sz M v xs) (hc : Put M r M') (hne : ob v ≠ some r) : Mn M0 bs e sz M' v xs :=
  ⟨h.own.frame fun c o hv ho => hc c o (fun e => hne (e ▸ hv)) ho, h.out⟩
theorem Mn.app (h : Mn M0 bs e sz M v xs) (hch : Ch bs M0 M) (hb : ∀ c, c ∈ bs → ∃ o, M c = some o) (ho : Own M' e sz v' ys) (ha : App M v M' v') :
    Mn M0 bs e sz M' v' ys ∧ Ch bs M0 M' ∧ ∀ c, c ∈ bs → ∀ o, M c = some o → M' c = some o := by
  have hvb : ∀ c, c ∈ bs → ob v ≠ some c := fun c hc e => (h.out c e).1 hc
  refine ⟨⟨ho, fun c hc => ⟨fun e => ?_, fun o hm => ?_⟩⟩, fun c o hc hm => ?_, fun c hc o hm => (ha c o (hvb c hc) hm).1⟩
  · obtain ⟨ob1, hb1⟩ := hb c e
    exact (ha c ob1 (hvb c e) hb1).2 hc
  · have hcb : c ∉ bs := fun e => by obtain ⟨ob1, hb1⟩ := hb c e; exact (ha c ob1 (hvb c e) hb1).2 hc
    have h1 := hch c o hcb hm
    have hvc : ob v ≠ some c := fun e => (h.out c e).2 o hm
    exact (ha c o hvc h1).2 hc
  · have hvc : ob v ≠ some c := fun e => (h.out c e).2 o hm
    exact (ha c o hvc (hch c o hc hm)).1
/-- a slice that was just written out -/
theorem Mn.made {k : Nat} {cells : Array Value} (hr : M' r = some (.cells cells e (0, 0))) (hk : New M r M') (hch : Ch bs M0 M) (hb : ∀ c, c ∈ bs → ∃ o, M c = some o) (hs : cells.size = k * sz) : Mn M0 bs e sz M' (.slice (some ⟨r, 0, none⟩) k k) cells.toList := by
  refine ⟨.inr ⟨r, k, k, cells, rfl, by simpa using hs, hs, Nat.le_refl _, hr, List.take_of_length_le (Nat.le_refl _)⟩, fun c hc => ?_⟩
  simp only [ob, Option.some.injEq] at hc
  subst hc
  have hnb : r ∉ bs := fun e => by obtain ⟨o, ho⟩ := hb r e; exact (hk _ _ ho).2 rfl
  exact ⟨hnb, hk.none hch hnb⟩
/-- as many elements as there are, and where they lie -/
theorem Mn.at (h : Mn M0 bs e sz M v xs) (n : Nat) (hn : xs.length = n * sz) (h0 : 0 < n) (hz : 0 < sz) :
    ∃ b cap cs, v = .slice (some ⟨b, 0, none⟩) n cap ∧ cs.size = cap * sz ∧ n ≤ cap ∧ M b = some (.cells cs e (0, 0)) ∧ cs.toList.take (n * sz) = xs ∧ b ∉ bs ∧ ∀ o, M0 b ≠ some o := by
  rcases h.own with ⟨_, rfl⟩ | ⟨b, len, cap, cs, rfl, h1, h2, h3, h4, h5⟩
  · have := Nat.mul_pos h0 hz; simp at hn; omega
  · have : len = n := Nat.eq_of_mul_eq_mul_right hz (h1 ▸ hn)
    subst this
    exact ⟨b, cap, cs, rfl, h2, h3, h4, by rw [← hn]; exact h5, h.out b rfl⟩
end
theorem Ch.out {M0 M M1 : Heap} {b : Nat} {bs : List Nat} (a : Ch bs M0 M) (h : Ch [b] M M1) (hb : ∀ o, M0 b ≠ some o) : Ch bs M0 M1 := fun c o hc ho => h c o (fun e => hb o (by rw [← List.mem_singleton.1 e]; exact ho)) (a c o hc ho)
theorem take_get {cs : Array Value} {xs : List Value} {n : Nat} (h : cs.toList.take n = xs) {i : Nat} (hi : i < n) : cs[i]? = xs[i]? := by
  rw [← h, List.getElem?_take, if_pos hi]; simp
end Go.Cam
