/- Processes that fork, end and are waited for: the plain law. -/
import Derived.Test.YtimaipclgmcekaaProcK
import Derived.Test.YtimaipclgmcekaaCamO
namespace Go.Proofs.Ytimaipclgmcekaa
open Go.Cam
set_option maxRecDepth 100000
structure Fam (T : Tb) (m : Nat) (xs : List Nat) : Prop where
  inv : Inv T
  nofd : ∀ p f, T.fd p f = 0
  m1 : 1 ≤ m
  m8 : m ≤ 8
  st1 : T.st 1 = 1
  hi : ∀ p, m < p → T.st p = 0
  lo : ∀ p, 2 ≤ p → p ≤ m → (T.st p = 1 ∧ p ∈ xs) ∨ (T.st p = 2 ∧ p ∉ xs ∧ T.code p = 100 + (p : Int))
  par1 : T.par 1 = 0
  par : ∀ p, 2 ≤ p → p ≤ m → ∃ q : Nat, T.par p = q ∧ 1 ≤ q ∧ q ≤ m ∧ T.st q = 1
  mem : ∀ p, p ∈ xs → 2 ≤ p ∧ p ≤ m
  nd : xs.Nodup
def seg (a n : Nat) : List Nat := (List.range n).map (· + a)
theorem seg_mem {a n p : Nat} : p ∈ seg a n ↔ a ≤ p ∧ p < a + n := by
  simp only [seg, List.mem_map, List.mem_range]
  constructor
  · rintro ⟨q, h, rfl⟩; omega
  · intro h; exact ⟨p - a, by omega, by omega⟩
theorem seg_nodup (a n : Nat) : (seg a n).Nodup := by
  unfold seg
  refine List.Pairwise.map _ ?_ List.nodup_range
  intro x y h e; exact h (by omega)
theorem seg_len (a n : Nat) : (seg a n).length = n := by simp [seg]
theorem seg_snoc (a n : Nat) : seg a (n + 1) = seg a n ++ [n + a] := by unfold seg; rw [List.range_succ, List.map_append]; rfl
theorem seg_get {a n i : Nat} (h : i < n) : (seg a n)[i]? = some (i + a) := by simp [seg, h]
theorem seg_cons (a n : Nat) : seg a (n + 1) = a :: seg (a + 1) n := by
  unfold seg; rw [List.range_succ_eq_map, List.map_cons, List.map_map]
  congr 1
  · omega
  · apply List.map_congr_left; intro x _; show x + 1 + a = x + (a + 1); omega
theorem Fam.start : Fam S0 1 (seg 2 0) := by
  refine ⟨I0, fun _ _ => rfl, by omega, by omega, rfl, fun p hp => ?_, fun p h1 h2 => by omega, rfl, fun p h1 h2 => by omega, fun p hp => by simp [seg] at hp, by simp [seg]⟩
  show (if p = 1 then (1 : Int) else 0) = 0
  rw [if_neg (by omega)]
theorem Fam.slot {T : Tb} {m : Nat} {xs : List Nat} (h : Fam T m xs) : T.slot 9 0 = if m < 8 then some (m + 1) else none := by
  rw [slot_eq]
  have hne : ∀ p, 1 ≤ p → p ≤ m → T.st p ≠ 0 := fun p h1 h2 => by
    by_cases e : p = 1
    · rw [e, h.st1]; omega
    · rcases h.lo p (by omega) h2 with ⟨h3, _⟩ | ⟨h3, _⟩ <;> omega
  have key : ∀ d i, i + d = 9 → i ≤ m + 1 → slotS T.st d i = if m < 8 then some (m + 1) else none := by
    intro d
    induction d with
    | zero => intro i hi hm; rw [slotS, if_neg (by omega)]
    | succ d ih =>
      intro i hi hm
      rw [slotS]
      by_cases e : i = m + 1
      · have h0 := h.hi (m + 1) (by omega)
        rw [e, if_neg (by rw [h0]; omega), if_pos (by omega)]
      · by_cases e0 : i < 1
        · rw [if_pos (.inl e0)]; exact ih (i + 1) (by omega) (by omega)
        · rw [if_pos (.inr (hne i (by omega) (by omega)))]
          exact ih (i + 1) (by omega) (by omega)
  exact key 9 0 rfl (by omega)
theorem Fam.run {T : Tb} {m p : Nat} {xs : List Nat} (h : Fam T m xs) (hp : p = 1 ∨ p ∈ xs) : T.runs p = true := by
  rcases hp with rfl | hp
  · exact Tb.runs_eq (by omega) (by omega) h.st1
  · have h1 := h.mem p hp
    have h8 := h.m8
    rcases h.lo p h1.1 h1.2 with ⟨h3, _⟩ | ⟨_, h3, _⟩
    · exact Tb.runs_eq (by omega) (by omega) h3
    · exact absurd hp h3
theorem Fam.fork {T : Tb} {m p : Nat} (h : Fam T m (seg 2 (m - 1))) (hm : m < 8) (hp : 1 ≤ p ∧ p ≤ m) : Fam (T.forkT p (m + 1)) (m + 1) (seg 2 m) := by
  obtain ⟨e1, e2, e3, e4, e5⟩ := forkT_flds T p (m + 1)
  have hst : ∀ q, (T.forkT p (m + 1)).st q = if q = m + 1 then 1 else T.st q := fun q => by rw [e1]; rfl
  have hpar : ∀ q, (T.forkT p (m + 1)).par q = if q = m + 1 then (p : Int) else T.par q := fun q => by rw [e2]; rfl
  have hm1 := h.m1
  refine ⟨h.inv.forkT (by omega) (by omega) (h.hi _ (by omega)), fun q f => ?_, by omega, by omega, ?_, fun q hq => ?_, fun q h1 h2 => ?_, ?_, fun q h1 h2 => ?_, fun q hq => ?_, seg_nodup _ _⟩
  · rw [e4]
    show (if q = m + 1 then T.fd _ f else T.fd q f) = 0
    split <;> exact h.nofd _ _
  · rw [hst, if_neg (by omega)]; exact h.st1
  · rw [hst, if_neg (by omega)]; exact h.hi q (by omega)
  · rw [hst]
    by_cases e : q = m + 1
    · rw [if_pos e]; exact .inl ⟨rfl, seg_mem.2 (by omega)⟩
    · rw [if_neg e]
      rcases h.lo q h1 (by omega) with ⟨h3, _⟩ | ⟨_, h3, _⟩
      · exact .inl ⟨h3, seg_mem.2 (by omega)⟩
      · exact absurd (seg_mem.2 (by omega)) h3
  · rw [hpar, if_neg (by omega)]; exact h.par1
  · rw [hpar]
    by_cases e : q = m + 1
    · rw [if_pos e]
      refine ⟨p, rfl, hp.1, by omega, ?_⟩
      rw [hst, if_neg (by omega)]
      by_cases e1 : p = 1
      · rw [e1]; exact h.st1
      · rcases h.lo p (by omega) hp.2 with ⟨h3, _⟩ | ⟨_, h3, _⟩
        · exact h3
        · exact absurd (seg_mem.2 (by omega)) h3
    · rw [if_neg e]
      obtain ⟨r, h3, h4, h5, h6⟩ := h.par q h1 (by omega)
      exact ⟨r, h3, h4, by omega, by rw [hst, if_neg (by omega)]; exact h6⟩
  · have := seg_mem.1 hq; omega
theorem exitT_flds {T : Tb} (I : Inv T) {x : Nat} (code : Int) (hx : x < 9) : (∀ q, (T.exitT x code).st q = if q = x then 2 else T.st q) ∧ (∀ q, (T.exitT x code).code q = if q = x then code else T.code q) ∧
    (∀ q, (T.exitT x code).par q = if q < 9 ∧ T.st q ≠ 0 ∧ T.par q = x then 1 else T.par q) ∧ ∀ q r, (T.exitT x code).fd q r = if q = x ∧ r < 8 then 0 else T.fd q r := by
  obtain ⟨h1, h2, h3, h4, h5⟩ := exitL_inv (p := ((x : Nat) : Int).toNat) (by omega) (T.fd ((x : Nat) : Int).toNat) 8 0 T [] I fun _ _ _ => rfl
  obtain ⟨r1, r2, r3, r4, r5, r6⟩ := reparent_flds x 9 0 (exitL ((x : Nat) : Int).toNat (T.fd ((x : Nat) : Int).toNat) 8 0 T []).1
  refine ⟨fun q => ?_, fun q => ?_, fun q => ?_, fun q r => ?_⟩
  · show (if q = ((x : Nat) : Int).toNat then 2 else (reparent x 9 0 (exitL ((x : Nat) : Int).toNat (T.fd ((x : Nat) : Int).toNat) 8 0 T []).1).st q) = _
    rw [r1, h2, Int.toNat_natCast]
  · show (if q = ((x : Nat) : Int).toNat then code else (reparent x 9 0 (exitL ((x : Nat) : Int).toNat (T.fd ((x : Nat) : Int).toNat) 8 0 T []).1).code q) = _
    rw [r2, h4, Int.toNat_natCast]
  · show (reparent x 9 0 (exitL ((x : Nat) : Int).toNat (T.fd ((x : Nat) : Int).toNat) 8 0 T []).1).par q = _
    rw [r6, h2, h3]
    by_cases c : q < 9 ∧ T.st q ≠ 0 ∧ T.par q = x
    · rw [if_pos c, if_pos ⟨by omega, c.2⟩]
    · rw [if_neg c, if_neg (fun h => c ⟨by omega, h.2⟩)]
  · show (reparent x 9 0 (exitL ((x : Nat) : Int).toNat (T.fd ((x : Nat) : Int).toNat) 8 0 T []).1).fd q r = _
    rw [r3, h5, Int.toNat_natCast]
    by_cases c : q = x ∧ r < 8
    · rw [if_pos c, if_pos (by omega)]
    · rw [if_neg c, if_neg (by omega)]
theorem Fam.exit {T : Tb} {m : Nat} {xs : List Nat} (h : Fam T m xs) {a : Nat} (ha : a < xs.length) : Fam (T.exitT xs[a] (100 + (xs[a] : Int))) m (xs.eraseIdx a) := by
  have hx := h.mem xs[a] (List.getElem_mem ha)
  have hm8 := h.m8
  obtain ⟨e1, e2, e3, e4⟩ := exitT_flds h.inv (x := xs[a]) (100 + (xs[a] : Int)) (by omega)
  have hmem : ∀ p, p ∈ xs.eraseIdx a ↔ p ≠ xs[a] ∧ p ∈ xs := fun p => by
    have hpw := List.pairwise_iff_getElem.1 h.nd
    rw [List.mem_eraseIdx_iff_getElem]
    constructor
    · rintro ⟨i, hi, hne, rfl⟩
      refine ⟨fun e => ?_, List.getElem_mem hi⟩
      rcases Nat.lt_or_gt_of_ne hne with hlt | hlt
      · exact hpw i a hi ha hlt e
      · exact hpw a i ha hi hlt e.symm
    · rintro ⟨hne, hp⟩
      obtain ⟨i, hi, rfl⟩ := List.getElem_of_mem hp
      exact ⟨i, hi, fun e => by subst e; exact hne rfl, rfl⟩
  refine ⟨h.inv.exitT _ (by omega) (by omega), fun q f => ?_, h.m1, h.m8, ?_, fun q hq => ?_, fun q h1 h2 => ?_, ?_, fun q h1 h2 => ?_, fun q hq => ?_, List.Nodup.eraseIdx _ h.nd⟩
  · rw [e4]; split
    · rfl
    · exact h.nofd _ _
  · rw [e1, if_neg (by omega)]; exact h.st1
  · rw [e1, if_neg (by omega)]; exact h.hi q hq
  · rw [e1, e2, hmem]
    by_cases e : q = xs[a]
    · rw [if_pos e, if_pos e]; exact .inr ⟨rfl, fun c => c.1 e, by rw [e]⟩
    · rw [if_neg e, if_neg e]
      rcases h.lo q h1 h2 with ⟨h3, h4⟩ | ⟨h3, h4, h5⟩
      · exact .inl ⟨h3, e, h4⟩
      · exact .inr ⟨h3, fun c => h4 c.2, h5⟩
  · rw [e3, h.par1, if_neg (by omega)]
  · rw [e3]
    by_cases c : q < 9 ∧ T.st q ≠ 0 ∧ T.par q = xs[a]
    · rw [if_pos c]; exact ⟨1, rfl, by omega, h.m1, by rw [e1, if_neg (by omega)]; exact h.st1⟩
    · rw [if_neg c]
      obtain ⟨r, h3, h4, h5, h6⟩ := h.par q h1 h2
      refine ⟨r, h3, h4, h5, ?_⟩
      rw [e1, if_neg]
      · exact h6
      · intro er
        refine c ⟨by omega, ?_, by rw [h3, er]⟩
        rcases h.lo q h1 h2 with ⟨h7, _⟩ | ⟨h7, _⟩ <;> omega
  · exact h.mem q ((hmem q).1 hq).2
/-- all have ended, and so many are waited for -/
structure Wt (T : Tb) (m i : Nat) : Prop where
  m8 : m ≤ 8
  st1 : T.st 1 = 1
  par1 : T.par 1 = 0
  s0 : T.st 0 = 0
  hi : ∀ p, m < p → T.st p = 0
  gone : ∀ p, 2 ≤ p → p ≤ i → T.st p = 0
  wait : ∀ p, i < p → 2 ≤ p → p ≤ m → T.st p = 2 ∧ T.par p = 1 ∧ T.code p = 100 + (p : Int)
theorem Fam.wt {T : Tb} {m : Nat} (h : Fam T m []) : Wt T m 1 := by
  have hl : ∀ p, 2 ≤ p → p ≤ m → T.st p = 2 ∧ T.code p = 100 + (p : Int) := fun p h1 h2 => by
    rcases h.lo p h1 h2 with ⟨_, h4⟩ | ⟨h3, _, h5⟩
    · cases h4
    · exact ⟨h3, h5⟩
  refine ⟨h.m8, h.st1, h.par1, h.inv.s0, h.hi, fun p h1 h2 => by omega, fun p _ h1 h2 => ⟨(hl p h1 h2).1, ?_, (hl p h1 h2).2⟩⟩
  obtain ⟨q, h3, h4, h5, h6⟩ := h.par p h1 h2
  by_cases e : q = 1
  · rw [h3, e]; rfl
  · have := hl q (by omega) h5; omega
theorem ripe_some (T : Tb) (pid : Int) (q : Nat) (hq : T.st q = 2 ∧ T.par q = pid) : ∀ (d i : Nat), i ≤ q → q < i + d → (∀ k, i ≤ k → k < q → T.st k = 0 ∨ T.par k ≠ pid ∨ T.st k ≠ 2) → T.ripe pid d i = some q
  | 0, i, h1, h2, _ => by omega
  | d + 1, i, h1, h2, h => by
    rw [Tb.ripe]
    by_cases e : i = q
    · rw [e, if_neg (by rw [hq.1, hq.2]; simp), if_pos hq.1]
    · have ih := ripe_some T pid q hq d (i + 1) (by omega) (by omega) fun k a b => h k (by omega) b
      by_cases c : T.st i = 0 ∨ T.par i ≠ pid
      · rw [if_pos c]; exact ih
      · rw [if_neg c, if_neg]
        · exact ih
        · rcases h i (Nat.le_refl _) (by omega) with h3 | h3 | h3
          · exact absurd (.inl h3) c
          · exact absurd (.inr h3) c
          · exact h3
theorem ripe_none (T : Tb) (pid : Int) : ∀ (d i : Nat), (∀ k, i ≤ k → k < i + d → T.st k = 0 ∨ T.par k ≠ pid) → T.ripe pid d i = none ∧ ∀ q, T.kid pid d i q = q
  | 0, i, _ => ⟨rfl, fun _ => rfl⟩
  | d + 1, i, h => by
    have c := h i (Nat.le_refl _) (by omega)
    obtain ⟨h1, h2⟩ := ripe_none T pid d (i + 1) fun k a b => h k (by omega) (by omega)
    refine ⟨by rw [Tb.ripe, if_pos c]; exact h1, fun q => by rw [Tb.kid, if_pos c]; exact h2 q⟩
theorem Wt.ripe {T : Tb} {m i : Nat} (h : Wt T m i) (h1 : 1 ≤ i) (hi : i < m) : T.ripe 1 9 0 = some (i + 1) := by
  have hw := h.wait (i + 1) (by omega) (by omega) (by omega)
  have h8 := h.m8
  refine ripe_some T 1 (i + 1) ⟨hw.1, hw.2.1⟩ 9 0 (by omega) (by omega) fun k _ hk => ?_
  by_cases e0 : k = 0
  · exact .inl (by rw [e0]; exact h.s0)
  · by_cases e1 : k = 1
    · exact .inr (.inl (by rw [e1, h.par1]; omega))
    · exact .inl (h.gone k (by omega) (by omega))
theorem Wt.code {T : Tb} {m i : Nat} (h : Wt T m i) (h1 : 1 ≤ i) (hi : i < m) : T.code (i + 1) = 100 + ((i + 1 : Nat) : Int) := (h.wait (i + 1) (by omega) (by omega) (by omega)).2.2
theorem Wt.last {T : Tb} {m : Nat} (h : Wt T m m) : T.ripe 1 9 0 = none ∧ T.kid 1 9 0 false = false := by
  have := ripe_none T 1 9 0 fun k _ hk => by
    by_cases e0 : k = 0
    · exact .inl (by rw [e0]; exact h.s0)
    · by_cases e1 : k = 1
      · exact .inr (by rw [e1, h.par1]; omega)
      · by_cases hm : k ≤ m
        · exact .inl (h.gone k (by omega) hm)
        · exact .inl (h.hi k (by omega))
  exact ⟨this.1, this.2 false⟩
theorem Wt.step {T : Tb} {m i : Nat} (h : Wt T m i) (h1 : 1 ≤ i) (hi : i < m) : Wt (T.waitT (i + 1)) m (i + 1) := by
  have hst : ∀ q, (T.waitT (i + 1)).st q = if q = i + 1 then 0 else T.st q := fun q => rfl
  have hpar : ∀ q, (T.waitT (i + 1)).par q = if q = i + 1 then 0 else T.par q := fun q => rfl
  have hcode : ∀ q, (T.waitT (i + 1)).code q = if q = i + 1 then 0 else T.code q := fun q => rfl
  refine ⟨h.m8, by rw [hst, if_neg (by omega)]; exact h.st1, by rw [hpar, if_neg (by omega)]; exact h.par1, by rw [hst, if_neg (by omega)]; exact h.s0, fun p hp => by rw [hst, if_neg (by omega)]; exact h.hi p hp, fun p a b => ?_, fun p a b c => ?_⟩
  · rw [hst]; split
    · rfl
    · exact h.gone p a (by omega)
  · rw [hst, hpar, hcode, if_neg (by omega), if_neg (by omega), if_neg (by omega)]; exact h.wait p (by omega) b c
/-- numbers, as cells -/
def nums (xs : List Nat) : List Value := xs.map fun p : Nat => .int .i64 (p : Int)
theorem nums_len (xs : List Nat) : (nums xs).length = xs.length * 1 := by simp [nums]
theorem nums_get {xs : List Nat} {i : Nat} (h : i < xs.length) : (nums xs)[i]? = some (.int .i64 (xs[i] : Int)) := by simp [nums, h]
theorem nums_snoc (xs : List Nat) (p : Nat) : nums (xs ++ [p]) = nums xs ++ [.int .i64 (p : Int)] := by simp [nums]
theorem nums_one (xs : List Nat) : (nums xs).all one = true := by simp [nums, one]
end Go.Proofs.Ytimaipclgmcekaa
