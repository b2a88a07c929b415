/- An open file is there as long as it is somebody's descriptor: the plain law. -/
import Derived.Test.YtimaipclgmcekaaProcU
namespace Go.Proofs.Ytimaipclgmcekaa
open Go.Cam
set_option maxRecDepth 100000
def fileX (k : Nat) : Opn := ⟨1, ByteArray.empty, k, 0, 0, 0, false⟩
theorem fileX_inj {k q : Nat} (h : fileX k = fileX q) : k = q := by
  have : (fileX k).ino = (fileX q).ino := by rw [h]
  simp [fileX] at this; omega
/-- of the files that were opened just those that 'inn' tells are there; c: how many were asked for -/
structure Fil (T : Tb) (inn : Nat → Bool) (c : Nat) : Prop where
  inv : Inv T
  file : ∀ n, T.us n > 0 → ∃ k, T.op n = fileX k ∧ inn k = true
  uniq : ∀ n q, T.us n > 0 → T.us q > 0 → T.op n = T.op q → n = q
  has : ∀ k, inn k = true → ∃ n, n < 16 ∧ T.us n > 0 ∧ T.op n = fileX k
  lim : ∀ k, inn k = true → k < c
theorem Inv.us16 {T : Tb} (I : Inv T) {n : Nat} (h : T.us n > 0) : n < 16 := by
  rcases Nat.lt_or_ge n 16 with h1 | h1
  · exact h1
  · exfalso
    rw [I.us n] at h
    have : cnt T n = 0 := sumN_zero fun p _ => sumN_zero fun f _ => by
      have := I.fd p f
      unfold hit; rw [if_neg (by omega)]
    omega
theorem Fil.start : Fil S0 (fun _ => false) 0 := by
  refine ⟨I0, fun n h => ?_, fun n q h => ?_, fun k h => (nomatch h), fun k h => (nomatch h)⟩
  · exact absurd h (by show ¬ ((0 : Int) > 0); omega)
  · exact absurd h (by show ¬ ((0 : Int) > 0); omega)
theorem Fil.mono {T : Tb} {inn : Nat → Bool} {c d : Nat} (h : Fil T inn c) (hc : c ≤ d) : Fil T inn d := ⟨h.inv, h.file, h.uniq, h.has, fun k hk => by have := h.lim k hk; omega⟩
/-- what leaves open files and their users' being as they are -/
theorem Fil.same {T T' : Tb} {inn : Nat → Bool} {c : Nat} (h : Fil T inn c) (I : Inv T') (ho : T'.op = T.op) (hu : ∀ n, T'.us n > 0 ↔ T.us n > 0) : Fil T' inn c := by
  refine ⟨I, fun n hn => ?_, fun n q hn hq he => ?_, fun k hk => ?_, h.lim⟩
  · rw [ho]; exact h.file n ((hu n).1 hn)
  · rw [ho] at he; exact h.uniq n q ((hu n).1 hn) ((hu q).1 hq) he
  · obtain ⟨n, h1, h2, h3⟩ := h.has k hk
    exact ⟨n, h1, (hu n).2 h2, by rw [ho]; exact h3⟩
theorem row_pos_us {T : Tb} (I : Inv T) {p n : Nat} (hp : p < 9) (h : row (T.fd p) n > 0) : T.us n > 0 := by
  rw [I.us n]
  have := sumN_ge (g := fun p => row (T.fd p) n) (n := 9) hp fun p _ => (row_bd _ _).1
  unfold cnt; omega
theorem Fil.fork {T : Tb} {inn : Nat → Bool} {c : Nat} (h : Fil T inn c) {pid : Int} {i : Nat} (hp : pid.toNat < 9) (hi : i < 9) (h1 : 1 ≤ i) (h0 : T.st i = 0) : Fil (T.forkT pid i) inn c := by
  refine h.same (h.inv.forkT hi h1 h0) (forkT_flds T pid i).2.2.2.2 fun n => ?_
  rw [forkT_us h.inv]
  have := row_bd (T.fd pid.toNat) n
  have := h.inv.us0 n
  constructor
  · intro hh
    by_cases hr : row (T.fd pid.toNat) n > 0
    · exact row_pos_us h.inv hp hr
    · omega
  · intro hh; omega
theorem Fil.dup {T : Tb} {inn : Nat → Bool} {c : Nat} (h : Fil T inn c) {p f n : Nat} (hp : p < 9) (hf : f < 8) (h16 : n < 16) (h0 : T.fd p f = 0) (hr : T.st p = 1) (hn : T.us n > 0) : Fil (T.dupT p f n) inn c := by
  refine h.same (h.inv.dupT hp hf h16 h0 hr) rfl fun m => ?_
  show (if m = n then T.us n + 1 else T.us m) > 0 ↔ _
  by_cases e : m = n
  · subst e; rw [if_pos rfl]; omega
  · rw [if_neg e]
theorem Fil.opn {T : Tb} {inn : Nat → Bool} {c : Nat} (h : Fil T inn c) {pid : Int} {f i : Nat} (hp : pid.toNat < 9) (hf : f < 8) (h16 : i < 16) (h0 : T.fd pid.toNat f = 0) (hr : T.st pid.toNat = 1) (hi : T.us i = 0) :
    Fil (T.openT pid (fileX c) f i) (fun k => if k = c then true else inn k) (c + 1) := by
  have hus : ∀ m, (T.openT pid (fileX c) f i).us m = if m = i then 1 else T.us m := fun m => rfl
  have hop : ∀ m, (T.openT pid (fileX c) f i).op m = if m = i then fileX c else T.op m := fun m => rfl
  have hfresh : ∀ n, T.us n > 0 → T.op n ≠ fileX c := fun n hn e => by
    obtain ⟨k, h1, h2⟩ := h.file n hn
    have := h.lim k h2
    have := fileX_inj (h1.symm.trans e); omega
  refine ⟨h.inv.openT _ hp hf h16 h0 hr hi, fun n hn => ?_, fun n q hn hq he => ?_, fun k hk => ?_, fun k hk => ?_⟩
  · rw [hus] at hn; rw [hop]
    by_cases e : n = i
    · rw [if_pos e]; exact ⟨c, rfl, if_pos rfl⟩
    · rw [if_neg e] at hn ⊢
      obtain ⟨k, h1, h2⟩ := h.file n hn
      exact ⟨k, h1, by by_cases e3 : k = c <;> simp [e3, h2]⟩
  · rw [hus] at hn hq; rw [hop, hop] at he
    by_cases e : n = i
    · by_cases e2 : q = i
      · rw [e, e2]
      · rw [if_pos e, if_neg e2] at he; rw [if_neg e2] at hq
        exact absurd he.symm (hfresh q hq)
    · by_cases e2 : q = i
      · rw [if_neg e, if_pos e2] at he; rw [if_neg e] at hn
        exact absurd he (hfresh n hn)
      · rw [if_neg e, if_neg e2] at he; rw [if_neg e] at hn; rw [if_neg e2] at hq
        exact h.uniq n q hn hq he
  · by_cases e : k = c
    · refine ⟨i, h16, by rw [hus, if_pos rfl]; omega, by rw [hop, if_pos rfl, e]⟩
    · rw [if_neg e] at hk
      obtain ⟨n, h1, h2, h3⟩ := h.has k hk
      have hne : n ≠ i := fun e => by rw [e, hi] at h2; omega
      exact ⟨n, h1, by rw [hus, if_neg hne]; exact h2, by rw [hop, if_neg hne]; exact h3⟩
  · by_cases e : k = c
    · omega
    · rw [if_neg e] at hk; have := h.lim k hk; omega
def out (inn : Nat → Bool) (k : Nat) : Nat → Bool := fun q => if q = k then false else inn q
/-- a descriptor goes: its file stays, or goes with it -/
theorem Fil.letT {T : Tb} {inn : Nat → Bool} {c : Nat} (h : Fil T inn c) {p f n : Nat} (hp : p < 9) (hn : T.fd p f = (n : Int) + 1) :
    ∃ k, T.op n = fileX k ∧ inn k = true ∧ (T.us n - 1 > 0 → Fil (T.letT p f n) inn c) ∧ (¬ T.us n - 1 > 0 → Fil (T.letT p f n) (out inn k) c) := by
  have hu := h.inv.used hp hn
  obtain ⟨k, hk1, hk2⟩ := h.file n (by omega)
  have hI := h.inv.letT hp hn
  have hus := letT_us' T p f n hu
  have hop := letT_op T p f n
  refine ⟨k, hk1, hk2, fun hgt => ?_, fun hle => ?_⟩
  · refine h.same hI (funext fun m => by rw [hop, if_neg (fun e => e.2 hgt)]) fun m => ?_
    rw [hus]
    by_cases e : m = n
    · rw [if_pos e, e]; omega
    · rw [if_neg e]
  · refine ⟨hI, fun m hm => ?_, fun m q hm hq he => ?_, fun q hq => ?_, fun q hq => ?_⟩
    · rw [hus] at hm
      by_cases e : m = n
      · rw [if_pos e] at hm; omega
      · rw [if_neg e] at hm
        obtain ⟨q, h1, h2⟩ := h.file m hm
        refine ⟨q, by rw [hop, if_neg (fun c => e c.1)]; exact h1, ?_⟩
        have hqk : q ≠ k := fun e2 => e (h.uniq m n hm (by omega) (by rw [h1, hk1, e2]))
        unfold out; rw [if_neg hqk]; exact h2
    · rw [hus] at hm hq
      have e1 : m ≠ n := fun e => by rw [if_pos e] at hm; omega
      have e2 : q ≠ n := fun e => by rw [if_pos e] at hq; omega
      rw [if_neg e1] at hm; rw [if_neg e2] at hq
      rw [hop, hop, if_neg (fun c => e1 c.1), if_neg (fun c => e2 c.1)] at he
      exact h.uniq m q hm hq he
    · unfold out at hq
      by_cases e : q = k
      · rw [if_pos e] at hq; cases hq
      · rw [if_neg e] at hq
        obtain ⟨m, h1, h2, h3⟩ := h.has q hq
        have hmn : m ≠ n := fun e2 => e (fileX_inj (by rw [← h3, e2, hk1]))
        exact ⟨m, h1, by rw [hus, if_neg hmn]; exact h2, by rw [hop, if_neg (fun c => hmn c.1)]; exact h3⟩
    · unfold out at hq
      by_cases e : q = k
      · rw [if_pos e] at hq; cases hq
      · rw [if_neg e] at hq; exact h.lim q hq
/-- the files of a row go, one behind the other -/
inductive Gone : (Nat → Bool) → List Opn → (Nat → Bool) → Prop
  | nil {inn} : Gone inn [] inn
  | cons {inn inn2 xs} (k : Nat) : inn k = true → Gone (out inn k) xs inn2 → Gone inn (fileX k :: xs) inn2
theorem Gone.snoc {inn inn1 : Nat → Bool} {xs : List Opn} (h : Gone inn xs inn1) {k : Nat} (hk : inn1 k = true) : Gone inn (xs ++ [fileX k]) (out inn1 k) := by
  induction h with
  | nil => exact .cons k hk .nil
  | cons q hq _ ih => exact .cons q hq (ih hk)
theorem exitL_fil {p : Nat} (hp : p < 9) (g : Nat → Int) {inn : Nat → Bool} {c : Nat} : ∀ (d f : Nat) (T : Tb) (xs : List Opn) (inn1 : Nat → Bool), Fil T inn1 c → Gone inn xs inn1 → (∀ q, f ≤ q → q < f + d → T.fd p q = g q) →
    ∃ inn2, Fil (exitL p g d f T xs).1 inn2 c ∧ Gone inn (exitL p g d f T xs).2 inn2
  | 0, f, T, xs, inn1, h, hg, _ => ⟨inn1, h, hg⟩
  | d + 1, f, T, xs, inn1, h, hg, e => by
    rw [exitL]
    by_cases hz : g f = 0
    · rw [if_pos hz]
      exact exitL_fil hp g d (f + 1) T xs inn1 h hg fun q a b => e q (by omega) (by omega)
    · rw [if_neg hz]
      have hgf := e f (Nat.le_refl _) (by omega)
      have hb := h.inv.fd p f
      have hn : T.fd p f = (((g f - 1).toNat : Nat) : Int) + 1 := by omega
      obtain ⟨k, h1, h2, h3, h4⟩ := h.letT hp hn
      have hfd := (letT_flds T p f (g f - 1).toNat).2.2.2
      have e' : ∀ q, f + 1 ≤ q → q < f + 1 + d → (T.letT p f (g f - 1).toNat).fd p q = g q := fun q a b => by
        rw [hfd]; simp only [Tb.setFd]; rw [if_neg (by omega)]; exact e q (by omega) (by omega)
      by_cases hgt : T.us (g f - 1).toNat - 1 > 0
      · rw [if_pos hgt]
        exact exitL_fil hp g d (f + 1) _ xs inn1 (h3 hgt) hg e'
      · rw [if_neg hgt, h1]
        exact exitL_fil hp g d (f + 1) _ _ (out inn1 k) (h4 hgt) (hg.snoc h2) e'
theorem Fil.exit {T : Tb} {inn : Nat → Bool} {c : Nat} (h : Fil T inn c) {pid : Int} (code : Int) (hp : 1 ≤ pid) (hp9 : pid < 9) : ∃ inn2, Fil (T.exitT pid code) inn2 c ∧ Gone inn (T.gone pid) inn2 := by
  obtain ⟨inn2, h1, h2⟩ := exitL_fil (p := pid.toNat) (by omega) (T.fd pid.toNat) 8 0 T [] inn h .nil fun _ _ _ => rfl
  obtain ⟨_, _, _, r4, r5, _⟩ := reparent_flds pid 9 0 (exitL pid.toNat (T.fd pid.toNat) 8 0 T []).1
  refine ⟨inn2, h1.same (h.inv.exitT code hp hp9) r4 fun n => ?_, h2⟩
  show (reparent pid 9 0 (exitL pid.toNat (T.fd pid.toNat) 8 0 T []).1).us n > 0 ↔ _
  rw [r5]
theorem holds_one (T : Tb) (x : Opn) (q : Nat) (hq : T.hold x q = true) : ∀ (d i : Nat), i ≤ q → q < i + d → (∀ m, T.hold x m = true → m = q) → T.holds x d i 0 = 1
  | 0, i, h1, h2, _ => by omega
  | d + 1, i, h1, h2, h => by
    rw [Tb.holds]
    by_cases e : i = q
    · rw [e, hq, if_pos rfl, holds_none]
      intro m a b
      cases hm : T.hold x m with
      | false => rfl
      | true => have := h m hm; omega
    · have hn : T.hold x i = false := by
        cases hm : T.hold x i with
        | false => rfl
        | true => exact absurd (h i hm) e
      rw [hn, if_neg (by simp)]
      exact holds_one T x q hq d (i + 1) (by omega) (by omega) h
theorem Fil.hold {T : Tb} {inn : Nat → Bool} {c : Nat} (h : Fil T inn c) (k n : Nat) : T.hold (fileX k) n = true ↔ T.us n > 0 ∧ T.op n = fileX k := by
  unfold Tb.hold
  rw [Bool.and_eq_true, decide_eq_true_eq]
  constructor
  · rintro ⟨h1, h2⟩
    obtain ⟨q, h3, _⟩ := h.file n h1
    rw [h3] at h2 ⊢
    simp only [Opn.same, fileX, decide_eq_true_eq] at h2
    have : q = k := by omega
    exact ⟨h1, by rw [this]⟩
  · rintro ⟨h1, h2⟩
    rw [h2]
    exact ⟨h1, same_refl _⟩
theorem Fil.holds {T : Tb} {inn : Nat → Bool} {c : Nat} (h : Fil T inn c) (k : Nat) : T.holds (fileX k) 16 0 0 = if inn k then 1 else 0 := by
  cases hk : inn k with
  | true =>
    obtain ⟨n, h1, h2, h3⟩ := h.has k hk
    rw [if_pos rfl]
    exact holds_one T _ n ((h.hold k n).2 ⟨h2, h3⟩) 16 0 (by omega) (by omega) fun m hm => by
      obtain ⟨a, b⟩ := (h.hold k m).1 hm
      exact h.uniq m n a h2 (b.trans h3.symm)
  | false =>
    rw [if_neg (by simp)]
    refine holds_none _ _ 16 0 0 fun m _ _ => ?_
    cases hm : T.hold (fileX k) m with
    | false => rfl
    | true =>
      obtain ⟨a, b⟩ := (h.hold k m).1 hm
      obtain ⟨q, h1, h2⟩ := h.file m a
      have := fileX_inj (h1.symm.trans b)
      rw [this, hk] at h2; cases h2
end Go.Proofs.Ytimaipclgmcekaa
