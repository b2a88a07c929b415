/- The plain law of the table: each open file's users are its descriptors. -/
import Derived.Test.YtimaipclgmcekaaProcH
namespace Go.Proofs.Ytimaipclgmcekaa
open Go.Cam
def sumN (g : Nat → Int) : Nat → Int
  | 0 => 0
  | n + 1 => sumN g n + g n
theorem sumN_congr {g h : Nat → Int} : ∀ {n : Nat}, (∀ i, i < n → g i = h i) → sumN g n = sumN h n
  | 0, _ => rfl
  | n + 1, e => by rw [sumN, sumN, sumN_congr fun i hi => e i (by omega), e n (by omega)]
theorem sumN_upd {g h : Nat → Int} {i : Nat} : ∀ {n : Nat}, i < n → (∀ j, j < n → j ≠ i → h j = g j) → sumN h n = sumN g n - g i + h i
  | n + 1, hi, e => by
    rw [sumN, sumN]
    by_cases c : i = n
    · subst c
      rw [sumN_congr fun j hj => e j (by omega) (by omega)]; omega
    · rw [sumN_upd (by omega) fun j hj => e j (by omega), e n (by omega) (Ne.symm c)]; omega
theorem sumN_bd {g : Nat → Int} {c : Int} : ∀ {n : Nat}, (∀ i, i < n → 0 ≤ g i ∧ g i ≤ c) → 0 ≤ sumN g n ∧ sumN g n ≤ n * c
  | 0, _ => by simp [sumN]
  | n + 1, e => by
    have h1 := sumN_bd (n := n) fun i hi => e i (by omega)
    have h2 := e n (by omega)
    have h3 : ((n + 1 : Nat) : Int) * c = n * c + c := by rw [Int.natCast_add, Int.add_mul]; simp
    rw [sumN, h3]; omega
theorem sumN_ge {g : Nat → Int} {i : Nat} : ∀ {n : Nat}, i < n → (∀ i, i < n → 0 ≤ g i) → g i ≤ sumN g n
  | n + 1, hi, e => by
    rw [sumN]
    have h2 := e n (by omega)
    by_cases c : i = n
    · subst c
      have key : ∀ (m : Nat), m ≤ i → 0 ≤ sumN g m := by
        intro m
        induction m with
        | zero => intro _; simp [sumN]
        | succ m ih => intro hm; rw [sumN]; have h3 := e m (by omega); have h4 := ih (by omega); omega
      have h5 := key i (Nat.le_refl i); omega
    · have := sumN_ge (i := i) (n := n) (by omega) fun i hi => e i (by omega); omega
theorem sumN_zero {g : Nat → Int} {n : Nat} (h : ∀ i, i < n → g i = 0) : sumN g n = 0 := by
  rw [sumN_congr (h := fun _ => 0) h]
  induction n with
  | zero => rfl
  | succ n ih => rw [sumN, ih fun i hi => h i (by omega)]; rfl
def hit (v : Int) (m : Nat) : Int := if v = (m : Int) + 1 then 1 else 0
theorem hit_bd (v : Int) (m : Nat) : 0 ≤ hit v m ∧ hit v m ≤ 1 := by unfold hit; split <;> omega
theorem hit_zero (m : Nat) : hit 0 m = 0 := by unfold hit; split <;> omega
def row (g : Nat → Int) (m : Nat) : Int := sumN (fun f => hit (g f) m) 8
def cnt (T : Tb) (m : Nat) : Int := sumN (fun p => row (T.fd p) m) 9
theorem row_bd (g : Nat → Int) (m : Nat) : 0 ≤ row g m ∧ row g m ≤ 8 := by
  have := sumN_bd (g := fun f => hit (g f) m) (c := 1) (n := 8) fun f _ => hit_bd _ _
  exact this
theorem row_zero (m : Nat) {g : Nat → Int} (h : ∀ f, f < 8 → g f = 0) : row g m = 0 := sumN_zero fun f hf => by rw [h f hf, hit_zero]
theorem row_ge (g : Nat → Int) {f m : Nat} (hf : f < 8) (h : g f = (m : Int) + 1) : 1 ≤ row g m := by
  have := sumN_ge (g := fun f => hit (g f) m) (n := 8) hf fun f _ => (hit_bd _ _).1
  have h2 : hit (g f) m = 1 := by unfold hit; rw [if_pos h]
  unfold row; omega
theorem cnt_bd (T : Tb) (m : Nat) : 0 ≤ cnt T m ∧ cnt T m ≤ 72 := by
  have := sumN_bd (g := fun p => row (T.fd p) m) (c := 8) (n := 9) fun p _ => row_bd _ _
  exact this
theorem cnt_ge (T : Tb) {p f m : Nat} (hp : p < 9) (hf : f < 8) (h : T.fd p f = (m : Int) + 1) : 1 ≤ cnt T m := by
  have := sumN_ge (g := fun p => row (T.fd p) m) (n := 9) hp fun p _ => (row_bd _ _).1
  have h2 := row_ge (T.fd p) hf h
  unfold cnt; omega
theorem cnt_fds (T : Tb) {i : Nat} (hi : i < 9) (g : Nat → Int) (m : Nat) : cnt (T.setFds i g) m = cnt T m - row (T.fd i) m + row g m := by
  unfold cnt
  rw [sumN_upd (g := fun p => row (T.fd p) m) hi fun j _ hj => by
    have : (T.setFds i g).fd j = T.fd j := by funext f; simp [Tb.setFds, hj]
    rw [this]]
  have : (T.setFds i g).fd i = g := by funext f; simp [Tb.setFds]
  rw [this]
theorem cnt_fd (T : Tb) {p f : Nat} (hp : p < 9) (hf : f < 8) (v : Int) (m : Nat) : cnt (T.setFd p f v) m = cnt T m - hit (T.fd p f) m + hit v m := by
  unfold cnt
  rw [sumN_upd (g := fun p => row (T.fd p) m) hp fun j _ hj => by
    have : (T.setFd p f v).fd j = T.fd j := by funext f'; simp [Tb.setFd, hj]
    rw [this]]
  have h2 : row ((T.setFd p f v).fd p) m = row (T.fd p) m - hit (T.fd p f) m + hit v m := by
    unfold row
    rw [sumN_upd (g := fun f => hit (T.fd p f) m) hf fun j _ hj => by simp [Tb.setFd, hj]]
    simp [Tb.setFd]
  rw [h2]; omega
structure Inv (T : Tb) : Prop where
  fd : ∀ p f, 0 ≤ T.fd p f ∧ T.fd p f ≤ 16
  us : ∀ m, T.us m = cnt T m
  z : ∀ p, T.st p ≠ 1 → ∀ f, T.fd p f = 0
  f8 : ∀ p f, 8 ≤ f → T.fd p f = 0
  s0 : T.st 0 = 0
  op : ∀ m, T.us m = 0 → T.op m = Opn.zero
theorem Inv.us0 {T : Tb} (I : Inv T) (m : Nat) : 0 ≤ T.us m ∧ T.us m ≤ 72 := by rw [I.us m]; exact cnt_bd T m
theorem Inv.bd {T : Tb} (I : Inv T) : T.Bd := ⟨I.fd, fun n => by have := I.us0 n; omega⟩
theorem Inv.start : Inv (Tb.zero.setSt 1 1) := by
  refine ⟨fun p f => by simp [Tb.setSt, Tb.zero], fun m => ?_, fun _ _ _ => rfl, fun _ _ _ => rfl, rfl, fun _ _ => rfl⟩
  exact (sumN_zero fun p _ => row_zero m fun _ _ => rfl).symm
theorem Inv.run8 {T : Tb} (I : Inv T) {p f : Nat} (h : T.fd p f ≠ 0) : f < 8 ∧ T.st p = 1 := by
  constructor
  · rcases Nat.lt_or_ge f 8 with h1 | h1
    · exact h1
    · exact absurd (I.f8 p f h1) h
  · by_cases h1 : T.st p = 1
    · exact h1
    · exact absurd (I.z p h1 f) h
theorem Inv.used {T : Tb} (I : Inv T) {p f n : Nat} (hp : p < 9) (hn : T.fd p f = (n : Int) + 1) : 1 ≤ T.us n := by
  have h8 := (I.run8 (p := p) (f := f) (by omega)).1
  rw [I.us n]; exact cnt_ge T hp h8 hn
theorem letT_flds (T : Tb) (p f n : Nat) : (T.letT p f n).st = T.st ∧ (T.letT p f n).par = T.par ∧ (T.letT p f n).code = T.code ∧ (T.letT p f n).fd = (T.setFd p f 0).fd := by
  unfold Tb.letT; split <;> exact ⟨rfl, rfl, rfl, rfl⟩
theorem letT_us' (T : Tb) (p f n : Nat) (h : 1 ≤ T.us n) (m : Nat) : (T.letT p f n).us m = if m = n then T.us n - 1 else T.us m := by
  unfold Tb.letT
  split
  · rfl
  · by_cases e : m = n
    · subst e
      have : T.us m = 1 := by omega
      simp [Tb.setUs, Tb.setOp, Tb.setFd, this]
    · simp [Tb.setUs, Tb.setOp, Tb.setFd, e]
theorem letT_op (T : Tb) (p f n m : Nat) : (T.letT p f n).op m = if m = n ∧ ¬ T.us n - 1 > 0 then Opn.zero else T.op m := by
  unfold Tb.letT
  by_cases h : T.us n - 1 > 0
  · rw [if_pos h, if_neg (fun c => c.2 h)]; rfl
  · rw [if_neg h]
    by_cases e : m = n
    · rw [if_pos ⟨e, h⟩]; simp [Tb.setUs, Tb.setOp, e]
    · rw [if_neg (fun c => e c.1)]; simp [Tb.setUs, Tb.setOp, Tb.setFd, e]
theorem Inv.letT {T : Tb} (I : Inv T) {p f n : Nat} (hp : p < 9) (hn : T.fd p f = (n : Int) + 1) : Inv (T.letT p f n) := by
  have hu := I.used hp hn
  obtain ⟨h1, h2, h3, h4⟩ := letT_flds T p f n
  have hf := (I.run8 (p := p) (f := f) (by omega)).1
  refine ⟨fun q g => ?_, fun m => ?_, fun q hq g => ?_, fun q g hg => ?_, ?_, fun m hm => ?_⟩
  · rw [h4]; have := I.fd q g; simp only [Tb.setFd]; split <;> omega
  · rw [letT_us' T p f n hu]
    have hc : cnt (T.letT p f n) m = cnt (T.setFd p f 0) m := by unfold cnt; rw [h4]
    rw [hc, cnt_fd T hp hf, hn, hit_zero, ← I.us m]
    unfold hit
    by_cases e : m = n
    · subst e; rw [if_pos rfl, if_pos rfl]; omega
    · rw [if_neg e, if_neg (by omega)]; omega
  · rw [h1] at hq; rw [h4]; have := I.z q hq g; simp only [Tb.setFd]; split <;> omega
  · rw [h4]; have := I.f8 q g hg; simp only [Tb.setFd]; split <;> omega
  · rw [h1]; exact I.s0
  · rw [letT_us' T p f n hu] at hm
    rw [letT_op]
    by_cases e : m = n
    · rw [if_pos e] at hm; rw [if_pos ⟨e, by omega⟩]
    · rw [if_neg e] at hm; rw [if_neg (fun c => e c.1)]; exact I.op m hm
theorem Inv.dupT {T : Tb} (I : Inv T) {p f n : Nat} (hp : p < 9) (hf : f < 8) (h16 : n < 16) (h0 : T.fd p f = 0) (hr : T.st p = 1) : Inv (T.dupT p f n) := by
  have hu := I.us0 n
  refine ⟨fun q g => ?_, fun m => ?_, fun q hq g => ?_, fun q g hg => ?_, I.s0, fun m hm => ?_⟩
  · have := I.fd q g; simp only [Tb.dupT, Tb.setUs, Tb.setFd]; split <;> omega
  · have hc : cnt (T.dupT p f n) m = cnt (T.setFd p f ((n : Int) + 1)) m := rfl
    rw [hc, cnt_fd T hp hf, h0, hit_zero, ← I.us m]
    unfold hit
    simp only [Tb.dupT, Tb.setUs]
    by_cases e : m = n
    · subst e; rw [if_pos rfl, if_pos rfl]; omega
    · rw [if_neg e, if_neg (by omega)]; simp [Tb.setFd]
  · have h5 : T.st q ≠ 1 := hq
    have := I.z q hq g; simp only [Tb.dupT, Tb.setUs, Tb.setFd]
    rw [if_neg (fun c => by rw [c.1] at h5; exact h5 hr)]; exact this
  · have := I.f8 q g hg; simp only [Tb.dupT, Tb.setUs, Tb.setFd]; rw [if_neg (by omega)]; exact this
  · simp only [Tb.dupT, Tb.setUs] at hm ⊢
    by_cases e : m = n
    · rw [if_pos e] at hm; omega
    · rw [if_neg e] at hm; exact I.op m hm
theorem Inv.openT {T : Tb} (I : Inv T) {pid : Int} (x : Opn) {f i : Nat} (hp : pid.toNat < 9) (hf : f < 8) (h16 : i < 16) (h0 : T.fd pid.toNat f = 0) (hr : T.st pid.toNat = 1) (hi : T.us i = 0) : Inv (T.openT pid x f i) := by
  refine ⟨fun q g => ?_, fun m => ?_, fun q hq g => ?_, fun q g hg => ?_, I.s0, fun m hm => ?_⟩
  · have := I.fd q g; simp only [Tb.openT, Tb.setUs, Tb.setFd, Tb.setOp]; split <;> omega
  · have hc : cnt (T.openT pid x f i) m = cnt (T.setFd pid.toNat f ((i : Int) + 1)) m := rfl
    rw [hc, cnt_fd T hp hf, h0, hit_zero, ← I.us m]
    unfold hit
    simp only [Tb.openT, Tb.setUs, Tb.setFd, Tb.setOp]
    by_cases e : m = i
    · subst e; simp [hi]
    · rw [if_neg e, if_neg (by omega)]; omega
  · have h5 : T.st q ≠ 1 := hq
    have := I.z q hq g; simp only [Tb.openT, Tb.setUs, Tb.setFd, Tb.setOp]
    rw [if_neg (fun c => by rw [c.1] at h5; exact h5 hr)]; exact this
  · have := I.f8 q g hg; simp only [Tb.openT, Tb.setUs, Tb.setFd, Tb.setOp]; rw [if_neg (by omega)]; exact this
  · simp only [Tb.openT, Tb.setUs, Tb.setFd, Tb.setOp] at hm ⊢
    by_cases e : m = i
    · rw [if_pos e] at hm; omega
    · rw [if_neg e] at hm ⊢; exact I.op m hm
theorem incr_flds (g : Nat → Int) : ∀ (d k : Nat) (T : Tb), (incr g d k T).st = T.st ∧ (incr g d k T).par = T.par ∧ (incr g d k T).code = T.code ∧ (incr g d k T).fd = T.fd ∧ (incr g d k T).op = T.op
  | 0, _, T => ⟨rfl, rfl, rfl, rfl, rfl⟩
  | d + 1, k, T => by
    rw [incr]
    obtain ⟨h1, h2, h3, h4, h5⟩ := incr_flds g d (k + 1) (if g k > 0 then T.setUs (g k - 1).toNat (T.us (g k - 1).toNat + 1) else T)
    rw [h1, h2, h3, h4, h5]
    split <;> exact ⟨rfl, rfl, rfl, rfl, rfl⟩
theorem incr_us (g : Nat → Int) (hg : ∀ k, 0 ≤ g k) (m : Nat) : ∀ (d k : Nat) (T : Tb), (incr g d k T).us m = T.us m + sumN (fun j => hit (g j) m) (k + d) - sumN (fun j => hit (g j) m) k
  | 0, k, T => by simp [incr]
  | d + 1, k, T => by
    rw [incr, incr_us g hg m d (k + 1), show k + 1 + d = k + (d + 1) by omega, sumN]
    have := hg k
    by_cases h : g k > 0
    · rw [if_pos h]
      simp only [Tb.setUs, hit]
      by_cases e : m = (g k - 1).toNat
      · rw [if_pos e, if_pos (by omega), ← e]; omega
      · rw [if_neg e, if_neg (by omega)]; omega
    · rw [if_neg h]
      have : hit (g k) m = 0 := by unfold hit; rw [if_neg (by omega)]
      rw [this]; omega
theorem forkT_us {T : Tb} (I : Inv T) (pid : Int) (i m : Nat) : (T.forkT pid i).us m = T.us m + row (T.fd pid.toNat) m := by
  unfold Tb.forkT
  rw [incr_us _ (fun k => (I.fd _ k).1)]
  simp only [sumN, row]
  simp [Tb.setProc, Tb.setSt, Tb.setPar, Tb.setCode, Tb.setFds]
theorem Inv.forkT {T : Tb} (I : Inv T) {pid : Int} {i : Nat} (hi : i < 9) (h1 : 1 ≤ i) (h0 : T.st i = 0) : Inv (T.forkT pid i) := by
  obtain ⟨e1, e2, e3, e4, e5⟩ := incr_flds (T.fd pid.toNat) 8 0 (T.setProc i 1 pid 0 (T.fd pid.toNat))
  have hfd : (T.forkT pid i).fd = (T.setFds i (T.fd pid.toNat)).fd := e4
  have hst : (T.forkT pid i).st = (T.setSt i 1).st := e1
  have hop : (T.forkT pid i).op = T.op := e5
  refine ⟨fun q g => ?_, fun m => ?_, fun q hq g => ?_, fun q g hg => ?_, ?_, fun m hm => ?_⟩
  · rw [hfd]; simp only [Tb.setFds]; split
    · exact I.fd _ g
    · exact I.fd q g
  · rw [forkT_us I]
    have hc : cnt (T.forkT pid i) m = cnt (T.setFds i (T.fd pid.toNat)) m := by unfold cnt; rw [hfd]
    rw [hc, cnt_fds T hi, ← I.us m, row_zero m fun f _ => I.z i (by omega) f]; omega
  · rw [hst] at hq; simp only [Tb.setSt] at hq
    by_cases e : q = i
    · rw [if_pos e] at hq; exact absurd rfl hq
    · rw [if_neg e] at hq; rw [hfd]; simp only [Tb.setFds, if_neg e]; exact I.z q hq g
  · rw [hfd]; simp only [Tb.setFds]; split
    · exact I.f8 _ g hg
    · exact I.f8 q g hg
  · rw [hst]; simp only [Tb.setSt]; rw [if_neg (by omega)]; exact I.s0
  · rw [hop]
    rw [forkT_us I] at hm
    have := row_bd (T.fd pid.toNat) m
    have := I.us0 m
    exact I.op m (by omega)
theorem exitL_inv {p : Nat} (hp : p < 9) (g : Nat → Int) : ∀ (d f : Nat) (T : Tb) (xs : List Opn), Inv T → (∀ q, f ≤ q → q < f + d → T.fd p q = g q) →
    Inv (exitL p g d f T xs).1 ∧ (exitL p g d f T xs).1.st = T.st ∧ (exitL p g d f T xs).1.par = T.par ∧ (exitL p g d f T xs).1.code = T.code ∧
      ∀ q r, (exitL p g d f T xs).1.fd q r = if q = p ∧ f ≤ r ∧ r < f + d then 0 else T.fd q r
  | 0, f, T, xs, I, _ => ⟨I, rfl, rfl, rfl, fun q r => by rw [if_neg (by omega)]; rfl⟩
  | d + 1, f, T, xs, I, h => by
    rw [exitL]
    by_cases hz : g f = 0
    · rw [if_pos hz]
      obtain ⟨h1, h2, h3, h4, h5⟩ := exitL_inv hp g d (f + 1) T xs I fun q a b => h q (by omega) (by omega)
      refine ⟨h1, h2, h3, h4, fun q r => ?_⟩
      rw [h5]
      by_cases e : q = p ∧ r = f
      · obtain ⟨rfl, rfl⟩ := e
        rw [if_neg (by omega), if_pos (by omega), h r (Nat.le_refl _) (by omega), hz]
      · by_cases c : q = p ∧ f + 1 ≤ r ∧ r < f + 1 + d
        · rw [if_pos c, if_pos (by omega)]
        · rw [if_neg c, if_neg (by omega)]
    · rw [if_neg hz]
      have hg := h f (Nat.le_refl _) (by omega)
      have hb := I.fd p f
      have hn : T.fd p f = (((g f - 1).toNat : Nat) : Int) + 1 := by omega
      have hu := I.used hp hn
      obtain ⟨l1, l2, l3, l4⟩ := letT_flds T p f (g f - 1).toNat
      obtain ⟨h1, h2, h3, h4, h5⟩ := exitL_inv hp g d (f + 1) (T.letT p f (g f - 1).toNat) (if T.us (g f - 1).toNat - 1 > 0 then xs else xs ++ [T.op (g f - 1).toNat]) (I.letT hp hn) fun q a b => by
        rw [l4]; simp only [Tb.setFd]; rw [if_neg (by omega)]; exact h q (by omega) (by omega)
      refine ⟨h1, h2.trans l1, h3.trans l2, h4.trans l3, fun q r => ?_⟩
      rw [h5, l4]
      simp only [Tb.setFd]
      by_cases e : q = p ∧ r = f
      · obtain ⟨rfl, rfl⟩ := e
        rw [if_neg (by omega), if_pos ⟨rfl, rfl⟩, if_pos (by omega)]
      · rw [if_neg e]
        by_cases c : q = p ∧ f + 1 ≤ r ∧ r < f + 1 + d
        · rw [if_pos c, if_pos (by omega)]
        · rw [if_neg c, if_neg (by omega)]
theorem reparent_flds (pid : Int) : ∀ (d i : Nat) (T : Tb), (reparent pid d i T).st = T.st ∧ (reparent pid d i T).code = T.code ∧ (reparent pid d i T).fd = T.fd ∧ (reparent pid d i T).op = T.op ∧ (reparent pid d i T).us = T.us ∧
    ∀ q, (reparent pid d i T).par q = if (i ≤ q ∧ q < i + d) ∧ T.st q ≠ 0 ∧ T.par q = pid then 1 else T.par q
  | 0, i, T => ⟨rfl, rfl, rfl, rfl, rfl, fun q => by rw [if_neg (by omega)]; rfl⟩
  | d + 1, i, T => by
    rw [reparent]
    obtain ⟨h1, h2, h3, h4, h5, h6⟩ := reparent_flds pid d (i + 1) (if T.st i ≠ 0 ∧ T.par i = pid then T.setPar i 1 else T)
    by_cases c : T.st i ≠ 0 ∧ T.par i = pid
    · rw [if_pos c] at h1 h2 h3 h4 h5 h6 ⊢
      refine ⟨h1, h2, h3, h4, h5, fun q => ?_⟩
      rw [h6]
      by_cases e : q = i
      · subst e
        rw [if_neg (by omega), if_pos ⟨by omega, c⟩]; simp [Tb.setPar]
      · have e1 : (T.setPar i 1).par q = T.par q := by simp [Tb.setPar, e]
        have e2 : (T.setPar i 1).st q = T.st q := rfl
        rw [e1]
        by_cases c2 : (i + 1 ≤ q ∧ q < i + 1 + d) ∧ T.st q ≠ 0 ∧ T.par q = pid
        · rw [if_pos (by rw [e2]; exact c2), if_pos ⟨by omega, c2.2⟩]
        · rw [if_neg (by rw [e2]; exact c2), if_neg (fun h => c2 ⟨by omega, h.2⟩)]
    · rw [if_neg c] at h1 h2 h3 h4 h5 h6 ⊢
      refine ⟨h1, h2, h3, h4, h5, fun q => ?_⟩
      rw [h6]
      by_cases e : q = i
      · subst e
        rw [if_neg (by omega), if_neg (fun h => c h.2)]
      · by_cases c2 : (i + 1 ≤ q ∧ q < i + 1 + d) ∧ T.st q ≠ 0 ∧ T.par q = pid
        · rw [if_pos c2, if_pos ⟨by omega, c2.2⟩]
        · rw [if_neg c2, if_neg (fun h => c2 ⟨by omega, h.2⟩)]
theorem Inv.exitT {T : Tb} (I : Inv T) {pid : Int} (code : Int) (hp : 1 ≤ pid) (hp9 : pid < 9) : Inv (T.exitT pid code) := by
  obtain ⟨h1, h2, h3, h4, h5⟩ := exitL_inv (p := pid.toNat) (by omega) (T.fd pid.toNat) 8 0 T [] I fun _ _ _ => rfl
  obtain ⟨r1, r2, r3, r4, r5, r6⟩ := reparent_flds pid 9 0 (exitL pid.toNat (T.fd pid.toNat) 8 0 T []).1
  have hfd : (T.exitT pid code).fd = (exitL pid.toNat (T.fd pid.toNat) 8 0 T []).1.fd := r3
  have hus : (T.exitT pid code).us = (exitL pid.toNat (T.fd pid.toNat) 8 0 T []).1.us := r5
  have hop : (T.exitT pid code).op = (exitL pid.toNat (T.fd pid.toNat) 8 0 T []).1.op := r4
  have hst : ∀ q, (T.exitT pid code).st q = if q = pid.toNat then 2 else T.st q := fun q => by
    show (if q = pid.toNat then 2 else (reparent pid 9 0 (exitL pid.toNat (T.fd pid.toNat) 8 0 T []).1).st q) = _
    rw [r1, h2]
  refine ⟨fun q g => by rw [hfd]; exact h1.fd q g, fun m => ?_, fun q hq g => ?_, fun q g hg => by rw [hfd]; exact h1.f8 q g hg, ?_, fun m hm => ?_⟩
  · rw [hus, h1.us m]; unfold cnt; rw [hfd]
  · rw [hst] at hq
    rw [hfd]
    by_cases e : q = pid.toNat
    · rw [h5]
      by_cases hg : g < 8
      · rw [if_pos ⟨e, by omega⟩]
      · rw [if_neg (by omega)]; exact I.f8 q g (by omega)
    · rw [if_neg e] at hq; exact h1.z q (by rw [h2]; exact hq) g
  · rw [hst, if_neg (by omega)]; exact I.s0
  · rw [hus] at hm; rw [hop]; exact h1.op m hm
theorem Inv.waitT {T : Tb} (I : Inv T) {i : Nat} (hs : T.st i ≠ 1) : Inv (T.waitT i) := by
  have hfd : (T.waitT i).fd = T.fd := by
    funext p f
    simp only [Tb.waitT, Tb.setProc, Tb.setFds, Tb.setCode, Tb.setPar, Tb.setSt]
    split
    · rename_i e; rw [e, I.z i hs f]
    · rfl
  refine ⟨fun q g => by rw [hfd]; exact I.fd q g, fun m => ?_, fun q hq g => ?_, fun q g hg => by rw [hfd]; exact I.f8 q g hg, ?_, fun m hm => I.op m hm⟩
  · show T.us m = _; rw [I.us m]; unfold cnt; rw [hfd]
  · rw [hfd]
    by_cases e : q = i
    · subst e; exact I.z q hs g
    · refine I.z q ?_ g
      have : (T.waitT i).st q = T.st q := by simp [Tb.waitT, Tb.setProc, Tb.setFds, Tb.setCode, Tb.setPar, Tb.setSt, e]
      rw [this] at hq; exact hq
  · simp only [Tb.waitT, Tb.setProc, Tb.setFds, Tb.setCode, Tb.setPar, Tb.setSt]
    split
    · rfl
    · exact I.s0
theorem Inv.setOp {T : Tb} (I : Inv T) {n : Nat} (x : Opn) (h : T.us n ≠ 0) : Inv (T.setOp n x) := by
  refine ⟨I.fd, I.us, I.z, I.f8, I.s0, fun m hm => ?_⟩
  have hm' : T.us m = 0 := hm
  simp only [Tb.setOp]
  rw [if_neg (fun e => h (by rw [← e]; exact hm'))]; exact I.op m hm'
theorem freeAt_spec (g : Nat → Int) : ∀ (d i : Nat), freeAt g d i = -1 ∧ (∀ q, i ≤ q → q < i + d → g q ≠ 0) ∨ ∃ q : Nat, freeAt g d i = q ∧ i ≤ q ∧ q < i + d ∧ g q = 0 ∧ ∀ r, i ≤ r → r < q → g r ≠ 0
  | 0, i => .inl ⟨rfl, fun q _ _ => by omega⟩
  | d + 1, i => by
    rw [freeAt]
    by_cases h : g i = 0
    · rw [if_pos h]; exact .inr ⟨i, rfl, by omega, by omega, h, fun r _ _ => by omega⟩
    · rw [if_neg h]
      rcases freeAt_spec g d (i + 1) with ⟨h1, h2⟩ | ⟨q, h1, h2, h3, h4, h5⟩
      · refine .inl ⟨h1, fun q a b => ?_⟩
        by_cases e : q = i
        · rw [e]; exact h
        · exact h2 q (by omega) (by omega)
      · refine .inr ⟨q, h1, by omega, by omega, h4, fun r a b => ?_⟩
        by_cases e : r = i
        · rw [e]; exact h
        · exact h5 r (by omega) b
end Go.Proofs.Ytimaipclgmcekaa
