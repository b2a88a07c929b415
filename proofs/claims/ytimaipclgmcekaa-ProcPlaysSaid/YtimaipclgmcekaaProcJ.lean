/- What is set by one descriptor is had by all: the plain law. -/
import Derived.Test.YtimaipclgmcekaaProcI
import Derived.Test.YtimaipclgmcekaaCamK
namespace Go.Proofs.Ytimaipclgmcekaa
open Go.Cam
set_option maxRecDepth 100000
def X5 : Opn := ⟨1, ByteArray.empty, 5, 0, 0, 0, false⟩
def X6 : Opn := ⟨1, ByteArray.empty, 6, 0, 0, 0, false⟩
def X9 : Opn := ⟨1, ByteArray.empty, 5, 99, 0, 0, false⟩
def shFd (i j p f : Nat) : Int := if 1 ≤ p ∧ p ≤ j + 1 then (if f = 1 then 2 else if f = 0 ∨ (2 ≤ f ∧ f ≤ i + 1) then 1 else 0) else 0
def shSt (j p : Nat) : Int := if 1 ≤ p ∧ p ≤ j + 1 then 1 else 0
structure Sh (T : Tb) (i j : Nat) : Prop where
  inv : Inv T
  fd : ∀ p f, T.fd p f = shFd i j p f
  st : ∀ p, T.st p = shSt j p
  o0 : T.op 0 = X5
  o1 : T.op 1 = X6
  oz : ∀ m, 2 ≤ m → T.op m = Opn.zero
theorem Tb.runs_eq {T : Tb} {p : Nat} (h1 : 1 ≤ p) (h9 : p < 9) (h : T.st p = 1) : T.runs p = true := by
  have e1 : decide (1 ≤ (p : Int)) = true := decide_eq_true (by omega)
  have e2 : decide ((p : Int) < 9) = true := decide_eq_true (by omega)
  unfold Tb.runs
  rw [e1, e2, Int.toNat_natCast, h]; rfl
theorem Tb.err_eq {T : Tb} {p f : Nat} (h1 : 1 ≤ p) (h9 : p < 9) (h8 : f < 8) (h : T.st p = 1) (hf : T.fd p f ≠ 0) : T.err p f = 0 := by
  unfold Tb.err
  rw [Tb.runs_eq h1 h9 h, if_neg (by simp), if_neg (by omega), Int.toNat_natCast, Int.toNat_natCast, if_neg hf]
theorem Tb.no_eq {T : Tb} {p f n : Nat} (h : T.fd p f = (n : Int) + 1) : T.no p f = n := by
  unfold Tb.no; rw [Int.toNat_natCast, Int.toNat_natCast, h]; omega
def U0 : Tb := (S0.openT 1 X5 0 0).openT 1 X6 1 1
theorem shU : Sh U0 0 0 := by
  refine ⟨(I0.openT X5 (by decide) (by decide) (by decide) rfl rfl rfl).openT X6 (by decide) (by decide) (by decide) rfl rfl rfl, fun p f => ?_, fun p => ?_, rfl, rfl, fun m hm => ?_⟩
  · by_cases hp : p = 1
    · subst hp
      show (if 1 = 1 ∧ f = 1 then (2 : Int) else if 1 = 1 ∧ f = 0 then 1 else 0) = shFd 0 0 1 f
      unfold shFd
      rw [if_pos (by omega : 1 ≤ 1 ∧ 1 ≤ 0 + 1)]
      by_cases h1 : f = 1
      · simp [h1]
      · by_cases h0 : f = 0
        · simp [h0]
        · rw [if_neg (by omega), if_neg (by omega), if_neg h1, if_neg (by omega)]
    · show (if p = 1 ∧ f = 1 then (2 : Int) else if p = 1 ∧ f = 0 then 1 else 0) = shFd 0 0 p f
      unfold shFd
      rw [if_neg (by omega), if_neg (by omega), if_neg (by omega)]
  · show (if p = 1 then (1 : Int) else 0) = shSt 0 p
    unfold shSt
    by_cases hp : p = 1
    · subst hp; rfl
    · rw [if_neg hp, if_neg (by omega)]
  · show (if m = 1 then X6 else if m = 0 then X5 else Opn.zero) = Opn.zero
    rw [if_neg (by omega), if_neg (by omega)]
theorem freeAt_congr {g h : Nat → Int} (e : ∀ k, g k = h k) : ∀ d i, freeAt g d i = freeAt h d i := by
  have : g = h := funext e
  subst this; exact fun _ _ => rfl
theorem Sh.free {T : Tb} {i : Nat} (h : Sh T i 0) (hi : i < 6) : freeAt (T.fd 1) 8 0 = ((i + 2 : Nat) : Int) := by
  rw [freeAt_congr (h.fd 1)]
  have : ∀ i < 6, freeAt (shFd i 0 1) 8 0 = ((i + 2 : Nat) : Int) := by decide
  exact this i hi
theorem Sh.err {T : Tb} {i j p f : Nat} (h : Sh T i j) (hp : 1 ≤ p ∧ p ≤ j + 1) (hj : j < 8) (hf : f ≤ i + 1) (hi : i ≤ 6) : T.err p f = 0 := by
  refine Tb.err_eq hp.1 (by omega) (by omega) (by rw [h.st, shSt, if_pos hp]) ?_
  rw [h.fd, shFd, if_pos hp]
  by_cases h1 : f = 1
  · rw [if_pos h1]; omega
  · rw [if_neg h1, if_pos (by omega)]; omega
theorem Sh.no {T : Tb} {i j p f : Nat} (h : Sh T i j) (hp : 1 ≤ p ∧ p ≤ j + 1) (hf : f = 0 ∨ (2 ≤ f ∧ f ≤ i + 1)) : T.no p f = 0 :=
  Tb.no_eq (by rw [h.fd, shFd, if_pos hp, if_neg (by omega), if_pos hf]; rfl)
theorem Sh.no1 {T : Tb} {i j p : Nat} (h : Sh T i j) (hp : 1 ≤ p ∧ p ≤ j + 1) : T.no p (1 : Nat) = 1 :=
  Tb.no_eq (by rw [h.fd, shFd, if_pos hp, if_pos rfl]; rfl)
theorem Sh.dup {T : Tb} {i : Nat} (h : Sh T i 0) (hi : i < 6) : Sh (T.dupT 1 (i + 2) 0) (i + 1) 0 := by
  refine ⟨h.inv.dupT (by decide) (by omega) (by decide) ?_ ?_, fun p f => ?_, h.st, h.o0, h.o1, h.oz⟩
  · rw [h.fd, shFd, if_pos (by omega), if_neg (by omega), if_neg (by omega)]
  · rw [h.st]; rfl
  · show (if p = 1 ∧ f = i + 2 then ((0 : Nat) : Int) + 1 else T.fd p f) = _
    rw [h.fd]; unfold shFd
    by_cases hp : 1 ≤ p ∧ p ≤ 0 + 1
    · rw [if_pos hp, if_pos hp]
      by_cases h1 : f = 1
      · rw [if_neg (by omega), if_pos h1, if_pos h1]
      · rw [if_neg h1, if_neg h1]
        by_cases h2 : f = i + 2
        · rw [if_pos ⟨by omega, h2⟩, if_pos (by omega)]; rfl
        · rw [if_neg (by omega)]
          by_cases h3 : f = 0 ∨ (2 ≤ f ∧ f ≤ i + 1)
          · rw [if_pos h3, if_pos (by omega)]
          · rw [if_neg h3, if_neg (by omega)]
    · rw [if_neg hp, if_neg hp, if_neg (by omega)]
def slotS (s : Nat → Int) : Nat → Nat → Option Nat
  | 0, _ => none
  | d + 1, i => if i < 1 ∨ s i ≠ 0 then slotS s d (i + 1) else some i
theorem slot_eq (T : Tb) : ∀ d i, T.slot d i = slotS T.st d i
  | 0, _ => rfl
  | d + 1, i => by rw [Tb.slot, slotS, slot_eq T d (i + 1)]
theorem slotS_congr {s r : Nat → Int} (e : ∀ k, s k = r k) (d i : Nat) : slotS s d i = slotS r d i := by
  have : s = r := funext e
  subst this; rfl
theorem Sh.slot {T : Tb} {i j : Nat} (h : Sh T i j) (hj : j < 7) : T.slot 9 0 = some (j + 2) := by
  rw [slot_eq, slotS_congr h.st]
  have : ∀ j < 7, slotS (shSt j) 9 0 = some (j + 2) := by decide
  exact this j hj
theorem forkT_flds (T : Tb) (pid : Int) (i : Nat) : (T.forkT pid i).st = (T.setSt i 1).st ∧ (T.forkT pid i).par = (T.setPar i pid).par ∧ (T.forkT pid i).code = (T.setCode i 0).code ∧ (T.forkT pid i).fd = (T.setFds i (T.fd pid.toNat)).fd ∧ (T.forkT pid i).op = T.op := by
  obtain ⟨e1, e2, e3, e4, e5⟩ := incr_flds (T.fd pid.toNat) 8 0 (T.setProc i 1 pid 0 (T.fd pid.toNat))
  exact ⟨e1, e2, e3, e4, e5⟩
theorem Sh.fork {T : Tb} {i j : Nat} (h : Sh T i j) (hj : j < 7) : Sh (T.forkT 1 (j + 2)) i (j + 1) := by
  obtain ⟨e1, e2, e3, e4, e5⟩ := forkT_flds T 1 (j + 2)
  refine ⟨h.inv.forkT (by omega) (by omega) (by rw [h.st, shSt, if_neg (by omega)]), fun p f => ?_, fun p => ?_, by rw [e5]; exact h.o0, by rw [e5]; exact h.o1, fun m hm => by rw [e5]; exact h.oz m hm⟩
  · rw [e4]
    show (if p = j + 2 then T.fd 1 f else T.fd p f) = _
    rw [h.fd, h.fd]
    unfold shFd
    by_cases hp : p = j + 2
    · rw [if_pos hp, if_pos (by omega), if_pos (show 1 ≤ p ∧ p ≤ j + 1 + 1 by omega)]
    · rw [if_neg hp]
      by_cases h2 : 1 ≤ p ∧ p ≤ j + 1
      · rw [if_pos h2, if_pos (show 1 ≤ p ∧ p ≤ j + 1 + 1 by omega)]
      · rw [if_neg h2, if_neg (show ¬ (1 ≤ p ∧ p ≤ j + 1 + 1) by omega)]
  · rw [e1]
    show (if p = j + 2 then (1 : Int) else T.st p) = _
    rw [h.st]; unfold shSt
    by_cases hp : p = j + 2
    · rw [if_pos hp, if_pos (by omega)]
    · rw [if_neg hp]
      by_cases h2 : 1 ≤ p ∧ p ≤ j + 1
      · rw [if_pos h2, if_pos (by omega)]
      · rw [if_neg h2, if_neg (by omega)]
theorem holds_none (T : Tb) (x : Opn) : ∀ (d i n : Nat), (∀ m, i ≤ m → m < i + d → T.hold x m = false) → T.holds x d i n = n
  | 0, _, _, _ => rfl
  | d + 1, i, n, h => by
    rw [Tb.holds, h i (Nat.le_refl _) (by omega), if_neg (by simp), holds_none T x d (i + 1) n fun m a b => h m (by omega) (by omega)]
theorem Sh.holds {T : Tb} {i j : Nat} (h : Sh T i j) : (T.setOp 0 X9).holds X9 16 0 0 = 1 := by
  have hu : T.us 0 > 0 := by
    have : T.fd 1 0 = ((0 : Nat) : Int) + 1 := by rw [h.fd]; simp [shFd]
    have := h.inv.used (by decide) this; omega
  have h0 : (T.setOp 0 X9).hold X9 0 = true := by
    have hd : decide ((T.setOp 0 X9).us 0 > 0) = true := decide_eq_true hu
    unfold Tb.hold
    rw [hd]
    have : (T.setOp 0 X9).op 0 = X9 := rfl
    rw [this]; exact same_refl X9
  rw [Tb.holds, h0, if_pos rfl]
  refine holds_none _ _ 15 1 1 fun m h1 h2 => ?_
  have hop : (T.setOp 0 X9).op m = T.op m := by show (if m = 0 then X9 else T.op m) = _; rw [if_neg (by omega)]
  unfold Tb.hold
  rw [hop]
  by_cases e : m = 1
  · rw [e, h.o1]
    have : ({ X6 with off := X9.off, flags := X9.flags } : Opn).same X9 = false := by simp [Opn.same, X6, X9]
    rw [this, Bool.and_false]
  · rw [h.oz m (by omega)]
    have : ({ Opn.zero with off := X9.off, flags := X9.flags } : Opn).same X9 = false := by simp [Opn.same, X9, Opn.zero]
    rw [this, Bool.and_false]
theorem Sh.setop {T : Tb} {i j : Nat} (h : Sh T i j) : Inv (T.setOp 0 X9) := by
  refine h.inv.setOp X9 ?_
  have : T.fd 1 0 = ((0 : Nat) : Int) + 1 := by rw [h.fd]; simp [shFd]
  have := h.inv.used (by decide) this; omega
/-- the descriptors, the processes, as the statement gathers them -/
def fdNo (k : Nat) : Nat := if k = 0 then 0 else k + 1
def rowF (i : Nat) : List Value := (List.range (i + 1)).map fun k => .int .i64 (fdNo k)
def rowP (j : Nat) : List Value := (List.range (j + 1)).map fun k => .int .i64 ((k + 1 : Nat) : Int)
theorem rowF_len (i : Nat) : (rowF i).length = (i + 1) * 1 := by simp [rowF]
theorem rowP_len (i : Nat) : (rowP i).length = (i + 1) * 1 := by simp [rowP]
theorem rowF_snoc (i : Nat) : rowF (i + 1) = rowF i ++ [.int .i64 ((i + 2 : Nat) : Int)] := by
  unfold rowF; rw [List.range_succ (n := i + 1), List.map_append]; simp [fdNo]; omega
theorem rowP_snoc (i : Nat) : rowP (i + 1) = rowP i ++ [.int .i64 ((i + 2 : Nat) : Int)] := by
  unfold rowP; rw [List.range_succ (n := i + 1), List.map_append]; rfl
theorem rowF_get {i k : Nat} (h : k < i + 1) : (rowF i)[k]? = some (.int .i64 (fdNo k)) := by simp [rowF, h]
theorem rowP_get {i k : Nat} (h : k < i + 1) : (rowP i)[k]? = some (.int .i64 ((k + 1 : Nat) : Int)) := by simp [rowP, h]
theorem kindI_bd {n m : Int} (hm : 0 < m) : 0 ≤ kindI n m ∧ kindI n m < m := by
  unfold kindI
  split
  · exact ⟨Int.tmod_nonneg _ (by omega), Int.tmod_lt_of_pos _ hm⟩
  · exact ⟨Int.tmod_nonneg _ (by omega), Int.tmod_lt_of_pos _ hm⟩
end Go.Proofs.Ytimaipclgmcekaa
