/- sum.nibbles, sum.More. -/
import Derived.Test.YtldonbnjefhfdaaCrsF
namespace Go.Proofs.Ytldonbnjefhfdaa
open Go.Cam
set_option maxRecDepth 100000
def nibS (r : Nat) : Nat := if r &&& 1 = 1 then (r / 2) ^^^ 2197175160 else r / 2
def nibD : Nat → Nat → Nat
  | 0, r => r
  | d + 1, r => nibD d (nibS r)
def nib (i : Nat) : Nat := nibD 4 i
def nibC (i j : Nat) : Value := .int .u32 ((if j < i then nib j else 0 : Nat) : Int)
theorem nibS_lt {r : Nat} (h : r < 4294967296) : nibS r < 4294967296 := by
  unfold nibS
  split
  · exact Nat.xor_lt_two_pow (n := 32) (by omega) (by omega)
  · omega
theorem nibC_step (i : Nat) : fset (nibC i) (i * 1) (.int .u32 ((nib i : Nat) : Int)) = nibC (i + 1) := by
  funext j
  unfold fset nibC
  by_cases h : j = i
  · subst h; simp
  · rw [if_neg (by omega)]
    by_cases h2 : j < i
    · rw [if_pos h2, if_pos (by omega)]
    · rw [if_neg h2, if_neg (by omega)]
set_option maxHeartbeats 1000000 in
theorem nibbles_c : Ctr Try.prog 91 [] [] (fun v Bs => v = .agg (tab 16 (nibC 16)) ∧ Bs = []) := by
  refine s_enter 25 [] (fun F => [F]) Try.func91 fun F => ?_
  refine go_ ?_
  refine s_alloc fun r0 => ?_
  refine s_open (B := .own r0 (.cells (tab 16 (nibC 0)) 163 (0, 0))) (fun _ _ h => h) ?_
  refine go_ ?_
  refine s_alloc fun r1 => ?_
  refine s_open (B := .own r1 (.cells (tab 16 (nibC 0)) 163 (0, 0))) (fun _ _ h => h) ?_
  refine go_ ?_
  refine s_loop (fun i : Nat => [(0, .pointer (some ⟨r0, 0, none⟩)), (1, .pointer (some ⟨r1, 0, none⟩)), (4, .int .i64 i)]) (fun i => [.own r1 (.cells (tab 16 (nibC i)) 163 (0, 0)), .own r0 (.cells (tab 16 (nibC 0)) 163 (0, 0)), F]) (fun i => i ≤ 16) (fun i => 16 - i) 0 (by omega) (by repeat (first | exact Ent.nil | refine Ent.per (by repeat (first | with_reducible exact Sel.here | with_reducible apply Sel.there)) ?_ | refine Ent.cons (by repeat (first | with_reducible exact Sel.here | with_reducible apply Sel.there)) ?_)) ?_
  rintro i hi next
  refine go_ ?_
  refine s_if (fun h2 => ?_) (fun h2 => ?_)
  · refine go_ ?_
    rw [wrap_u32 i (by omega)]
    refine s_loop (fun x : Nat × Nat => [(0, .pointer (some ⟨r0, 0, none⟩)), (1, .pointer (some ⟨r1, 0, none⟩)), (2, .int .i64 i), (3, .int .u32 (x.2 : Nat)), (4, .int .i64 i), (9, .int .i64 (x.1 : Nat))]) (fun _ => [.own r1 (.cells (tab 16 (nibC i)) 163 (0, 0)), .own r0 (.cells (tab 16 (nibC 0)) 163 (0, 0)), F]) (fun x => x.1 ≤ 4 ∧ x.2 < 4294967296 ∧ nibD (4 - x.1) x.2 = nib i) (fun x => 4 - x.1) (0, i) ⟨by simp, by simp; omega, rfl⟩ (by repeat (first | exact Ent.nil | refine Ent.per (by repeat (first | with_reducible exact Sel.here | with_reducible apply Sel.there)) ?_ | refine Ent.cons (by repeat (first | with_reducible exact Sel.here | with_reducible apply Sel.there)) ?_)) ?_
    rintro ⟨k, r⟩ ⟨hk, hr, he⟩ next2
    dsimp only at hk hr he next2 ⊢
    refine go_ ?_
    refine s_if (fun h3 => ?_) (fun h3 => ?_)
    · obtain ⟨d, hd⟩ : ∃ d, 4 - k = d + 1 := ⟨3 - k, by omega⟩
      have e4 : 4 - (k + 1) = d := by omega
      rw [hd, nibD] at he
      have hr2 := nibS_lt hr
      refine go_ ?_
      rw [and_u32 r 1 (y := 1) rfl rfl hr (by omega)]
      refine s_ieq (fun h4 => ?_) (fun h4 => ?_)
      · have e5 : nibS r = (r / 2) ^^^ 2197175160 := by unfold nibS; rw [if_pos (by omega)]
        refine go_ ?_
        rw [xor_u32 (r / 2 ^ 1) 2197175160 (x := (r : Int).fdiv (2 ^ min (Int.toNat 1) IntKind.u32.bits)) (y := 2197175160) (fdiv_pow r 1) rfl (by omega) (by omega)]
        exact s_entF (by repeat (first | exact Ent.nil | refine Ent.per (by repeat (first | with_reducible exact Sel.here | with_reducible apply Sel.there)) ?_ | refine Ent.cons (by repeat (first | with_reducible exact Sel.here | with_reducible apply Sel.there)) ?_)) (s_keep _ (next2 (k + 1, r / 2 ^ 1 ^^^ 2197175160) ⟨by dsimp only; omega, by dsimp only; rw [e5] at hr2; simpa using hr2, by dsimp only; rw [e4, ← he, e5]⟩ (by dsimp only; omega)))
      · have e5 : nibS r = r / 2 := by unfold nibS; rw [if_neg (by omega)]
        refine go_ ?_
        rw [show (r : Int).fdiv (2 ^ min (Int.toNat 1) IntKind.u32.bits) = ((r / 2 ^ 1 : Nat) : Int) from fdiv_pow r 1]
        exact s_entF (by repeat (first | exact Ent.nil | refine Ent.per (by repeat (first | with_reducible exact Sel.here | with_reducible apply Sel.there)) ?_ | refine Ent.cons (by repeat (first | with_reducible exact Sel.here | with_reducible apply Sel.there)) ?_)) (s_keep _ (next2 (k + 1, r / 2 ^ 1) ⟨by dsimp only; omega, by dsimp only; rw [e5] at hr2; simpa using hr2, by dsimp only; rw [e4, ← he, e5]⟩ (by dsimp only; omega)))
    · have e0 : 4 - k = 0 := by omega
      rw [e0, nibD] at he
      subst he
      refine go_ ?_
      refine s_stt ?_
      rw [nibC_step]
      refine go_ ?_
      exact s_entF (by repeat (first | exact Ent.nil | refine Ent.per (by repeat (first | with_reducible exact Sel.here | with_reducible apply Sel.there)) ?_ | refine Ent.cons (by repeat (first | with_reducible exact Sel.here | with_reducible apply Sel.there)) ?_)) (s_keep _ (next (i + 1) (by omega) (by omega)))
  · have : i = 16 := by omega
    subst this
    refine go_ ?_
    have hq : ∀ j, one (nibC 16 j) = true := fun _ => rfl
    generalize nibC 16 = q at hq ⊢
    refine s_stw (h1 := tab_size _ _) (h2 := tab_size _ _) (h3 := tab_all hq) ?_
    refine go_ ?_
    exact s_ret1 (rs := [.cell 0 163]) Try.func91 rfl (by intro j; refine RVS.cell _ _ rfl (by repeat (first | with_reducible exact Sel.here | with_reducible apply Sel.there)) (by rfl) ?_; exact RVS.nil) (⟨rfl, rfl⟩) (by repeat (first | exact Ent.nil | refine Ent.per (by repeat (first | with_reducible exact Sel.here | with_reducible apply Sel.there)) ?_ | refine Ent.cons (by repeat (first | with_reducible exact Sel.here | with_reducible apply Sel.there)) ?_))
end Go.Proofs.Ytldonbnjefhfdaa
/- sum.More, sum.Sum. -/
namespace Go.Proofs.Ytldonbnjefhfdaa
open Go.Cam
set_option maxRecDepth 100000
def crcH (x : Nat) : Nat := (x / 2 ^ 4) ^^^ nib (x &&& 15)
def crcS (r c : Nat) : Nat := crcH (crcH (r ^^^ c))
def notN (x : Nat) : Nat := 4294967295 ^^^ x
def moreB (s : Nat) (l : List Nat) : Nat := notN (l.foldl crcS (notN s))
def sumB (l : List Nat) : Nat := moreB 0 l
theorem nib_lt {i : Nat} (h : i < 4294967296) : nib i < 4294967296 := nibS_lt (nibS_lt (nibS_lt (nibS_lt h)))
theorem and15_lt (x : Nat) : x &&& 15 < 16 := Nat.lt_of_le_of_lt Nat.and_le_right (by decide)
theorem crcH_lt {x : Nat} (h : x < 4294967296) : crcH x < 4294967296 := by
  unfold crcH
  have h1 : x &&& 15 < 16 := Nat.lt_of_le_of_lt Nat.and_le_right (by decide)
  exact Nat.xor_lt_two_pow (n := 32) (by omega) (nib_lt (by omega))
theorem crcS_lt {r c : Nat} (h : r < 4294967296) (hc : c < 256) : crcS r c < 4294967296 := crcH_lt (crcH_lt (Nat.xor_lt_two_pow (n := 32) (by omega) (by omega)))
theorem notN_lt {x : Nat} (h : x < 4294967296) : notN x < 4294967296 := Nat.xor_lt_two_pow (n := 32) (by omega) (by omega)
theorem fold_lt : ∀ (l : List Nat) (r : Nat), Bys l → r < 4294967296 → l.foldl crcS r < 4294967296
  | [], _, _, h => h
  | c :: l, r, hb, h => fold_lt l _ (fun x hx => hb x (List.mem_cons_of_mem _ hx)) (crcS_lt h (hb c (List.mem_cons_self ..)))
theorem moreB_lt (s : Nat) (l : List Nat) (hs : s < 4294967296) (hb : Bys l) : moreB s l < 4294967296 := notN_lt (fold_lt l _ hb (notN_lt hs))
set_option maxHeartbeats 1000000 in
theorem more_c {A : HP} {a : Option Addr} {c : Nat} (s : Nat) (l : List Nat) [Rd A 1 (.slice a l.length c) l.length (byR l)] (hs : s < 4294967296) (hb : Bys l) (hl : l.length < 1000000) : Ctr Try.prog 73 [.int .u32 (s : Int), .slice a l.length c] [A] (fun v Bs => v = .int .u32 (moreB s l : Nat) ∧ Bs = [A]) := by
  refine s_enter 39 [(0, _), (1, _)] (fun F => [_, F]) Try.func73 fun F => ?_
  refine go_ ?_
  refine s_call (sp := (by repeat (first | exact Split.nil | apply Split.perx (by repeat (first | with_reducible exact Sel.here | with_reducible apply Sel.there)) (by infer_instance) | apply Split.cons (by repeat (first | with_reducible exact Sel.here | with_reducible apply Sel.there))))) (hs := nibbles_c) (h := ?_)
  rintro v Bs ⟨rfl, rfl⟩
  refine go_ ?_
  refine s_alloc fun r5 => ?_
  have hq : ∀ j, one (nibC 16 j) = true := fun _ => rfl
  have hn : ∀ j, j < 16 → nibC 16 j = .int .u32 (nib j : Nat) := fun j hj => by unfold nibC; rw [if_pos hj]
  generalize nibC 16 = q at hq hn ⊢
  refine s_stw (m := 16) (c' := tab 16 q) (h1 := by rfl) (h2 := tab_size _ _) (h3 := tab_all hq) ?_
  refine go_ ?_
  rw [xor_u32 4294967295 s (x := if IntKind.u32.signed = true then -1 else IntKind.u32.max) (y := s) rfl rfl (by decide) hs]
  refine s_loop (fun i : Nat => [(5, .pointer (some ⟨r5, 0, none⟩)), (6, .int .u32 ((l.take i).foldl crcS (notN s) : Nat)), (12, .slice a l.length c), (13, .int .i64 l.length), (14, .int .i64 i)]) (fun _ => [.own r5 (.cells (tab 16 q) 163 (0, 0)), A, F]) (fun i => i ≤ l.length) (fun i => l.length - i) 0 (by omega) (by repeat (first | exact Ent.nil | refine Ent.per (by repeat (first | with_reducible exact Sel.here | with_reducible apply Sel.there)) ?_ | refine Ent.cons (by repeat (first | with_reducible exact Sel.here | with_reducible apply Sel.there)) ?_)) ?_
  rintro i hi next
  refine go_ ?_
  refine s_if (fun h2 => ?_) (fun h2 => ?_)
  · refine go_ ?_
    have hi2 : i < l.length := by omega
    have e1 : (l.getD i 0) = l[i] := by simp [List.getD_eq_getElem?_getD, hi2]
    have hc := hb _ (List.getElem_mem hi2)
    have hf := fold_lt (l.take i) (notN s) (fun x hx => hb x (List.mem_of_mem_take hx)) (notN_lt hs)
    have e2 : (l.take (i + 1)).foldl crcS (notN s) = crcS ((l.take i).foldl crcS (notN s)) l[i] := by rw [← List.take_append_getElem, List.foldl_append]; rfl
    generalize (l.take i).foldl crcS (notN s) = r at hf e2 ⊢
    rw [e1]
    generalize l[i] = y at hc e2 ⊢
    rw [wrap_u32 y (by omega), xor_u32 r y rfl rfl hf (by omega)]
    have hx : r ^^^ y < 4294967296 := Nat.xor_lt_two_pow (n := 32) (by omega) (by omega)
    rw [show crcS r y = crcH (crcH (r ^^^ y)) from rfl] at e2
    generalize r ^^^ y = x at hx e2 ⊢
    have h15x := and15_lt x
    rw [and_u32 x 15 (x := (x : Nat)) (y := 15) rfl rfl hx (by decide)]
    refine go_ ?_
    refine s_look (lk_ldv (v := .int .u32 (nib (x &&& 15) : Nat)) (hv := by rw [Nat.mul_one]; exact hn _ (and15_lt x)) (hl := by omega)) ?_
    refine go_ ?_
    rw [xor_u32 (x / 2 ^ 4) (nib (x &&& 15)) (x := (x : Int).fdiv (2 ^ min (Int.toNat 4) IntKind.u32.bits)) (fdiv_pow x 4) rfl (by omega) (nib_lt (by omega)), show (x / 2 ^ 4) ^^^ nib (x &&& 15) = crcH x from rfl]
    have hz := crcH_lt hx
    generalize crcH x = z at hz e2 ⊢
    refine go_ ?_
    have h15z := and15_lt z
    rw [and_u32 z 15 (x := (z : Nat)) (y := 15) rfl rfl hz (by decide)]
    refine go_ ?_
    refine s_look (lk_ldv (v := .int .u32 (nib (z &&& 15) : Nat)) (hv := by rw [Nat.mul_one]; exact hn _ (and15_lt z)) (hl := by omega)) ?_
    refine go_ ?_
    rw [xor_u32 (z / 2 ^ 4) (nib (z &&& 15)) (x := (z : Int).fdiv (2 ^ min (Int.toNat 4) IntKind.u32.bits)) (fdiv_pow z 4) rfl (by omega) (nib_lt (by omega)), show (z / 2 ^ 4) ^^^ nib (z &&& 15) = crcH z from rfl]
    refine go_ ?_
    rw [← e2]
    exact s_entF (by repeat (first | exact Ent.nil | refine Ent.per (by repeat (first | with_reducible exact Sel.here | with_reducible apply Sel.there)) ?_ | refine Ent.cons (by repeat (first | with_reducible exact Sel.here | with_reducible apply Sel.there)) ?_)) (s_keep _ (next (i + 1) (by omega) (by omega)))
  · have : i = l.length := by omega
    subst this
    refine go_ ?_
    rw [List.take_length, xor_u32 4294967295 (l.foldl crcS (notN s)) (x := if IntKind.u32.signed = true then -1 else IntKind.u32.max) rfl rfl (by decide) (fold_lt _ _ hb (notN_lt hs))]
    exact s_ret1 (rs := [.tmp 4]) Try.func73 rfl (by intro j; refine RVS.tmp _ rfl ?_; exact RVS.nil) (⟨rfl, rfl⟩) (by repeat (first | exact Ent.nil | refine Ent.per (by repeat (first | with_reducible exact Sel.here | with_reducible apply Sel.there)) ?_ | refine Ent.cons (by repeat (first | with_reducible exact Sel.here | with_reducible apply Sel.there)) ?_))
theorem sum_c {A : HP} {a : Option Addr} {c : Nat} (l : List Nat) [Rd A 1 (.slice a l.length c) l.length (byR l)] (hb : Bys l) (hl : l.length < 1000000) : Ctr Try.prog 53 [.slice a l.length c] [A] (fun v Bs => v = .int .u32 (sumB l : Nat) ∧ Bs = [A]) := by
  refine s_enter 5 [(0, _)] (fun F => [_, F]) Try.func53 fun F => ?_
  refine go_ ?_
  refine s_call (sp := (by repeat (first | exact Split.nil | apply Split.perx (by repeat (first | with_reducible exact Sel.here | with_reducible apply Sel.there)) (by infer_instance) | apply Split.cons (by repeat (first | with_reducible exact Sel.here | with_reducible apply Sel.there))))) (hs := more_c 0 l (by decide) hb hl) (h := ?_)
  rintro v Bs ⟨rfl, rfl⟩
  refine go_ ?_
  exact s_ret1 (rs := [.tmp 2]) Try.func53 rfl (by intro j; refine RVS.tmp _ rfl ?_; exact RVS.nil) (⟨rfl, rfl⟩) (by repeat (first | exact Ent.nil | refine Ent.per (by repeat (first | with_reducible exact Sel.here | with_reducible apply Sel.there)) ?_ | refine Ent.cons (by repeat (first | with_reducible exact Sel.here | with_reducible apply Sel.there)) ?_))
theorem sum_n {A : HP} {a : Option Addr} {n c : Nat} (l : List Nat) (hn : l.length = n) [Rd A 1 (.slice a n c) n (byR l)] (hb : Bys l) (hl : n < 1000000) : Ctr Try.prog 53 [.slice a n c] [A] (fun v Bs => v = .int .u32 (sumB l : Nat) ∧ Bs = [A]) := by
  subst hn; exact sum_c l hb hl
end Go.Proofs.Ytldonbnjefhfdaa
/- drive: Write. -/
namespace Go.Proofs.Ytldonbnjefhfdaa
open Go.Cam
set_option maxRecDepth 100000
def cadd (f : Int → List (List Nat)) (k : Int) (l : List Nat) : Int → List (List Nat) := fun q => if q = k then f q ++ [l] else f q
def Dr.write (σ : Dr) (s : Nat) (l : List Nat) : Dr × Bool := if σ.step.2 then ({ σ.step.1 with cached := cadd σ.cached s l }, true) else (σ.step.1, false)
theorem Dr.step_same (σ : Dr) : σ.step.1.n = σ.n ∧ σ.step.1.sure = σ.sure ∧ σ.step.1.cached = σ.cached ∧ σ.steps ≤ σ.step.1.steps ∧ σ.step.1.steps ≤ σ.steps + 1 ∧ (σ.step.2 = true → σ.step.1.steps = σ.steps + 1) ∧ (-1 ≤ σ.fuse → -1 ≤ σ.step.1.fuse) ∧ σ.step.1.fuse ≤ σ.fuse := by
  unfold Dr.step
  split
  · simp
  · refine ⟨rfl, rfl, rfl, Nat.le_succ _, Nat.le_refl _, fun _ => rfl, fun h => ?_, ?_⟩
    · dsimp only; split <;> omega
    · dsimp only; split <;> omega
theorem DrOk.step {σ : Dr} {x : DrW} (h : DrOk σ x) : DrOk σ.step.1 x := by
  obtain ⟨e1, e2, e3, e4, _, _, e5, e6⟩ := σ.step_same
  exact ⟨by rw [e1]; exact h.n1, by rw [e1]; exact h.n2, h.nd, by rw [e3]; exact h.ne, by rw [e3]; exact h.em, by rw [e1]; exact h.rg, by rw [e1, e2]; exact h.ss, by rw [e3]; exact h.cs, by rw [e3]; exact fun k => Nat.le_trans (h.cl k) e4, e5 h.f1, by have := h.f2; omega⟩
theorem Dr.F_step (σ : Dr) (x : DrW) : σ.step.1.F x = σ.F x := by
  obtain ⟨_, _, e3, _⟩ := σ.step_same
  funext k; unfold Dr.F; rw [e3]
/-- what is cached of one sector -/
theorem s_drT {P : Program} {f : FuncId} {n : Nat} {R : Value → HP} {k : List It} {l : List (Nat × Value)} {As Bs : List HP} {σ : Dr} {x : DrW} (s : Int) (u : Sel (All x.ks (σ.F x)) As Bs) (hx : DrOk σ x)
    (h : ∀ a1 c1, (Dr.mg x s).getD (.slice none 0 0) = .slice a1 (σ.cached s).length c1 → RunS P f n R k l (SO 90 256 (.slice a1 (σ.cached s).length c1) (σ.cached s).length (secR (σ.cached s)) :: All (x.ks.erase s) (σ.F x) :: Bs)) : RunS P f n R k l As := by
  by_cases hk : s ∈ x.ks
  · refine s_take u hk (s_know (a := σ.F x s) .here (fun H M q => SO.val H M q) fun ⟨a1, c1, hv, _⟩ => ?_)
    have := h a1 c1 (by unfold Dr.mg; rw [if_pos hk]; exact hv)
    unfold Dr.F at this ⊢
    rw [hv]; exact this
  · have he : σ.cached s = [] := hx.em s hk
    rw [List.erase_of_not_mem hk, he] at h
    exact s_front u (s_newO (h none 0 (by unfold Dr.mg; rw [if_neg hk]; rfl)))
abbrev DrW.add (x : DrW) (s : Int) (v : Value) : DrW := { x with vs := fun q => if q = s then v else x.vs q, ks := s :: x.ks.erase s }
theorem Dr_mg_add (x : DrW) (s : Int) (v : Value) : mset (Dr.mg x) s (some v) = Dr.mg (x.add s v) := by
  funext k
  unfold mset Dr.mg DrW.add
  dsimp only
  by_cases h : k = s
  · subst h; simp
  · by_cases h2 : k ∈ x.ks
    · simp [h, h2, List.mem_erase_of_ne h]
    · simp [h, h2, List.mem_erase_of_ne h]
theorem DrF_add {σ : Dr} {x : DrW} {f : Int → List (List Nat)} {s : Int} {l : List Nat} {v : Value} (H M : Heap) (q : (SO 90 256 v ((f s).length + 1) (rcat (f s).length (secR (f s)) fun _ => bcl l)).p H M) : (Dr.F { σ with cached := cadd f s l } (x.add s v) s).p H M := by
  unfold Dr.F DrW.add cadd
  simp only [if_true, List.length_append, List.length_singleton]
  refine SO.cg _ (fun i hi => ?_) H M q
  unfold rcat secR
  by_cases h : i < (f s).length
  · simp [h, List.getD_eq_getElem?_getD, List.getElem?_append_left h]
  · have : i = (f s).length := by omega
    subst this; simp
theorem DrF_old {σ σ' : Dr} {x : DrW} {s k : Int} {l : List Nat} {v : Value} (hn : x.ks.Nodup) (hk : k ∈ x.ks.erase s) (H M : Heap) (q : (σ.F x k).p H M) : (Dr.F { σ' with cached := cadd σ.cached s l } (x.add s v) k).p H M := by
  have hne : k ≠ s := fun e => by subst e; exact hn.not_mem_erase hk
  unfold Dr.F DrW.add cadd at *
  simp only [if_neg hne]
  exact q
theorem DrOk.add {σ : Dr} {x : DrW} {s : Nat} {l : List Nat} {v : Value} (hx : DrOk σ x) (hs : s < σ.n) (hl : Sec l) (hok : σ.step.2 = true) : DrOk { σ.step.1 with cached := cadd σ.cached s l } (x.add s v) := by
  obtain ⟨e1, e2, e3, e4, e5, e6, e7, e8⟩ := σ.step_same
  have h2 := hx.step
  refine { n1 := h2.n1, n2 := h2.n2, nd := ?_, ne := ?_, em := ?_, rg := ?_, ss := h2.ss, cs := ?_, cl := ?_, f1 := h2.f1, f2 := h2.f2 }
  · exact List.nodup_cons.2 ⟨hx.nd.not_mem_erase, hx.nd.erase _⟩
  · intro k hk
    show cadd σ.cached s l k ≠ []
    unfold cadd
    split
    · simp
    · rename_i h
      rcases List.mem_cons.1 hk with h3 | h3
      · exact absurd h3 h
      · exact hx.ne k (List.mem_of_mem_erase h3)
  · intro k hk
    show cadd σ.cached s l k = []
    have h1 : k ≠ s := fun e => hk (by rw [e]; exact List.mem_cons_self ..)
    unfold cadd
    rw [if_neg h1]
    exact hx.em k fun h3 => hk (List.mem_cons_of_mem _ ((List.mem_erase_of_ne h1).2 h3))
  · intro k hk
    show 0 ≤ k ∧ k < (σ.step.1.n : Int)
    rw [e1]
    rcases List.mem_cons.1 hk with h3 | h3
    · subst h3; omega
    · exact hx.rg k (List.mem_of_mem_erase h3)
  · intro k t ht
    change t ∈ cadd σ.cached s l k at ht
    unfold cadd at ht
    split at ht
    · rcases List.mem_append.1 ht with h | h
      · exact hx.cs _ _ h
      · rw [List.mem_singleton] at h; rw [h]; exact hl
    · exact hx.cs _ _ ht
  · intro k
    show (cadd σ.cached s l k).length ≤ σ.step.1.steps
    have := hx.cl k
    rw [e6 hok]
    unfold cadd
    split
    · simp; omega
    · omega
set_option maxHeartbeats 4000000 in
theorem dwrite_c (b : Nat) (σ : Dr) (s : Nat) (l : List Nat) {a : Option Addr} {c : Nat} (hs : s < σ.n) (hl : Sec l) (hst : σ.steps < 1000000000) : Ctr Try.prog 29 [.pointer (some ⟨b, 0, none⟩), .int .i64 (s : Int), .slice a 256 c] [DrA b σ, SA none 1 (.slice a 256 c) 256 (byR l)]
    (fun v Bs => v = .int .i64 (if (σ.write s l).2 then 0 else 4) ∧ Bs = [DrA b (σ.write s l).1]) := by
  refine s_enter 38 [(0, _), (1, _), (2, _)] (fun F => [_, _, F]) Try.func29 fun F => ?_
  refine s_opn (by repeat (first | with_reducible exact Sel.here | with_reducible apply Sel.there)) fun x hx => ?_
  unfold Dr.parts
  refine go_ ?_
  refine s_call (sp := (by repeat (first | exact Split.nil | apply Split.perx (by repeat (first | with_reducible exact Sel.here | with_reducible apply Sel.there)) (by infer_instance) | apply Split.cons (by repeat (first | with_reducible exact Sel.here | with_reducible apply Sel.there))))) (hs := is_c b σ x s) (h := ?_)
  rintro v Bs ⟨rfl, rfl⟩
  rw [show decide (0 ≤ (s : Int) ∧ (s : Int) < σ.n) = true from decide_eq_true (by omega)]
  refine go_ ?_
  refine s_call (sp := (by repeat (first | exact Split.nil | apply Split.perx (by repeat (first | with_reducible exact Sel.here | with_reducible apply Sel.there)) (by infer_instance) | apply Split.cons (by repeat (first | with_reducible exact Sel.here | with_reducible apply Sel.there))))) (hs := step_c b σ σ.step.1 σ.step.2 x rfl (by omega) hx.f2) (h := ?_)
  rintro v Bs ⟨rfl, rfl⟩
  obtain ⟨e1, e2, e3, e4, e5, e6, e7, e8⟩ := σ.step_same
  cases hok : σ.step.2 with
  | false =>
    refine go_ ?_
    have ew : σ.write s l = (σ.step.1, false) := by unfold Dr.write; rw [hok]; rfl
    rw [← Dr.F_step, ← e2, ← e1]
    refine s_cls (φ := DrOk σ.step.1) (X := Dr.parts b σ.step.1) x hx.step (by repeat (first | exact Split.nil | apply Split.perx (by repeat (first | with_reducible exact Sel.here | with_reducible apply Sel.there)) (by infer_instance) | apply Split.cons (by repeat (first | with_reducible exact Sel.here | with_reducible apply Sel.there)))) ?_
    rw [ew]
    exact s_ret1 (rs := [.tmp 6]) Try.func29 rfl (by intro j; refine RVS.tmp _ rfl ?_; exact RVS.nil) (⟨rfl, rfl⟩) (by repeat (first | exact Ent.nil | refine Ent.per (by repeat (first | with_reducible exact Sel.here | with_reducible apply Sel.there)) ?_ | refine Ent.cons (by repeat (first | with_reducible exact Sel.here | with_reducible apply Sel.there)) ?_))
  | true =>
    have ew : σ.write s l = ({ σ.step.1 with cached := cadd σ.cached s l }, true) := by unfold Dr.write; rw [hok]; rfl
    rw [ew]
    refine go_ ?_
    refine s_drT (s : Int) (by repeat (first | with_reducible exact Sel.here | with_reducible apply Sel.there)) hx fun a1 c1 hv => ?_
    refine s_front (a := MG x.m (Dr.mg x)) (by repeat (first | with_reducible exact Sel.here | with_reducible apply Sel.there)) ?_
    refine s_front (a := SO 90 256 (.slice a1 (σ.cached s).length c1) (σ.cached s).length (secR (σ.cached s))) (by repeat (first | with_reducible exact Sel.here | with_reducible apply Sel.there)) ?_
    refine s_drawN 1 [.q 0, .q 1, .q 2, .q 3, .q 4, .q 5, .q 6, .q 7, .q 8, .q 9, .q 10, .q 11, .q 12, .q 13, .s 14, .s 15, .r, .s 16] ?_
    refine do_ ?_
    refine d_look rfl (v := .slice a1 (σ.cached s).length c1) (by rw [← hv]; exact lk_lkp (b := false)) ?_
    refine do_ ?_
    refine d_look rfl (lk_lds (a := a) (s := l) (nn := 256) (c := c) (by repeat (first | with_reducible exact SelR.here | with_reducible apply SelR.there)) hl.1 rfl (by decide)) ?_
    refine do_ ?_
    refine d_step rfl (st_bs1 (cells := bcl l) (by simp [hl.1])) ?_
    rintro v Bs ⟨a2, rfl, rfl⟩
    refine do_ ?_
    have hclen := hx.cl s
    refine d_step rfl (st_appO (a := a1) (len := (σ.cached s).length) (cap := c1) (b := a2) (m := 1) (c := 1) (by repeat (first | with_reducible exact Sel.here | with_reducible apply Sel.there)) (by repeat (first | with_reducible exact SelR.here | with_reducible apply SelR.there)) (by rw [flat_one]; exact bcl_one l)) ?_
    rintro v Bs ⟨a3, c3, rfl, rfl⟩
    refine d_rel 1 ?_
    refine d_nrm ?_
    refine d_stepU rfl (st_mu (by repeat (first | with_reducible exact Sel.here | with_reducible apply Sel.there))) ?_
    rintro v Bs rfl
    refine do_ ?_
    refine go_ ?_
    have hrg : (0 : Int) ≤ s ∧ (s : Int) < σ.n := by omega
    rw [← e2, ← e1]
    refine s_front (a := SO 90 256 (.slice a3 ((σ.cached s).length + 1) c3) ((σ.cached s).length + 1) (rcat (σ.cached s).length (secR (σ.cached s)) fun _ => bcl l)) (by repeat (first | with_reducible exact Sel.here | with_reducible apply Sel.there)) ?_
    refine s_open (B := Dr.F { σ.step.1 with cached := cadd σ.cached s l } (x.add s (.slice a3 ((σ.cached s).length + 1) c3)) s) (fun H M q => DrF_add H M q) ?_
    refine s_allc (Dr.F { σ.step.1 with cached := cadd σ.cached s l } (x.add s (.slice a3 ((σ.cached s).length + 1) c3))) (F := σ.F x) (ks := x.ks.erase s) (by repeat (first | with_reducible exact Sel.here | with_reducible apply Sel.there)) (fun k hk H M q => DrF_old hx.nd hk H M q) ?_
    refine s_put (kk := (s : Int)) (ks := x.ks.erase s) (F := Dr.F { σ.step.1 with cached := cadd σ.cached s l } (x.add s (.slice a3 ((σ.cached s).length + 1) c3))) (by repeat (first | with_reducible exact Sel.here | with_reducible apply Sel.there)) (by repeat (first | with_reducible exact Sel.here | with_reducible apply Sel.there)) ?_
    refine s_front (a := MG x.m (mset (Dr.mg x) s (some (.slice a3 ((σ.cached s).length + 1) c3)))) (by repeat (first | with_reducible exact Sel.here | with_reducible apply Sel.there)) ?_
    rw [Dr_mg_add]
    refine s_cls (φ := DrOk { σ.step.1 with cached := cadd σ.cached s l }) (X := Dr.parts b { σ.step.1 with cached := cadd σ.cached s l }) (x.add s (.slice a3 ((σ.cached s).length + 1) c3)) (hx.add hs hl hok) (by repeat (first | exact Split.nil | apply Split.perx (by repeat (first | with_reducible exact Sel.here | with_reducible apply Sel.there)) (by infer_instance) | apply Split.cons (by repeat (first | with_reducible exact Sel.here | with_reducible apply Sel.there)))) ?_
    exact s_ret1 (rs := [.tmp 6]) Try.func29 rfl (by intro j; refine RVS.tmp _ rfl ?_; exact RVS.nil) (⟨rfl, rfl⟩) (by repeat (first | exact Ent.nil | refine Ent.per (by repeat (first | with_reducible exact Sel.here | with_reducible apply Sel.there)) ?_ | refine Ent.cons (by repeat (first | with_reducible exact Sel.here | with_reducible apply Sel.there)) ?_))
end Go.Proofs.Ytldonbnjefhfdaa
/- drive: Flush, Read. -/
namespace Go.Proofs.Ytldonbnjefhfdaa
open Go.Cam
set_option maxRecDepth 100000
def Dr.lastS (σ : Dr) (i : Nat) : List Nat := ((σ.cached i).getLast?).getD (σ.sure i)
def Dr.flush (σ : Dr) : Dr × Bool := if σ.step.2 then ({ σ.step.1 with sure := σ.lastS, cached := fun _ => [] }, true) else (σ.step.1, false)
def Dr.fl (σ : Dr) (S : List Int) (i : Nat) : List Value := bcl (if (i : Int) ∈ S then σ.lastS i else σ.sure i)
theorem Dr.lastS_ne {σ : Dr} {i : Nat} (h : σ.cached i ≠ []) : σ.lastS i = (σ.cached i).getLast h := by unfold Dr.lastS; rw [List.getLast?_eq_some_getLast h]; rfl
theorem DrOk.lastS {σ : Dr} {x : DrW} (h : DrOk σ x) (i : Nat) (hi : i < σ.n) : Sec (σ.lastS i) := by
  by_cases hc : σ.cached i = []
  · unfold Dr.lastS; rw [hc]; exact h.ss i hi
  · rw [Dr.lastS_ne hc]; exact h.cs _ _ (List.getLast_mem hc)
abbrev DrW.none (x : DrW) : DrW := { x with ks := [] }
theorem Dr_mg_none (x : DrW) : Dr.mg x.none = fun _ => none := by funext k; simp [Dr.mg]
theorem DrOk.flush {σ : Dr} {x : DrW} (h : DrOk σ x) : DrOk { σ.step.1 with sure := σ.lastS, cached := fun _ => [] } x.none := by
  have h2 := h.step
  obtain ⟨e1, e2, e3, e4, e5, e6, e7, e8⟩ := σ.step_same
  exact { n1 := h2.n1, n2 := h2.n2, nd := List.nodup_nil, ne := fun k hk => (nomatch hk), em := fun _ _ => rfl, rg := fun k hk => (nomatch hk), ss := fun i hi => h.lastS i (by rw [← e1]; exact hi), cs := fun _ _ h => (nomatch h), cl := fun _ => Nat.zero_le _, f1 := h2.f1, f2 := h2.f2 }
theorem Dr.fl_len {σ : Dr} {x : DrW} (hx : DrOk σ x) {S : List Int} {q : Nat} (hq : q < σ.n) : (σ.fl S q).length = 256 := by
  unfold Dr.fl
  split
  · simp [(hx.lastS q hq).1]
  · simp [(hx.ss q hq).1]
theorem Dr.fl_put {σ : Dr} {x : DrW} (hx : DrOk σ x) {S : List Int} {i q : Nat} (hi : i < σ.n) (hq : q < σ.n) : rput (σ.fl S) i 0 (bcl (σ.lastS i)) q = σ.fl ((i : Int) :: S) q := by
  unfold rput
  by_cases h : q = i
  · subst h
    have h1 := Dr.fl_len hx (S := S) hq
    have h2 := (hx.lastS q hq).1
    rw [if_pos rfl, List.drop_eq_nil_of_le (by simp [h1, h2])]
    simp [Dr.fl]
  · rw [if_neg h]
    have : (q : Int) ≠ i := by omega
    unfold Dr.fl
    simp [List.mem_cons, this]
set_option maxHeartbeats 4000000 in
theorem dflush_c (b : Nat) (σ : Dr) (hst : σ.steps < 1000000000) : Ctr Try.prog 41 [.pointer (some ⟨b, 0, none⟩)] [DrA b σ]
    (fun v Bs => v = .int .i64 (if σ.flush.2 then 0 else 4) ∧ Bs = [DrA b σ.flush.1]) := by
  refine s_enter 37 [(0, _)] (fun F => [_, F]) Try.func41 fun F => ?_
  refine s_opn (by repeat (first | with_reducible exact Sel.here | with_reducible apply Sel.there)) fun x hx => ?_
  unfold Dr.parts
  refine go_ ?_
  refine s_call (sp := (by repeat (first | exact Split.nil | apply Split.perx (by repeat (first | with_reducible exact Sel.here | with_reducible apply Sel.there)) (by infer_instance) | apply Split.cons (by repeat (first | with_reducible exact Sel.here | with_reducible apply Sel.there))))) (hs := step_c b σ σ.step.1 σ.step.2 x rfl (by omega) hx.f2) (h := ?_)
  rintro v Bs ⟨rfl, rfl⟩
  obtain ⟨e1, e2, e3, e4, e5, e6, e7, e8⟩ := σ.step_same
  cases hok : σ.step.2 with
  | false =>
    refine go_ ?_
    have ew : σ.flush = (σ.step.1, false) := by unfold Dr.flush; rw [hok]; rfl
    rw [← Dr.F_step, ← e2, ← e1]
    refine s_cls (φ := DrOk σ.step.1) (X := Dr.parts b σ.step.1) x hx.step (by repeat (first | exact Split.nil | apply Split.perx (by repeat (first | with_reducible exact Sel.here | with_reducible apply Sel.there)) (by infer_instance) | apply Split.cons (by repeat (first | with_reducible exact Sel.here | with_reducible apply Sel.there)))) ?_
    rw [ew]
    exact s_ret1 (rs := [.tmp 2]) Try.func41 rfl (by intro j; refine RVS.tmp _ rfl ?_; exact RVS.nil) (⟨rfl, rfl⟩) (by repeat (first | exact Ent.nil | refine Ent.per (by repeat (first | with_reducible exact Sel.here | with_reducible apply Sel.there)) ?_ | refine Ent.cons (by repeat (first | with_reducible exact Sel.here | with_reducible apply Sel.there)) ?_))
  | true =>
    have ew : σ.flush = ({ σ.step.1 with sure := σ.lastS, cached := fun _ => [] }, true) := by unfold Dr.flush; rw [hok]; rfl
    rw [ew, ← e1]
    refine go_ ?_
    refine s_step (st_rng (r := x.m) (by repeat (first | with_reducible exact Sel.here | with_reducible apply Sel.there))) ?_
    rintro _ _ ⟨ri, m0, rfl, rfl⟩
    refine go_ ?_
    refine s_open (B := MIt ri x.m (Dr.mg x) [] m0) (fun _ _ q => q) ?_
    refine s_front (a := SA (some 90) 256 (.slice x.a σ.step.1.n x.c) σ.step.1.n (fun i => bcl (σ.sure i))) (by repeat (first | with_reducible exact Sel.here | with_reducible apply Sel.there)) (s_open (B := SA (some 90) 256 (.slice x.a σ.step.1.n x.c) σ.step.1.n (σ.fl [])) (fun _ _ q => q) ?_)
    refine s_loop (fun _ : List Int × Nat => [(0, .pointer (some ⟨b, 0, none⟩)), (15, .pointer (some ⟨ri, 0, none⟩))]) (fun q => [MIt ri x.m (Dr.mg x) q.1 q.2, Dr.box b σ.step.1 x, SA (some 90) 256 (.slice x.a σ.step.1.n x.c) σ.step.1.n (σ.fl q.1), All x.ks (σ.F x), F]) (fun q => True) (fun q => q.2) ([], m0) trivial (by repeat (first | exact Ent.nil | refine Ent.per (by repeat (first | with_reducible exact Sel.here | with_reducible apply Sel.there)) ?_ | refine Ent.cons (by repeat (first | with_reducible exact Sel.here | with_reducible apply Sel.there)) ?_)) ?_
    rintro ⟨S, m⟩ _ next
    dsimp only at next ⊢
    refine go_ ?_
    refine s_next (by repeat (first | with_reducible exact Sel.here | with_reducible apply Sel.there)) (fun hall => ?_) (fun kk v m' hm hkS hg => ?_)
    · refine go_ ?_
      refine s_front (a := MIt ri x.m (Dr.mg x) S m) (by repeat (first | with_reducible exact Sel.here | with_reducible apply Sel.there)) (s_open MIt.out ?_)
      refine s_stepU (st_clm (r := x.m) (by repeat (first | with_reducible exact Sel.here | with_reducible apply Sel.there))) ?_
      rintro _ _ rfl
      refine go_ ?_
      let σ' : Dr := { σ.step.1 with sure := σ.lastS, cached := fun _ => [] }
      have hσ : σ' = { σ.step.1 with sure := σ.lastS, cached := fun _ => [] } := rfl
      refine s_open (B := MG x.m (Dr.mg x.none)) (fun _ _ q => by rw [Dr_mg_none]; exact q) ?_
      refine s_front (a := SA (some 90) 256 (.slice x.a σ.step.1.n x.c) σ.step.1.n (σ.fl S)) (by repeat (first | with_reducible exact Sel.here | with_reducible apply Sel.there)) (s_open (SA.cg (fun i => bcl (σ.lastS i)) fun i hi => ?_) ?_)
      · unfold Dr.fl
        by_cases hi : (i : Int) ∈ S
        · rw [if_pos hi]
        · rw [if_neg hi]
          have : (i : Int) ∉ x.ks := fun h => hi (hall i (x.vs i) (by unfold Dr.mg; rw [if_pos h]))
          unfold Dr.lastS; rw [hx.em _ this]; rfl
      refine s_all0 (F := Dr.F { σ.step.1 with sure := σ.lastS, cached := fun _ => [] } x.none) ?_
      refine s_cls (φ := DrOk { σ.step.1 with sure := σ.lastS, cached := fun _ => [] }) (X := Dr.parts b { σ.step.1 with sure := σ.lastS, cached := fun _ => [] }) x.none hx.flush (by repeat (first | exact Split.nil | apply Split.perx (by repeat (first | with_reducible exact Sel.here | with_reducible apply Sel.there)) (by infer_instance) | apply Split.cons (by repeat (first | with_reducible exact Sel.here | with_reducible apply Sel.there)))) ?_
      exact s_ret1 (rs := [.tmp 2]) Try.func41 rfl (by intro j; refine RVS.tmp _ rfl ?_; exact RVS.nil) (⟨rfl, rfl⟩) (by repeat (first | exact Ent.nil | refine Ent.per (by repeat (first | with_reducible exact Sel.here | with_reducible apply Sel.there)) ?_ | refine Ent.cons (by repeat (first | with_reducible exact Sel.here | with_reducible apply Sel.there)) ?_))
    · refine go_ ?_
      refine s_look (lk_entry hg) ?_
      refine go_ ?_
      have hk : kk ∈ x.ks := by
        unfold Dr.mg at hg
        split at hg
        · assumption
        · cases hg
      have hv : v = x.vs kk := by unfold Dr.mg at hg; rw [if_pos hk] at hg; exact (Option.some.inj hg).symm
      obtain ⟨i, rfl⟩ : ∃ i : Nat, kk = (i : Int) := ⟨kk.toNat, by have := (hx.rg kk hk).1; omega⟩
      have hi : i < σ.n := by have := (hx.rg _ hk).2; omega
      have hne := hx.ne _ hk
      have hclen := hx.cl i
      have hlen : 0 < (σ.cached i).length := List.length_pos_iff.2 hne
      have hlast : secR (σ.cached i) ((σ.cached i).length - 1) = bcl (σ.lastS i) := by
        unfold secR
        rw [Dr.lastS_ne hne, List.getLast_eq_getElem]
        congr 1
        rw [List.getD_eq_getElem?_getD, List.getElem?_eq_getElem (by omega)]; rfl
      refine s_take (kk := (i : Int)) (ks := x.ks) (F := σ.F x) (by repeat (first | with_reducible exact Sel.here | with_reducible apply Sel.there)) hk (s_know (a := σ.F x i) .here (fun H M q => SO.val H M q) fun ⟨a1, c1, hv2, _⟩ => ?_)
      rw [hv2] at hv
      subst hv
      refine s_open (B := SO 90 256 (.slice a1 (σ.cached i).length c1) (σ.cached i).length (secR (σ.cached i))) (fun _ _ q => by unfold Dr.F at q; rw [hv2] at q; exact q) ?_
      refine s_front (a := SA (some 90) 256 (.slice x.a σ.step.1.n x.c) σ.step.1.n (σ.fl S)) (by repeat (first | with_reducible exact Sel.here | with_reducible apply Sel.there)) ?_
      refine s_drawN 0 [.q 0, .q 1, .q 2, .q 3, .q 4, .q 5, .q 6, .q 7, .q 8, .q 9, .q 10, .q 11, .r, .s 12] ?_
      refine do_ ?_
      refine d_look rfl (lk_ixz ((σ.cached i).length - 1) (m := (σ.cached i).length) (v := .slice a1 (σ.cached i).length c1) (by repeat (first | with_reducible exact SelR.here | with_reducible apply SelR.there))) ?_
      refine do_ ?_
      refine d_look rfl (lk_lde1 (i := (σ.cached i).length - 1) (m := (σ.cached i).length) (v := .slice a1 (σ.cached i).length c1) (by repeat (first | with_reducible exact SelR.here | with_reducible apply SelR.there))) ?_
      refine do_ ?_
      rw [hlast]
      refine d_rel 1 ?_
      refine d_nrm ?_
      refine d_stepU rfl (st_ste (i := i) (fo := 0) (vs := bcl (σ.lastS i)) (m' := 256) (by repeat (first | with_reducible exact Sel.here | with_reducible apply Sel.there)) (hn := by simp [(hx.lastS i hi).1])) ?_
      rintro v Bs rfl
      refine do_ ?_
      refine go_ ?_
      refine s_open (SA.cg (σ.fl ((i : Int) :: S)) fun q hq => Dr.fl_put hx (by omega) (by omega)) ?_
      refine s_front (a := SO 90 256 (.slice a1 (σ.cached i).length c1) (σ.cached i).length (secR (σ.cached i))) (by repeat (first | with_reducible exact Sel.here | with_reducible apply Sel.there)) ?_
      refine s_open (B := σ.F x i) (fun _ _ q => by unfold Dr.F; rw [hv2]; exact q) ?_
      refine s_put (kk := (i : Int)) (ks := x.ks.erase i) (F := σ.F x) (by repeat (first | with_reducible exact Sel.here | with_reducible apply Sel.there)) (by repeat (first | with_reducible exact Sel.here | with_reducible apply Sel.there)) ?_
      refine s_allp (ks := (i : Int) :: x.ks.erase i) (F := σ.F x) (by repeat (first | with_reducible exact Sel.here | with_reducible apply Sel.there)) (List.perm_cons_erase hk).symm ?_
      exact s_entF (by repeat (first | exact Ent.nil | refine Ent.per (by repeat (first | with_reducible exact Sel.here | with_reducible apply Sel.there)) ?_ | refine Ent.cons (by repeat (first | with_reducible exact Sel.here | with_reducible apply Sel.there)) ?_)) (s_keep _ (next ((i : Int) :: S, m') trivial (by dsimp only; omega)))
end Go.Proofs.Ytldonbnjefhfdaa
/- drive: Read. -/
namespace Go.Proofs.Ytldonbnjefhfdaa
open Go.Cam
set_option maxRecDepth 100000
theorem s_drB {P : Program} {f : FuncId} {n : Nat} {R : Value → HP} {k : List It} {l : List (Nat × Value)} {As Bs Cs : List HP} {σ : Dr} {x : DrW} {s : Int} {a1 : Option Addr} {c1 : Nat} (hv : (Dr.mg x s).getD (.slice none 0 0) = .slice a1 (σ.cached s).length c1)
    (u : Sel (SO 90 256 (.slice a1 (σ.cached s).length c1) (σ.cached s).length (secR (σ.cached s))) As Bs) (u2 : Sel (All (x.ks.erase s) (σ.F x)) Bs Cs) (h : RunS P f n R k l (All x.ks (σ.F x) :: Cs)) : RunS P f n R k l As := by
  by_cases hk : s ∈ x.ks
  · have hv2 : x.vs s = .slice a1 (σ.cached s).length c1 := by unfold Dr.mg at hv; rw [if_pos hk] at hv; exact hv
    refine s_front u (s_open (B := σ.F x s) (fun _ _ q => by unfold Dr.F; rw [hv2]; exact q) (s_put (kk := s) (ks := x.ks.erase s) (F := σ.F x) (.there u2) .here (s_allp (ks := s :: x.ks.erase s) .here (List.perm_cons_erase hk).symm h)))
  · rw [List.erase_of_not_mem hk] at u2
    exact s_front u (s_imp (Bs := Bs) (fun H M q => star_snd q) (s_front u2 h))
set_option maxHeartbeats 4000000 in
theorem dread_c (b : Nat) (σ : Dr) (s : Nat) (hs : s < σ.n) (hst : σ.steps < 1000000000) : Ctr Try.prog 31 [.pointer (some ⟨b, 0, none⟩), .int .i64 (s : Int)] [DrA b σ]
    (fun v Bs => (σ.off = true ∧ v = .tuple #[.slice none 0 0, .int .i64 4] ∧ Bs = [DrA b σ]) ∨
      (σ.off = false ∧ ∃ r, v = .tuple #[.slice (some ⟨r, 0, none⟩) 256 256, .int .i64 0] ∧ Bs = [DrA b σ, SA none 1 (.slice (some ⟨r, 0, none⟩) 256 256) 256 (byR (σ.lastS s))])) := by
  refine s_enter 41 [(0, _), (1, _)] (fun F => [_, F]) Try.func31 fun F => ?_
  refine s_opn (by repeat (first | with_reducible exact Sel.here | with_reducible apply Sel.there)) fun x hx => ?_
  unfold Dr.parts
  refine go_ ?_
  refine s_cond σ.off (fun ho => ?_) (fun ho => ?_)
  · refine go_ ?_
    refine s_cls (φ := DrOk σ) (X := Dr.parts b σ) x hx (by repeat (first | exact Split.nil | apply Split.perx (by repeat (first | with_reducible exact Sel.here | with_reducible apply Sel.there)) (by infer_instance) | apply Split.cons (by repeat (first | with_reducible exact Sel.here | with_reducible apply Sel.there)))) ?_
    exact s_rett (rs := [.tmp 4, .tmp 5]) (vs := [_, _]) Try.func31 rfl (by intro j; refine RVS.tmp _ rfl ?_; refine RVS.tmp _ rfl ?_; exact RVS.nil) rfl (.inl ⟨ho, rfl, rfl⟩) (by repeat (first | exact Ent.nil | refine Ent.per (by repeat (first | with_reducible exact Sel.here | with_reducible apply Sel.there)) ?_ | refine Ent.cons (by repeat (first | with_reducible exact Sel.here | with_reducible apply Sel.there)) ?_))
  · refine go_ ?_
    refine s_call (sp := (by repeat (first | exact Split.nil | apply Split.perx (by repeat (first | with_reducible exact Sel.here | with_reducible apply Sel.there)) (by infer_instance) | apply Split.cons (by repeat (first | with_reducible exact Sel.here | with_reducible apply Sel.there))))) (hs := is_c b σ x s) (h := ?_)
    rintro v Bs ⟨rfl, rfl⟩
    rw [show decide (0 ≤ (s : Int) ∧ (s : Int) < σ.n) = true from decide_eq_true (by omega)]
    refine go_ ?_
    refine s_look (lk_lde1 (i := s) (m := σ.n) (v := .slice x.a σ.n x.c) (by repeat (first | with_reducible exact SelR.here | with_reducible apply SelR.there))) ?_
    refine s_step st_alB ?_
    rintro _ _ ⟨r6, rfl, rfl⟩
    refine s_stepU (st_stB (b := r6) (c := List.replicate 256 0) (c' := σ.sure s) (by simp) (hx.ss s hs).1) ?_
    rintro _ _ rfl
    refine go_ ?_
    refine s_drT (s : Int) (by repeat (first | with_reducible exact Sel.here | with_reducible apply Sel.there)) hx fun a1 c1 hv => ?_
    refine s_look (v := .slice a1 (σ.cached s).length c1) (by rw [← hv]; exact lk_lkp (b := false)) ?_
    refine go_ ?_
    have hls := (hx.lastS s hs).1
    have hclen := hx.cl s
    refine s_if (fun h => ?_) (fun h => ?_)
    · have hne : σ.cached s ≠ [] := fun e => by rw [e] at h; simp at h
      have hlast : secR (σ.cached s) ((σ.cached s).length - 1) = bcl (σ.lastS s) := by
        unfold secR
        rw [Dr.lastS_ne hne, List.getLast_eq_getElem]
        congr 1
        rw [List.getD_eq_getElem?_getD, List.getElem?_eq_getElem (by omega)]; rfl
      refine go_ ?_
      refine s_look (lk_ixz ((σ.cached s).length - 1) (m := (σ.cached s).length) (v := .slice a1 (σ.cached s).length c1) (by repeat (first | with_reducible exact SelR.here | with_reducible apply SelR.there))) ?_
      refine s_look (lk_lde1 (i := (σ.cached s).length - 1) (m := (σ.cached s).length) (v := .slice a1 (σ.cached s).length c1) (by repeat (first | with_reducible exact SelR.here | with_reducible apply SelR.there))) ?_
      rw [hlast]
      refine s_stepU (st_stB (b := r6) (c := σ.sure s) (c' := σ.lastS s) (hx.ss s hs).1 hls) ?_
      rintro _ _ rfl
      refine go_ ?_
      refine s_drB hv (by repeat (first | with_reducible exact Sel.here | with_reducible apply Sel.there)) (by repeat (first | with_reducible exact Sel.here | with_reducible apply Sel.there)) ?_
      refine s_fzB (r := r6) (ty := 90) (x := σ.lastS s) 0 256 256 (by repeat (first | with_reducible exact Sel.here | with_reducible apply Sel.there)) (by omega) (by rw [hls]; decide) (by omega) ?_
      rw [List.drop_zero, List.take_of_length_le (by rw [hls]; decide)]
      refine s_open (B := SA none 1 (.slice (some ⟨r6, 0, none⟩) 256 256) 256 (byR (σ.lastS s))) (fun _ _ q => by unfold BS at q; rw [hls] at q; exact q) ?_
      refine s_cls (φ := DrOk σ) (X := Dr.parts b σ) x hx (by repeat (first | exact Split.nil | apply Split.perx (by repeat (first | with_reducible exact Sel.here | with_reducible apply Sel.there)) (by infer_instance) | apply Split.cons (by repeat (first | with_reducible exact Sel.here | with_reducible apply Sel.there)))) ?_
      exact s_rett (rs := [.tmp 4, .tmp 5]) (vs := [_, _]) Try.func31 rfl (by intro j; refine RVS.tmp _ rfl ?_; refine RVS.tmp _ rfl ?_; exact RVS.nil) rfl (.inr ⟨ho, r6, rfl, rfl⟩) (by repeat (first | exact Ent.nil | refine Ent.per (by repeat (first | with_reducible exact Sel.here | with_reducible apply Sel.there)) ?_ | refine Ent.cons (by repeat (first | with_reducible exact Sel.here | with_reducible apply Sel.there)) ?_))
    · have he : σ.cached s = [] := List.eq_nil_of_length_eq_zero (by omega)
      have hle : σ.lastS s = σ.sure s := by unfold Dr.lastS; rw [he]; rfl
      rw [← hle]
      refine go_ ?_
      refine s_drB hv (by repeat (first | with_reducible exact Sel.here | with_reducible apply Sel.there)) (by repeat (first | with_reducible exact Sel.here | with_reducible apply Sel.there)) ?_
      refine s_fzB (r := r6) (ty := 90) (x := σ.lastS s) 0 256 256 (by repeat (first | with_reducible exact Sel.here | with_reducible apply Sel.there)) (by omega) (by rw [hls]; decide) (by omega) ?_
      rw [List.drop_zero, List.take_of_length_le (by rw [hls]; decide)]
      refine s_open (B := SA none 1 (.slice (some ⟨r6, 0, none⟩) 256 256) 256 (byR (σ.lastS s))) (fun _ _ q => by unfold BS at q; rw [hls] at q; exact q) ?_
      refine s_cls (φ := DrOk σ) (X := Dr.parts b σ) x hx (by repeat (first | exact Split.nil | apply Split.perx (by repeat (first | with_reducible exact Sel.here | with_reducible apply Sel.there)) (by infer_instance) | apply Split.cons (by repeat (first | with_reducible exact Sel.here | with_reducible apply Sel.there)))) ?_
      exact s_rett (rs := [.tmp 4, .tmp 5]) (vs := [_, _]) Try.func31 rfl (by intro j; refine RVS.tmp _ rfl ?_; refine RVS.tmp _ rfl ?_; exact RVS.nil) rfl (.inr ⟨ho, r6, rfl, rfl⟩) (by repeat (first | exact Ent.nil | refine Ent.per (by repeat (first | with_reducible exact Sel.here | with_reducible apply Sel.there)) ?_ | refine Ent.cons (by repeat (first | with_reducible exact Sel.here | with_reducible apply Sel.there)) ?_))
end Go.Proofs.Ytldonbnjefhfdaa
