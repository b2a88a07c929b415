/- Small ones of the pool's laws: kind, most, Areas, Super, Free, Unref, Steps, Cached. -/
import Derived.Test.YtldonbnjefhfdaaCrsAF
import Derived.Test.YtldonbnjefhfdaaCrsBA
import Derived.Test.YtldonbnjefhfdaaCamAR
import Derived.Test.YtldonbnjefhfdaaCrsW
namespace Go.Proofs.Ytldonbnjefhfdaa
open Go.Cam
set_option maxRecDepth 100000
/-- which of so many kinds -/
def kindI (c : Int) (n : Nat) : Nat := (if c < 0 then -(c + 1) else c).toNat % n
theorem kindI_lt (c : Int) {n : Nat} (h : 0 < n) : kindI c n < n := Nat.mod_lt _ h
theorem kind_c (c : Int) (n : Nat) (hc : -9223372036854775808 ≤ c ∧ c ≤ 9223372036854775807) (hn : 0 < n) (hn2 : n < 1000000) : Ctr Try.prog 6 [.int .i64 c, .int .i64 n] [] (fun v Bs => v = .int .i64 (kindI c n : Nat) ∧ Bs = []) := by
  unfold kindI
  refine s_enter 13 [(0, _), (1, _)] (fun F => [F]) Try.func6 fun F => ?_
  refine go_ ?_
  refine s_if (fun h => ?_) (fun h => ?_)
  · rw [if_pos h]
    refine go_ ?_
    rw [wrap_id (x := 0 - (c + 1)) (by omega) (by omega)]
    refine s_look (lk_rem (q := (n : Int)) (by omega)) ?_
    rw [show (0 - (c + 1)).tmod (n : Int) = (((-(c + 1)).toNat % n : Nat) : Int) by rw [Int.tmod_eq_emod_of_nonneg (by omega), Int.natCast_emod, Int.toNat_of_nonneg (by omega)]; congr 1; omega]
    refine go_ ?_
    exact s_ret1 (rs := [.tmp 4]) Try.func6 rfl (by intro j; refine RVS.tmp _ rfl ?_; exact RVS.nil) (⟨rfl, rfl⟩) (by repeat (first | exact Ent.nil | refine Ent.per (by repeat (first | with_reducible exact Sel.here | with_reducible apply Sel.there)) ?_ | refine Ent.cons (by repeat (first | with_reducible exact Sel.here | with_reducible apply Sel.there)) ?_))
  · rw [if_neg h]
    refine go_ ?_
    refine s_look (lk_rem (q := (n : Int)) (by omega)) ?_
    rw [show c.tmod (n : Int) = ((c.toNat % n : Nat) : Int) by rw [Int.tmod_eq_emod_of_nonneg (by omega), Int.natCast_emod, Int.toNat_of_nonneg (by omega)]]
    refine go_ ?_
    exact s_ret1 (rs := [.tmp 4]) Try.func6 rfl (by intro j; refine RVS.tmp _ rfl ?_; exact RVS.nil) (⟨rfl, rfl⟩) (by repeat (first | exact Ent.nil | refine Ent.per (by repeat (first | with_reducible exact Sel.here | with_reducible apply Sel.there)) ?_ | refine Ent.cons (by repeat (first | with_reducible exact Sel.here | with_reducible apply Sel.there)) ?_))
theorem most_c (k : Int) : Ctr Try.prog 22 [.int .i64 k] [] (fun v Bs => v = .tuple #[.int .i64 (if k = 5 then 128 else if k = 6 then 236 else 0), .bool (decide (k = 5 ∨ k = 6))] ∧ Bs = []) := by
  refine s_enter 9 [(0, _)] (fun F => [F]) Try.func22 fun F => ?_
  refine go_ ?_
  refine s_ieq (fun h => ?_) (fun h => ?_)
  · rw [if_pos h, decide_eq_true (p := k = 5 ∨ k = 6) (.inl h)]
    refine go_ ?_
    exact s_rett (rs := [.tmp 2, .tmp 3]) (vs := [_, _]) Try.func22 rfl (by intro j; refine RVS.tmp _ rfl ?_; refine RVS.tmp _ rfl ?_; exact RVS.nil) rfl (⟨rfl, rfl⟩) (by repeat (first | exact Ent.nil | refine Ent.per (by repeat (first | with_reducible exact Sel.here | with_reducible apply Sel.there)) ?_ | refine Ent.cons (by repeat (first | with_reducible exact Sel.here | with_reducible apply Sel.there)) ?_))
  · rw [if_neg h]
    refine go_ ?_
    refine s_ieq (fun h2 => ?_) (fun h2 => ?_)
    · rw [if_pos h2, decide_eq_true (p := k = 5 ∨ k = 6) (.inr h2)]
      refine go_ ?_
      exact s_rett (rs := [.tmp 2, .tmp 3]) (vs := [_, _]) Try.func22 rfl (by intro j; refine RVS.tmp _ rfl ?_; refine RVS.tmp _ rfl ?_; exact RVS.nil) rfl (⟨rfl, rfl⟩) (by repeat (first | exact Ent.nil | refine Ent.per (by repeat (first | with_reducible exact Sel.here | with_reducible apply Sel.there)) ?_ | refine Ent.cons (by repeat (first | with_reducible exact Sel.here | with_reducible apply Sel.there)) ?_))
    · rw [if_neg h2, decide_eq_false (p := k = 5 ∨ k = 6) (by omega)]
      refine go_ ?_
      exact s_rett (rs := [.tmp 2, .tmp 3]) (vs := [_, _]) Try.func22 rfl (by intro j; refine RVS.tmp _ rfl ?_; refine RVS.tmp _ rfl ?_; exact RVS.nil) rfl (⟨rfl, rfl⟩) (by repeat (first | exact Ent.nil | refine Ent.per (by repeat (first | with_reducible exact Sel.here | with_reducible apply Sel.there)) ?_ | refine Ent.cons (by repeat (first | with_reducible exact Sel.here | with_reducible apply Sel.there)) ?_))
theorem psuper_c (p b g n bc m : Nat) : Ctr Try.prog 13 [.pointer (some ⟨p, 0, none⟩)] [PoB p b g n bc m] (fun v Bs => v = .agg (supL g n).toArray ∧ Bs = [PoB p b g n bc m]) := by
  refine s_enter 7 [(0, _)] (fun F => [_, F]) Try.func13 fun F => ?_
  refine go_ ?_
  refine s_alloc fun r2 => ?_
  refine go_ ?_
  exact s_ret1 (rs := [.cell 2 47]) Try.func13 rfl (by intro j; refine RVS.cell _ _ rfl (by repeat (first | with_reducible exact Sel.here | with_reducible apply Sel.there)) (by rfl) ?_; exact RVS.nil) (⟨rfl, rfl⟩) (by repeat (first | exact Ent.nil | refine Ent.per (by repeat (first | with_reducible exact Sel.here | with_reducible apply Sel.there)) ?_ | refine Ent.cons (by repeat (first | with_reducible exact Sel.here | with_reducible apply Sel.there)) ?_))
/-- how many sectors are free -/
def Ct.freeN (σ : Ct) : Nat → Nat → Nat
  | 0, _ => 0
  | m + 1, i => (if σ.now i = 0 ∧ σ.done i = 0 then 1 else 0) + σ.freeN m (i + 1)
theorem cfreeN_c (b : Nat) (σ : Ct) (h1 : 32 ≤ σ.n) (h2 : σ.n ≤ 2048) : Ctr Try.prog 39 [.pointer (some ⟨b, 0, none⟩)] [CtA b σ] (fun v Bs => v = .int .i64 (σ.freeN (σ.n - firstN σ.n) (firstN σ.n) : Nat) ∧ Bs = [CtA b σ]) := by
  have hf := firstN_lt h1 h2
  refine s_enter 24 [(0, _)] (fun F => [_, F]) Try.func39 fun F => ?_
  refine go_ ?_
  refine s_opn (φ := CtOk σ) (X := Ct.parts b σ) (by repeat (first | with_reducible exact Sel.here | with_reducible apply Sel.there)) fun x hx => ?_
  unfold Ct.parts
  refine s_nrm ?_
  refine go_ ?_
  refine s_cls (φ := CtOk σ) (X := Ct.parts b σ) x hx (by repeat (first | exact Split.nil | apply Split.perx (by repeat (first | with_reducible exact Sel.here | with_reducible apply Sel.there)) (by infer_instance) | apply Split.cons (by repeat (first | with_reducible exact Sel.here | with_reducible apply Sel.there)))) ?_
  refine s_loop (fun q : Nat × Nat => [(0, .pointer (some ⟨b, 0, none⟩)), (3, .int .i64 q.2), (4, .int .i64 q.1)]) (fun _ => [CtA b σ, F]) (fun q => q.1 ≤ σ.n ∧ q.2 + σ.freeN (σ.n - q.1) q.1 = σ.freeN (σ.n - firstN σ.n) (firstN σ.n) ∧ q.2 ≤ q.1) (fun q => σ.n - q.1) (firstN σ.n, 0) ⟨by dsimp only; omega, by simp, Nat.zero_le _⟩ (by repeat (first | exact Ent.nil | refine Ent.per (by repeat (first | with_reducible exact Sel.here | with_reducible apply Sel.there)) ?_ | refine Ent.cons (by repeat (first | with_reducible exact Sel.here | with_reducible apply Sel.there)) ?_)) ?_
  rintro ⟨i, t⟩ ⟨hi, ht, hti⟩ next
  dsimp only at hi ht hti next ⊢
  refine go_ ?_
  refine s_opn (φ := CtOk σ) (X := Ct.parts b σ) (by repeat (first | with_reducible exact Sel.here | with_reducible apply Sel.there)) fun x hx => ?_
  unfold Ct.parts
  refine s_nrm ?_
  refine go_ ?_
  refine s_cls (φ := CtOk σ) (X := Ct.parts b σ) x hx (by repeat (first | exact Split.nil | apply Split.perx (by repeat (first | with_reducible exact Sel.here | with_reducible apply Sel.there)) (by infer_instance) | apply Split.cons (by repeat (first | with_reducible exact Sel.here | with_reducible apply Sel.there)))) ?_
  refine s_if (fun h => ?_) (fun h => ?_)
  · have hi2 : i < σ.n := by omega
    obtain ⟨m, hm⟩ : ∃ m, σ.n - i = m + 1 := ⟨σ.n - i - 1, by omega⟩
    rw [hm, Ct.freeN] at ht
    refine go_ ?_
    refine s_call (sp := (by repeat (first | exact Split.nil | apply Split.perx (by repeat (first | with_reducible exact Sel.here | with_reducible apply Sel.there)) (by infer_instance) | apply Split.cons (by repeat (first | with_reducible exact Sel.here | with_reducible apply Sel.there))))) (hs := cfree_c b σ i hi2) (h := ?_)
    rintro v Bs ⟨rfl, rfl⟩
    cases hd : decide (σ.now i = 0 ∧ σ.done i = 0) with
    | true =>
      rw [if_pos (of_decide_eq_true hd)] at ht
      refine go_ ?_
      exact s_entF (by repeat (first | exact Ent.nil | refine Ent.per (by repeat (first | with_reducible exact Sel.here | with_reducible apply Sel.there)) ?_ | refine Ent.cons (by repeat (first | with_reducible exact Sel.here | with_reducible apply Sel.there)) ?_)) (s_keep _ (next (i + 1, t + 1) ⟨by dsimp only; omega, by dsimp only; rw [show σ.n - (i + 1) = m by omega]; omega, by dsimp only; omega⟩ (by dsimp only; omega)))
    | false =>
      rw [if_neg (of_decide_eq_false hd)] at ht
      refine go_ ?_
      exact s_entF (by repeat (first | exact Ent.nil | refine Ent.per (by repeat (first | with_reducible exact Sel.here | with_reducible apply Sel.there)) ?_ | refine Ent.cons (by repeat (first | with_reducible exact Sel.here | with_reducible apply Sel.there)) ?_)) (s_keep _ (next (i + 1, t) ⟨by dsimp only; omega, by dsimp only; rw [show σ.n - (i + 1) = m by omega]; omega, by dsimp only; omega⟩ (by dsimp only; omega)))
  · rw [show σ.n - i = 0 by omega, Ct.freeN] at ht
    have : t = σ.freeN (σ.n - firstN σ.n) (firstN σ.n) := by omega
    subst this
    refine go_ ?_
    exact s_ret1 (rs := [.tmp 2]) Try.func39 rfl (by intro j; refine RVS.tmp _ rfl ?_; exact RVS.nil) (⟨rfl, rfl⟩) (by repeat (first | exact Ent.nil | refine Ent.per (by repeat (first | with_reducible exact Sel.here | with_reducible apply Sel.there)) ?_ | refine Ent.cons (by repeat (first | with_reducible exact Sel.here | with_reducible apply Sel.there)) ?_))
theorem pfree_c (p b g n bc m : Nat) (σ : Ct) (h1 : 32 ≤ σ.n) (h2 : σ.n ≤ 2048) : Ctr Try.prog 16 [.pointer (some ⟨p, 0, none⟩)] [PoB p b g n bc m, CtA bc σ] (fun v Bs => v = .int .i64 (σ.freeN (σ.n - firstN σ.n) (firstN σ.n) : Nat) ∧ Bs = [PoB p b g n bc m, CtA bc σ]) := by
  refine s_enter 8 [(0, _)] (fun F => [_, _, F]) Try.func16 fun F => ?_
  refine go_ ?_
  refine s_call (sp := (by repeat (first | exact Split.nil | apply Split.perx (by repeat (first | with_reducible exact Sel.here | with_reducible apply Sel.there)) (by infer_instance) | apply Split.cons (by repeat (first | with_reducible exact Sel.here | with_reducible apply Sel.there))))) (hs := cfreeN_c bc σ h1 h2) (h := ?_)
  rintro v Bs ⟨rfl, rfl⟩
  refine go_ ?_
  exact s_ret1 (rs := [.tmp 2]) Try.func16 rfl (by intro j; refine RVS.tmp _ rfl ?_; exact RVS.nil) (⟨rfl, rfl⟩) (by repeat (first | exact Ent.nil | refine Ent.per (by repeat (first | with_reducible exact Sel.here | with_reducible apply Sel.there)) ?_ | refine Ent.cons (by repeat (first | with_reducible exact Sel.here | with_reducible apply Sel.there)) ?_))
theorem cunref_c (b : Nat) (σ : Ct) (k : Nat) (hk : k < σ.n) (h0 : σ.now k ≠ 0) : Ctr Try.prog 40 [.pointer (some ⟨b, 0, none⟩), .int .i64 k] [CtA b σ] (fun v Bs => v = .tuple #[.int .i64 (σ.now k - 1 : Nat), .int .i64 0] ∧ Bs = [CtA b { σ with now := nset σ.now k (σ.now k - 1) }]) := by
  refine s_enter 26 [(0, _), (1, _)] (fun F => [_, F]) Try.func40 fun F => ?_
  refine go_ ?_
  refine s_call (sp := (by repeat (first | exact Split.nil | apply Split.perx (by repeat (first | with_reducible exact Sel.here | with_reducible apply Sel.there)) (by infer_instance) | apply Split.cons (by repeat (first | with_reducible exact Sel.here | with_reducible apply Sel.there))))) (hs := cget_c b σ k) (h := ?_)
  rintro v Bs ⟨rfl, rfl⟩
  rw [if_pos ⟨by omega, by omega⟩, Int.toNat_natCast]
  refine go_ ?_
  refine s_ieq (p := ((σ.now k : Nat) : Int)) (q := 0) (fun h => absurd h (by omega)) (fun h => ?_)
  refine go_ ?_
  refine s_opn (φ := CtOk σ) (X := Ct.parts b σ) (by repeat (first | with_reducible exact Sel.here | with_reducible apply Sel.there)) fun x hx => ?_
  unfold Ct.parts
  refine s_nrm ?_
  have hw := hx.w k
  refine go_ ?_
  rw [show ((σ.now k : Nat) : Int) - 1 = ((σ.now k - 1 : Nat) : Int) by omega]
  refine s_stepU (st_ste (i := k) (fo := 0) (m' := 1) (vs := [.int .i64 (σ.now k - 1 : Nat)]) (v := .slice x.a σ.n x.c) (by repeat (first | with_reducible exact Sel.here | with_reducible apply Sel.there))) ?_
  rintro _ _ rfl
  refine s_open (SA.cg (intR (nset σ.now k (σ.now k - 1))) fun q _ => intR_put σ.now k (σ.now k - 1) q) ?_
  refine go_ ?_
  have hv : nset σ.now k (σ.now k - 1) k = σ.now k - 1 := by unfold nset; rw [if_pos rfl]
  rw [hv]
  refine s_cls (φ := CtOk { σ with now := nset σ.now k (σ.now k - 1) }) (X := Ct.parts b { σ with now := nset σ.now k (σ.now k - 1) }) x ⟨hx.n1, hx.n2, fun q => by show nset _ _ _ _ ≤ _; unfold nset; split; omega; exact hx.w q, hx.d⟩ (by repeat (first | exact Split.nil | apply Split.perx (by repeat (first | with_reducible exact Sel.here | with_reducible apply Sel.there)) (by infer_instance) | apply Split.cons (by repeat (first | with_reducible exact Sel.here | with_reducible apply Sel.there)))) ?_
  exact s_rett (rs := [.tmp 4, .tmp 5]) (vs := [_, _]) Try.func40 rfl (by intro j; refine RVS.tmp _ rfl ?_; refine RVS.tmp _ rfl ?_; exact RVS.nil) rfl (⟨rfl, rfl⟩) (by repeat (first | exact Ent.nil | refine Ent.per (by repeat (first | with_reducible exact Sel.here | with_reducible apply Sel.there)) ?_ | refine Ent.cons (by repeat (first | with_reducible exact Sel.here | with_reducible apply Sel.there)) ?_))
theorem punref_c (p b g n bc m : Nat) (σ : Ct) (k : Nat) (hk : k < σ.n) (h0 : σ.now k ≠ 0) : Ctr Try.prog 17 [.pointer (some ⟨p, 0, none⟩), .int .i64 k] [PoB p b g n bc m, CtA bc σ] (fun v Bs => v = .tuple #[.int .i64 (σ.now k - 1 : Nat), .int .i64 0] ∧ Bs = [PoB p b g n bc m, CtA bc { σ with now := nset σ.now k (σ.now k - 1) }]) := by
  refine s_enter 14 [(0, _), (1, _)] (fun F => [_, _, F]) Try.func17 fun F => ?_
  refine go_ ?_
  refine s_call (sp := (by repeat (first | exact Split.nil | apply Split.perx (by repeat (first | with_reducible exact Sel.here | with_reducible apply Sel.there)) (by infer_instance) | apply Split.cons (by repeat (first | with_reducible exact Sel.here | with_reducible apply Sel.there))))) (hs := cunref_c bc σ k hk h0) (h := ?_)
  rintro v Bs ⟨rfl, rfl⟩
  refine go_ ?_
  exact s_rett (rs := [.tmp 4, .tmp 5]) (vs := [_, _]) Try.func17 rfl (by intro j; refine RVS.tmp _ rfl ?_; refine RVS.tmp _ rfl ?_; exact RVS.nil) rfl (⟨rfl, rfl⟩) (by repeat (first | exact Ent.nil | refine Ent.per (by repeat (first | with_reducible exact Sel.here | with_reducible apply Sel.there)) ?_ | refine Ent.cons (by repeat (first | with_reducible exact Sel.here | with_reducible apply Sel.there)) ?_))
end Go.Proofs.Ytldonbnjefhfdaa
/- Small ones of the pool's laws: Cached; node.Write of no node; ContainsFunc. -/
namespace Go.Proofs.Ytldonbnjefhfdaa
open Go.Cam
set_option maxRecDepth 100000
theorem nwrite0_c (k g : Int) : Ctr Try.prog 27 [.agg #[.int .i64 0, .slice none 0 0, .slice none 0 0], .int .i64 k, .int .i64 g] [] (fun v Bs => v = .tuple #[.slice none 0 0, .int .i64 1] ∧ Bs = []) := by
  refine s_enter 72 [(0, _), (1, _), (2, _)] (fun F => [F]) Try.func27 fun F => ?_
  refine go_ ?_
  refine s_box fun r3 => ?_
  refine s_nilN (sz := 4) (m := 0) (row := itemRow (fun _ => (none, 0)) []) rfl ?_
  refine s_nilN (sz := 4) (m := 0) (row := kidRow []) rfl ?_
  refine go_ ?_
  refine s_call (sp := (by repeat (first | exact Split.nil | apply Split.perx (by repeat (first | with_reducible exact Sel.here | with_reducible apply Sel.there)) (by infer_instance) | apply Split.cons (by repeat (first | with_reducible exact Sel.here | with_reducible apply Sel.there))))) (hs := nmay_c ⟨0, [], []⟩ (a := none) (b := none) (n := 0) (c := 0) (m := 0) (d := 0) (w := fun _ => (none, 0)) rfl rfl (by decide) (by decide) (fun i hi => absurd hi (Nat.not_lt_zero _))) (h := ?_)
  rintro v Bs ⟨rfl, rfl⟩
  rw [show nodeOk ⟨0, [], []⟩ = false by rfl]
  refine go_ ?_
  exact s_rett (rs := [.tmp 6, .tmp 7]) (vs := [_, _]) Try.func27 rfl (by intro j; refine RVS.tmp _ rfl ?_; refine RVS.tmp _ rfl ?_; exact RVS.nil) rfl (⟨rfl, rfl⟩) (by repeat (first | exact Ent.nil | refine Ent.per (by repeat (first | with_reducible exact Sel.here | with_reducible apply Sel.there)) ?_ | refine Ent.cons (by repeat (first | with_reducible exact Sel.here | with_reducible apply Sel.there)) ?_))
theorem nz_c (c : Nat) : Ctr Try.prog 37 [.int .u8 c] [] (fun v Bs => v = .bool (decide (c ≠ 0)) ∧ Bs = []) := by
  refine s_enter 5 [(0, _)] (fun F => [F]) Try.func37 fun F => ?_
  refine go_ ?_
  exact s_ret1 (rs := [.tmp 2]) Try.func37 rfl (by intro j; refine RVS.tmp _ rfl ?_; exact RVS.nil) (⟨by congr 1; by_cases h : c = 0 <;> simp [h], rfl⟩) (by repeat (first | exact Ent.nil | refine Ent.per (by repeat (first | with_reducible exact Sel.here | with_reducible apply Sel.there)) ?_ | refine Ent.cons (by repeat (first | with_reducible exact Sel.here | with_reducible apply Sel.there)) ?_))
theorem index0_c {a : Option Addr} {n c : Nat} {l : List Nat} (hn : l.length = n) (hz : ∀ i, i < n → l.getD i 0 = 0) (hl : n < 1000000) : Ctr Try.prog 59 [.slice a n c, .func (.func 37) #[] #[]] [SA none 1 (.slice a n c) n (byR l)] (fun v Bs => v = .int .i64 (-1) ∧ Bs = []) := by
  refine s_enter 19 [(0, _), (1, _)] (fun F => [_, F]) Try.func59 fun F => ?_
  refine go_ ?_
  refine s_loop (fun i : Nat => [(0, .slice a n c), (1, .func (.func 37) #[] #[]), (7, .int .i64 n), (8, .int .i64 i)]) (fun _ => [SA none 1 (.slice a n c) n (byR l), F]) (fun i => i ≤ n) (fun i => n - i) 0 (Nat.zero_le _) (by repeat (first | exact Ent.nil | refine Ent.per (by repeat (first | with_reducible exact Sel.here | with_reducible apply Sel.there)) ?_ | refine Ent.cons (by repeat (first | with_reducible exact Sel.here | with_reducible apply Sel.there)) ?_)) ?_
  intro i hi next
  refine go_ ?_
  refine s_if (fun h => ?_) (fun h => ?_)
  · have hi2 : i < n := by omega
    refine go_ ?_
    refine s_step (st_callC (sp := (by repeat (first | exact Split.nil | apply Split.perx (by repeat (first | with_reducible exact Sel.here | with_reducible apply Sel.there)) (by infer_instance) | apply Split.cons (by repeat (first | with_reducible exact Sel.here | with_reducible apply Sel.there))))) (hs := nz_c (l.getD i 0))) ?_
    rintro v Bs ⟨Cs, ⟨rfl, rfl⟩, rfl⟩
    rw [hz i hi2]
    refine go_ ?_
    exact s_entF (by repeat (first | exact Ent.nil | refine Ent.per (by repeat (first | with_reducible exact Sel.here | with_reducible apply Sel.there)) ?_ | refine Ent.cons (by repeat (first | with_reducible exact Sel.here | with_reducible apply Sel.there)) ?_)) (s_keep _ (next (i + 1) (by omega) (by omega)))
  · refine go_ ?_
    exact s_ret1 (rs := [.tmp 4]) Try.func59 rfl (by intro j; refine RVS.tmp _ rfl ?_; exact RVS.nil) (⟨rfl, rfl⟩) (by repeat (first | exact Ent.nil | refine Ent.per (by repeat (first | with_reducible exact Sel.here | with_reducible apply Sel.there)) ?_ | refine Ent.cons (by repeat (first | with_reducible exact Sel.here | with_reducible apply Sel.there)) ?_))
theorem contains0_c {a : Option Addr} {n c : Nat} {l : List Nat} (hn : l.length = n) (hz : ∀ i, i < n → l.getD i 0 = 0) (hl : n < 1000000) : Ctr Try.prog 36 [.slice a n c, .func (.func 37) #[] #[]] [SA none 1 (.slice a n c) n (byR l)] (fun v Bs => v = .bool false ∧ Bs = []) := by
  refine s_enter 9 [(0, _), (1, _)] (fun F => [_, F]) Try.func36 fun F => ?_
  refine go_ ?_
  refine s_call (sp := (by repeat (first | exact Split.nil | apply Split.perx (by repeat (first | with_reducible exact Sel.here | with_reducible apply Sel.there)) (by infer_instance) | apply Split.cons (by repeat (first | with_reducible exact Sel.here | with_reducible apply Sel.there))))) (hs := index0_c (a := a) (c := c) hn hz hl) (h := ?_)
  rintro v Bs ⟨rfl, rfl⟩
  refine go_ ?_
  exact s_ret1 (rs := [.tmp 4]) Try.func36 rfl (by intro j; refine RVS.tmp _ rfl ?_; exact RVS.nil) (⟨rfl, rfl⟩) (by repeat (first | exact Ent.nil | refine Ent.per (by repeat (first | with_reducible exact Sel.here | with_reducible apply Sel.there)) ?_ | refine Ent.cons (by repeat (first | with_reducible exact Sel.here | with_reducible apply Sel.there)) ?_))
structure OB where
  kind : Int
  l : List Nat
  a : Option Addr
  c : Nat
abbrev OB.v (o : OB) : Value := .agg #[.int .i64 o.kind, .int .i64 0, .slice none 0 0, .slice none 0 0, .slice o.a o.l.length o.c]
abbrev bmap (g : Int → Option OB) : Int → Option Value := fun k => (g k).map OB.v
def bset (g : Int → Option OB) (k : Int) (o : OB) : Int → Option OB := fun q => if q = k then some o else g q
theorem bmap_set (g : Int → Option OB) (k : Int) (o : OB) : mset (bmap g) k (some o.v) = bmap (bset g k o) := by
  funext q; unfold mset bmap bset; by_cases e : q = k
  · rw [if_pos e, if_pos e]; rfl
  · rw [if_neg e, if_neg e]
def Obs (g : Int → Option OB) : HP := ⟨fun H M => ∀ k o, g k = some o → (BS (.slice o.a o.l.length o.c) o.l).p H M, fun h1 h2 h k o e => (BS (.slice o.a o.l.length o.c) o.l).mono h1 h2 (h k o e)⟩
instance {g : Int → Option OB} : Per (Obs g) := ⟨fun h k o e => Per.h (A := BS (.slice o.a o.l.length o.c) o.l) (h k o e)⟩
section
variable {P : Program} {f : FuncId} {n : Nat} {R : Value → HP} {k : List It} {l : List (Nat × Value)} {As Bs Rs : List HP}
theorem s_obs0 (h : RunS P f n R k l (Obs (fun _ => none) :: As)) : RunS P f n R k l As := .mk fun H M s => h H M (per_add (M0 := M) (fun _ _ e => nomatch e) s)
theorem s_obsP {g : Int → Option OB} (kk : Int) (o : OB) (s0 : Sel (Obs g) As Bs) (s1 : Sel (BS (.slice o.a o.l.length o.c) o.l) Bs Rs) (h : RunS P f n R k l (Obs (bset g kk o) :: Rs)) : RunS P f n R k l As := .mk fun H M s => by
  have a0 := s0.hold s
  have t0 := star_snd (s0.sat s)
  have a1 := s1.hold t0
  refine h H M (per_add (M0 := M) (fun q y e => ?_) (star_snd (s1.sat t0)))
  unfold bset at e
  by_cases hq : q = kk
  · rw [if_pos hq] at e; cases e; exact a1
  · rw [if_neg hq] at e; exact a0 q y e
theorem s_obsG {g : Int → Option OB} (kk : Int) (o : OB) (s0 : Sel (Obs g) As Bs) (e : g kk = some o) (h : RunS P f n R k l (BS (.slice o.a o.l.length o.c) o.l :: As)) : RunS P f n R k l As := .mk fun H M s =>
  h H M (per_add (M0 := M) (s0.hold s kk o e) s)
end
set_option maxHeartbeats 4000000 in
theorem layB_c (p b gen n bc m : Nat) (σ : Ct) (gm : Int → Option Value) (o : OB) : Ctr Try.prog 23 [.pointer (some ⟨p, 0, none⟩), o.v] [PoB p b gen n bc m, CtA bc σ, MG m gm]
    (fun v Bs => (∃ i, σ.free? = some i ∧ v = .tuple #[.int .i64 (i : Nat), .int .i64 0] ∧ Bs = [PoB p b gen n bc m, CtA bc { σ with now := nset σ.now i 1 }, MG m (mset gm i (some o.v))]) ∨
      (σ.free? = none ∧ v = .tuple #[.int .i64 0, .int .i64 6] ∧ Bs = [PoB p b gen n bc m, CtA bc σ, MG m gm])) := by
  refine s_enter 26 [(0, _), (1, _)] (fun F => [_, _, _, F]) Try.func23 fun F => ?_
  refine go_ ?_
  refine s_box fun r3 => ?_
  refine go_ ?_
  refine s_call (sp := (by repeat (first | exact Split.nil | apply Split.perx (by repeat (first | with_reducible exact Sel.here | with_reducible apply Sel.there)) (by infer_instance) | apply Split.cons (by repeat (first | with_reducible exact Sel.here | with_reducible apply Sel.there))))) (hs := calloc_c bc σ) (h := ?_)
  rintro v Bs (⟨i, hf, rfl, rfl⟩ | ⟨hf, rfl, rfl⟩)
  · refine go_ ?_
    refine s_front (a := MG m gm) (by repeat (first | with_reducible exact Sel.here | with_reducible apply Sel.there)) ?_
    refine s_drawN 1 [.q 0, .q 1, .q 2, .q 3, .q 4, .q 5, .s 6] ?_
    refine do_ ?_
    refine d_stepU rfl (st_mu (by repeat (first | with_reducible exact Sel.here | with_reducible apply Sel.there))) ?_
    rintro v Bs rfl
    refine do_ ?_
    refine go_ ?_
    exact s_rett (rs := [.tmp 4, .tmp 5]) (vs := [_, _]) Try.func23 rfl (by intro j; refine RVS.tmp _ rfl ?_; refine RVS.tmp _ rfl ?_; exact RVS.nil) rfl (.inl ⟨i, hf, rfl, rfl⟩) (by repeat (first | exact Ent.nil | refine Ent.per (by repeat (first | with_reducible exact Sel.here | with_reducible apply Sel.there)) ?_ | refine Ent.cons (by repeat (first | with_reducible exact Sel.here | with_reducible apply Sel.there)) ?_))
  · refine go_ ?_
    exact s_rett (rs := [.tmp 4, .tmp 5]) (vs := [_, _]) Try.func23 rfl (by intro j; refine RVS.tmp _ rfl ?_; refine RVS.tmp _ rfl ?_; exact RVS.nil) rfl (.inr ⟨hf, rfl, rfl⟩) (by repeat (first | exact Ent.nil | refine Ent.per (by repeat (first | with_reducible exact Sel.here | with_reducible apply Sel.there)) ?_ | refine Ent.cons (by repeat (first | with_reducible exact Sel.here | with_reducible apply Sel.there)) ?_))
set_option maxHeartbeats 4000000 in
theorem pputB_c (p b gen n bc m : Nat) (σ : Ct) (g : Int → Option OB) {a : Option Addr} {c : Nat} (l : List Nat) (hl : l.length ≤ 128) : Ctr Try.prog 8 [.pointer (some ⟨p, 0, none⟩), .int .i64 5, .slice a l.length c] [PoB p b gen n bc m, CtA bc σ, MG m (bmap g), Obs g, BS (.slice a l.length c) l]
    (fun v Bs => (∃ i a' c', σ.free? = some i ∧ v = .tuple #[.int .i64 (i : Nat), .int .i64 0] ∧ Bs = [PoB p b gen n bc m, CtA bc { σ with now := nset σ.now i 1 }, MG m (bmap (bset g i ⟨5, l, a', c'⟩)), Obs (bset g i ⟨5, l, a', c'⟩)]) ∨
      (σ.free? = none ∧ v = .tuple #[.int .i64 0, .int .i64 6] ∧ Bs = [PoB p b gen n bc m, CtA bc σ, MG m (bmap g), Obs g])) := by
  refine s_enter 31 [(0, _), (1, _), (2, _)] (fun F => [_, _, _, _, _, F]) Try.func8 fun F => ?_
  refine go_ ?_
  refine s_call (sp := (by repeat (first | exact Split.nil | apply Split.perx (by repeat (first | with_reducible exact Sel.here | with_reducible apply Sel.there)) (by infer_instance) | apply Split.cons (by repeat (first | with_reducible exact Sel.here | with_reducible apply Sel.there))))) (hs := most_c 5) (h := ?_)
  rintro v Bs ⟨rfl, rfl⟩
  refine go_ ?_
  refine s_if (fun h => ?_) (fun h => ?_)
  · exact absurd h (by show ¬ (l.length : Int) > 128; omega)
  refine go_ ?_
  refine s_call (sp := (by repeat (first | exact Split.nil | apply Split.perx (by repeat (first | with_reducible exact Sel.here | with_reducible apply Sel.there)) (by infer_instance) | apply Split.cons (by repeat (first | with_reducible exact Sel.here | with_reducible apply Sel.there))))) (hs := cloneB_c (A := BS (.slice a l.length c) l) (a := a) (n := l.length) (c := c) (row := byR l) (by rw [flat_byR']; exact bcl_one l) (by omega)) (h := ?_)
  rintro v Bs ⟨a', c', rfl, rfl⟩
  refine go_ ?_
  refine s_fzO (e := 5) (v := .slice a' l.length c') (by repeat (first | with_reducible exact Sel.here | with_reducible apply Sel.there)) ?_
  refine s_open (B := BS (.slice a' l.length c') l) (fun _ _ q => q) ?_
  refine s_call (sp := (by repeat (first | exact Split.nil | apply Split.perx (by repeat (first | with_reducible exact Sel.here | with_reducible apply Sel.there)) (by infer_instance) | apply Split.cons (by repeat (first | with_reducible exact Sel.here | with_reducible apply Sel.there))))) (hs := layB_c p b gen n bc m σ (bmap g) ⟨5, l, a', c'⟩) (h := ?_)
  rintro v Bs (⟨i, hf, rfl, rfl⟩ | ⟨hf, rfl, rfl⟩)
  · refine go_ ?_
    rw [bmap_set]
    refine s_obsP (g := g) (i : Int) ⟨5, l, a', c'⟩ (by repeat (first | with_reducible exact Sel.here | with_reducible apply Sel.there)) (by repeat (first | with_reducible exact Sel.here | with_reducible apply Sel.there)) ?_
    exact s_rett (rs := [.tmp 6, .tmp 7]) (vs := [_, _]) Try.func8 rfl (by intro j; refine RVS.tmp _ rfl ?_; refine RVS.tmp _ rfl ?_; exact RVS.nil) rfl (.inl ⟨i, a', c', hf, rfl, rfl⟩) (by repeat (first | exact Ent.nil | refine Ent.per (by repeat (first | with_reducible exact Sel.here | with_reducible apply Sel.there)) ?_ | refine Ent.cons (by repeat (first | with_reducible exact Sel.here | with_reducible apply Sel.there)) ?_))
  · refine go_ ?_
    exact s_rett (rs := [.tmp 6, .tmp 7]) (vs := [_, _]) Try.func8 rfl (by intro j; refine RVS.tmp _ rfl ?_; refine RVS.tmp _ rfl ?_; exact RVS.nil) rfl (.inr ⟨hf, rfl, rfl⟩) (by repeat (first | exact Ent.nil | refine Ent.per (by repeat (first | with_reducible exact Sel.here | with_reducible apply Sel.there)) ?_ | refine Ent.cons (by repeat (first | with_reducible exact Sel.here | with_reducible apply Sel.there)) ?_))
end Go.Proofs.Ytldonbnjefhfdaa
/- pool.Bytes. -/
namespace Go.Proofs.Ytldonbnjefhfdaa
open Go.Cam
set_option maxRecDepth 100000
theorem pcountN_c (p b gen n bc m : Nat) (σ : Ct) (k : Nat) (hk : k < σ.n) : Ctr Try.prog 15 [.pointer (some ⟨p, 0, none⟩), .int .i64 k] [PoB p b gen n bc m, CtA bc σ] (fun v Bs => v = .int .i64 (σ.now k : Nat) ∧ Bs = [PoB p b gen n bc m, CtA bc σ]) := by
  have := pcount_c p b gen n bc m σ (k : Int)
  rw [if_pos ⟨by omega, by omega⟩, Int.toNat_natCast] at this
  exact this
set_option maxHeartbeats 4000000 in
/-- of a block that is counted by nobody -/
theorem pbytesN_c (p b gen n bc m : Nat) (σ : Ct) (k : Nat) (hk : k < σ.n) (h0 : σ.now k = 0) : Ctr Try.prog 14 [.pointer (some ⟨p, 0, none⟩), .int .i64 k, .int .i64 5] [PoB p b gen n bc m, CtA bc σ] (fun v Bs => v = .tuple #[.slice none 0 0, .int .i64 1] ∧ Bs = [PoB p b gen n bc m, CtA bc σ]) := by
  refine s_enter 88 [(0, _), (1, _), (2, _)] (fun F => [_, _, F]) Try.func14 fun F => ?_
  refine go_ ?_
  refine s_call (sp := (by repeat (first | exact Split.nil | apply Split.perx (by repeat (first | with_reducible exact Sel.here | with_reducible apply Sel.there)) (by infer_instance) | apply Split.cons (by repeat (first | with_reducible exact Sel.here | with_reducible apply Sel.there))))) (hs := most_c 5) (h := ?_)
  rintro v Bs ⟨rfl, rfl⟩
  refine go_ ?_
  refine s_call (sp := (by repeat (first | exact Split.nil | apply Split.perx (by repeat (first | with_reducible exact Sel.here | with_reducible apply Sel.there)) (by infer_instance) | apply Split.cons (by repeat (first | with_reducible exact Sel.here | with_reducible apply Sel.there))))) (hs := pcountN_c p b gen n bc m σ k hk) (h := ?_)
  rintro v Bs ⟨rfl, rfl⟩
  rw [h0]
  refine go_ ?_
  exact s_rett (rs := [.tmp 6, .tmp 7]) (vs := [_, _]) Try.func14 rfl (by intro j; refine RVS.tmp _ rfl ?_; refine RVS.tmp _ rfl ?_; exact RVS.nil) rfl (⟨rfl, rfl⟩) (by repeat (first | exact Ent.nil | refine Ent.per (by repeat (first | with_reducible exact Sel.here | with_reducible apply Sel.there)) ?_ | refine Ent.cons (by repeat (first | with_reducible exact Sel.here | with_reducible apply Sel.there)) ?_))
set_option maxHeartbeats 4000000 in
/-- of a block that was laid down since the last commit -/
theorem pbytesM_c (p b gen n bc m : Nat) (σ : Ct) (g : Int → Option OB) (k : Nat) (hk : k < σ.n) (h0 : σ.now k ≠ 0) (o : OB) (hg : g k = some o) (ho : o.kind = 5) (hl : o.l.length < 1000000) : Ctr Try.prog 14 [.pointer (some ⟨p, 0, none⟩), .int .i64 k, .int .i64 5] [PoB p b gen n bc m, CtA bc σ, MG m (bmap g), Obs g]
    (fun v Bs => ∃ a c, v = .tuple #[.slice a o.l.length c, .int .i64 0] ∧ Bs = [PoB p b gen n bc m, CtA bc σ, MG m (bmap g), Obs g, BS (.slice a o.l.length c) o.l]) := by
  have hgm : bmap g k = some o.v := by show (g k).map _ = _; rw [hg]; rfl
  refine s_enter 88 [(0, _), (1, _), (2, _)] (fun F => [_, _, _, _, F]) Try.func14 fun F => ?_
  refine go_ ?_
  refine s_call (sp := (by repeat (first | exact Split.nil | apply Split.perx (by repeat (first | with_reducible exact Sel.here | with_reducible apply Sel.there)) (by infer_instance) | apply Split.cons (by repeat (first | with_reducible exact Sel.here | with_reducible apply Sel.there))))) (hs := most_c 5) (h := ?_)
  rintro v Bs ⟨rfl, rfl⟩
  refine go_ ?_
  refine s_call (sp := (by repeat (first | exact Split.nil | apply Split.perx (by repeat (first | with_reducible exact Sel.here | with_reducible apply Sel.there)) (by infer_instance) | apply Split.cons (by repeat (first | with_reducible exact Sel.here | with_reducible apply Sel.there))))) (hs := pcountN_c p b gen n bc m σ k hk) (h := ?_)
  rintro v Bs ⟨rfl, rfl⟩
  refine go_ ?_
  rw [show ((((σ.now k : Nat) : Int)) == 0) = false from beq_eq_false_iff_ne.2 (by omega)]
  refine go_ ?_
  refine s_look (lk_lks2 hgm) ?_
  refine go_ ?_
  refine s_alloc fun r10 => ?_
  refine go_ ?_
  rw [ho]
  refine go_ ?_
  refine s_obsG k o (by repeat (first | with_reducible exact Sel.here | with_reducible apply Sel.there)) hg ?_
  refine s_call (sp := (by repeat (first | exact Split.nil | apply Split.perx (by repeat (first | with_reducible exact Sel.here | with_reducible apply Sel.there)) (by infer_instance) | apply Split.cons (by repeat (first | with_reducible exact Sel.here | with_reducible apply Sel.there))))) (hs := cloneB_c (A := BS (.slice o.a o.l.length o.c) o.l) (a := o.a) (n := o.l.length) (c := o.c) (row := byR o.l) (by rw [flat_byR']; exact bcl_one o.l) hl) (h := ?_)
  rintro v Bs ⟨a', c', rfl, rfl⟩
  refine go_ ?_
  refine s_fzO (e := 5) (v := .slice a' o.l.length c') (by repeat (first | with_reducible exact Sel.here | with_reducible apply Sel.there)) ?_
  refine s_open (B := BS (.slice a' o.l.length c') o.l) (fun _ _ q => q) ?_
  exact s_rett (rs := [.tmp 6, .tmp 7]) (vs := [_, _]) Try.func14 rfl (by intro j; refine RVS.tmp _ rfl ?_; refine RVS.tmp _ rfl ?_; exact RVS.nil) rfl (⟨a', c', rfl, rfl⟩) (by repeat (first | exact Ent.nil | refine Ent.per (by repeat (first | with_reducible exact Sel.here | with_reducible apply Sel.there)) ?_ | refine Ent.cons (by repeat (first | with_reducible exact Sel.here | with_reducible apply Sel.there)) ?_))
set_option maxHeartbeats 8000000 in
/-- of a block on the disk -/
theorem pbytesD_c (p b gen n bc m : Nat) (σ : Ct) (g : Int → Option OB) (σd : Dr) (k gn : Nat) (l : List Nat) (hk : k < σ.n) (h0 : σ.now k ≠ 0) (hg : g k = none) (hn : k < σd.n) (hon : σd.off = false) (hst : σd.steps < 1000000000) (hl : l.length ≤ 128) (hb : Bys l) (hh : Head.ok ⟨5, k, l.length, 0, gn⟩) (hs : σd.lastS k = sealB ⟨5, k, l.length, 0, gn⟩ l) :
    Ctr Try.prog 14 [.pointer (some ⟨p, 0, none⟩), .int .i64 k, .int .i64 5] [PoB p b gen n bc m, CtA bc σ, MG m (bmap g), DrA b σd]
    (fun v Bs => ∃ a c, v = .tuple #[.slice a l.length c, .int .i64 0] ∧ Bs = [PoB p b gen n bc m, CtA bc σ, MG m (bmap g), DrA b σd, BS (.slice a l.length c) l]) := by
  have hgm : bmap g k = none := by show (g k).map _ = _; rw [hg]; rfl
  obtain ⟨o1, o2, o3⟩ := open_seal hh hb (by omega)
  have hck : checkOk (sealB ⟨5, k, l.length, 0, gn⟩ l) 5 k := ⟨o1, by rw [o2], by rw [o2]⟩
  refine s_enter 88 [(0, _), (1, _), (2, _)] (fun F => [_, _, _, _, F]) Try.func14 fun F => ?_
  refine go_ ?_
  refine s_call (sp := (by repeat (first | exact Split.nil | apply Split.perx (by repeat (first | with_reducible exact Sel.here | with_reducible apply Sel.there)) (by infer_instance) | apply Split.cons (by repeat (first | with_reducible exact Sel.here | with_reducible apply Sel.there))))) (hs := most_c 5) (h := ?_)
  rintro v Bs ⟨rfl, rfl⟩
  refine go_ ?_
  refine s_call (sp := (by repeat (first | exact Split.nil | apply Split.perx (by repeat (first | with_reducible exact Sel.here | with_reducible apply Sel.there)) (by infer_instance) | apply Split.cons (by repeat (first | with_reducible exact Sel.here | with_reducible apply Sel.there))))) (hs := pcountN_c p b gen n bc m σ k hk) (h := ?_)
  rintro v Bs ⟨rfl, rfl⟩
  refine go_ ?_
  rw [show ((((σ.now k : Nat) : Int)) == 0) = false from beq_eq_false_iff_ne.2 (by omega)]
  refine go_ ?_
  refine s_look (lk_lkn2 hgm) ?_
  refine go_ ?_
  refine s_alloc fun r10 => ?_
  refine go_ ?_
  refine s_call (sp := (by repeat (first | exact Split.nil | apply Split.perx (by repeat (first | with_reducible exact Sel.here | with_reducible apply Sel.there)) (by infer_instance) | apply Split.cons (by repeat (first | with_reducible exact Sel.here | with_reducible apply Sel.there))))) (hs := dread_c b σd k hn hst) (h := ?_)
  rintro v Bs (⟨ho, _⟩ | ⟨_, ra, rfl, rfl⟩)
  · rw [hon] at ho; cases ho
  rw [hs]
  refine go_ ?_
  refine s_call (sp := (by repeat (first | exact Split.nil | apply Split.perx (by repeat (first | with_reducible exact Sel.here | with_reducible apply Sel.there)) (by infer_instance) | apply Split.cons (by repeat (first | with_reducible exact Sel.here | with_reducible apply Sel.there))))) (hs := check_c (sealB ⟨5, k, l.length, 0, gn⟩ l) 5 k (sealB_len (by omega)) (sealB_bys hb)) (h := ?_)
  rintro v Bs (⟨ho, _⟩ | ⟨_, a2, c2, rfl, rfl⟩)
  · exact absurd hck ho
  rw [o2, o3]
  refine go_ ?_
  refine s_alloc fun r14 => ?_
  refine go_ ?_
  refine s_know (a := SA none 1 (.slice a2 236 c2) 236 (byR (l ++ List.replicate (236 - l.length) 0))) (by repeat (first | with_reducible exact Sel.here | with_reducible apply Sel.there)) (fun H M q => SA.cap H M q) fun hcap => ?_
  refine s_if (fun h => ?_) (fun h => ?_)
  · exact absurd h (by show ¬ (l.length : Int) > 128; omega)
  refine go_ ?_
  refine s_look (lk_slc (a := a2) (len := 236) (cap := c2) l.length 236 (by omega) hcap) ?_
  refine s_part l.length 236 (by omega) (Nat.le_refl _) (a := a2) (m := 236) (cap := c2) (by repeat (first | with_reducible exact Sel.here | with_reducible apply Sel.there)) ?_
  refine s_open (SA.cg (byR (List.replicate (236 - l.length) 0)) fun i hi => by
    simp [byR, List.getD_eq_getElem?_getD, List.getElem?_append_right]) ?_
  refine go_ ?_
  refine s_call (sp := (by repeat (first | exact Split.nil | apply Split.perx (by repeat (first | with_reducible exact Sel.here | with_reducible apply Sel.there)) (by infer_instance) | apply Split.cons (by repeat (first | with_reducible exact Sel.here | with_reducible apply Sel.there))))) (hs := contains0_c (l := List.replicate (236 - l.length) 0) (n := 236 - l.length) (by simp) (fun i hi => getD_zeros _ _) (by omega)) (h := ?_)
  rintro v Bs ⟨rfl, rfl⟩
  refine go_ ?_
  refine s_look (lk_slc (a := a2) (len := 236) (cap := c2) 0 l.length (by omega) (by omega)) ?_
  refine s_part 0 l.length (by omega) (by omega) (a := a2) (m := 236) (cap := c2) (by repeat (first | with_reducible exact Sel.here | with_reducible apply Sel.there)) ?_
  rw [sladdr0]
  refine s_open (B := BS (.slice a2 l.length c2) l) (SA.cg (byR l) fun i hi => by
    have : i < l.length := by omega
    simp [byR, List.getD_eq_getElem?_getD, List.getElem?_append_left, this]) ?_
  refine go_ ?_
  exact s_rett (rs := [.tmp 6, .tmp 7]) (vs := [_, _]) Try.func14 rfl (by intro j; refine RVS.tmp _ rfl ?_; refine RVS.tmp _ rfl ?_; exact RVS.nil) rfl (⟨a2, c2, rfl, rfl⟩) (by repeat (first | exact Ent.nil | refine Ent.per (by repeat (first | with_reducible exact Sel.here | with_reducible apply Sel.there)) ?_ | refine Ent.cons (by repeat (first | with_reducible exact Sel.here | with_reducible apply Sel.there)) ?_))
end Go.Proofs.Ytldonbnjefhfdaa
