/- alike: both tables say the same. -/
import Derived.Test.YtimaipclgmcekaaProcAF
namespace Go.Proofs.Ytimaipclgmcekaa
open Go.Cam
set_option maxRecDepth 100000
theorem runs_c {b : Nat} {T : Tb} (pid : Int) : Ctr Try.prog 12 [.pointer (some ⟨b,0,none⟩), .int .i64 pid] [Tbl b T] (fun v Bs => v = .bool (T.runs pid) ∧ Bs = [Tbl b T]) :=
  Ctr.same fun H M hT => (runs_ok hT pid).mono fun v H' M' ⟨a, h, m⟩ => ⟨a, h, by rw [m]; exact Ch.refl _ _⟩
def gtV (T : Tb) (pid fd : Int) : Opn := if T.err pid fd = 0 then T.op (T.no pid fd) else Opn.zero
theorem gtV_vals (T : Tb) (pid fd : Int) : (if T.err pid fd = 0 then (T.op (T.no pid fd)).vals else Opn.zero.vals) = (gtV T pid fd).vals := by unfold gtV; split <;> rfl
theorem p_get' {b : Nat} {T : Tb} (I : Inv T) (pid fd : Int) : Ctr Try.prog 19 [.pointer (some ⟨b,0,none⟩), .int .i64 pid, .int .i64 fd] [Tbl b T] (fun v Bs => v = .tuple #[.agg (gtV T pid fd).vals, .int .i64 (T.err pid fd)] ∧ Bs = [Tbl b T]) := by
  have := p_gt (b := b) I pid fd
  rw [gtV_vals] at this; exact this
theorem r_get' {y : Nat} {T : Tb} (I : Inv T) (pid fd : Int) : Ctr Try.prog 39 [.pointer (some ⟨y,0,none⟩), .int .i64 pid, .int .i64 fd] [Ref y T] (fun v Bs => v = .tuple #[.agg (gtV T pid fd).vals, .int .i64 (T.err pid fd)] ∧ Bs = [Ref y T]) := by
  have := r_get (y := y) I.bd pid fd
  rw [gtV_vals] at this; exact this
set_option maxHeartbeats 4000000 in
theorem alike_ok {b y : Nat} {T : Tb} (I : Inv T) : Ctr Try.prog 23 [.pointer (some ⟨b,0,none⟩), .pointer (some ⟨y,0,none⟩)] [Tbl b T, Ref y T] (fun v Bs => v = .bool true ∧ Bs = [Tbl b T, Ref y T]) := by
  refine s_enter 74 [(0, _), (1, _)] (fun F => [_, _, F]) Try.func23 fun F => ?_
  refine go_ ?_
  refine s_loop (fun p : Int => [(0, .pointer (some ⟨b, 0, none⟩)), (1, .pointer (some ⟨y, 0, none⟩)), (5, .int .i64 p)]) (fun _ => [Tbl b T, Ref y T, F]) (fun p => -1 ≤ p ∧ p ≤ 10) (fun p => (10 - p).toNat) (-1) (by omega) (by repeat (first | exact Ent.nil | refine Ent.per (by repeat (first | with_reducible exact Sel.here | with_reducible apply Sel.there)) ?_ | refine Ent.cons (by repeat (first | with_reducible exact Sel.here | with_reducible apply Sel.there)) ?_)) ?_
  rintro p ⟨hp0, hp⟩ next
  refine go_ ?_
  cases h1 : decide (p ≤ 9)
  · refine go_ ?_
    exact s_ret1 (rs := [.tmp 4]) Try.func23 rfl (by intro j; refine RVS.tmp _ rfl ?_; exact RVS.nil) (⟨rfl, rfl⟩) (by repeat (first | exact Ent.nil | refine Ent.per (by repeat (first | with_reducible exact Sel.here | with_reducible apply Sel.there)) ?_ | refine Ent.cons (by repeat (first | with_reducible exact Sel.here | with_reducible apply Sel.there)) ?_))
  simp only [decide_eq_true_eq] at h1
  refine go_ ?_
  refine s_call (sp := (by repeat (first | exact Split.nil | apply Split.perx (by repeat (first | with_reducible exact Sel.here | with_reducible apply Sel.there)) (by infer_instance) | apply Split.cons (by repeat (first | with_reducible exact Sel.here | with_reducible apply Sel.there))))) (hs := p_room I p) (h := ?_)
  rintro v Bs ⟨rfl, rfl⟩
  refine go_ ?_
  refine s_call (sp := (by repeat (first | exact Split.nil | apply Split.perx (by repeat (first | with_reducible exact Sel.here | with_reducible apply Sel.there)) (by infer_instance) | apply Split.cons (by repeat (first | with_reducible exact Sel.here | with_reducible apply Sel.there))))) (hs := r_room p) (h := ?_)
  rintro v Bs ⟨rfl, rfl⟩
  refine go_ ?_
  refine s_call (sp := (by repeat (first | exact Split.nil | apply Split.perx (by repeat (first | with_reducible exact Sel.here | with_reducible apply Sel.there)) (by infer_instance) | apply Split.cons (by repeat (first | with_reducible exact Sel.here | with_reducible apply Sel.there))))) (hs := runs_c p) (h := ?_)
  rintro v Bs ⟨rfl, rfl⟩
  refine go_ ?_
  refine s_call (sp := (by repeat (first | exact Split.nil | apply Split.perx (by repeat (first | with_reducible exact Sel.here | with_reducible apply Sel.there)) (by infer_instance) | apply Split.cons (by repeat (first | with_reducible exact Sel.here | with_reducible apply Sel.there))))) (hs := r_runs p) (h := ?_)
  rintro v Bs ⟨rfl, rfl⟩
  refine go_ ?_
  first | rw [bne_self_eq_false] | rw [beq_self_eq_true, Bool.not_true]
  refine go_ ?_
  first | rw [bne_self_eq_false] | rw [beq_self_eq_true, Bool.not_true]
  refine go_ ?_
  first | rw [bne_self_eq_false] | rw [beq_self_eq_true, Bool.not_true]
  refine go_ ?_
  refine s_loop (fun f : Int => [(0, .pointer (some ⟨b, 0, none⟩)), (1, .pointer (some ⟨y, 0, none⟩)), (5, .int .i64 p), (10, .int .i64 f)]) (fun _ => [Tbl b T, Ref y T, F]) (fun f => -1 ≤ f ∧ f ≤ 9) (fun f => (9 - f).toNat) (-1) (by omega) (by repeat (first | exact Ent.nil | refine Ent.per (by repeat (first | with_reducible exact Sel.here | with_reducible apply Sel.there)) ?_ | refine Ent.cons (by repeat (first | with_reducible exact Sel.here | with_reducible apply Sel.there)) ?_)) ?_
  rintro f ⟨hf0, hf⟩ next2
  refine go_ ?_
  cases h2 : decide (f ≤ 8)
  · refine go_ ?_
    exact s_entF (by repeat (first | exact Ent.nil | refine Ent.per (by repeat (first | with_reducible exact Sel.here | with_reducible apply Sel.there)) ?_ | refine Ent.cons (by repeat (first | with_reducible exact Sel.here | with_reducible apply Sel.there)) ?_)) (s_keep _ (next (p + 1) (by omega) (by omega)))
  simp only [decide_eq_true_eq] at h2
  refine go_ ?_
  refine s_call (sp := (by repeat (first | exact Split.nil | apply Split.perx (by repeat (first | with_reducible exact Sel.here | with_reducible apply Sel.there)) (by infer_instance) | apply Split.cons (by repeat (first | with_reducible exact Sel.here | with_reducible apply Sel.there))))) (hs := p_get' I p f) (h := ?_)
  rintro v Bs ⟨rfl, rfl⟩
  refine go_ ?_
  refine s_alloc fun r11 => ?_
  refine s_stw ?_
  refine go_ ?_
  refine s_call (sp := (by repeat (first | exact Split.nil | apply Split.perx (by repeat (first | with_reducible exact Sel.here | with_reducible apply Sel.there)) (by infer_instance) | apply Split.cons (by repeat (first | with_reducible exact Sel.here | with_reducible apply Sel.there))))) (hs := r_get' I p f) (h := ?_)
  rintro v Bs ⟨rfl, rfl⟩
  refine go_ ?_
  refine s_alloc fun r13 => ?_
  refine s_stw ?_
  refine go_ ?_
  refine s_look (lk_neqs (eq := eq41_ _ _)) ?_
  rw [same_refl]
  refine go_ ?_
  first | rw [bne_self_eq_false] | rw [beq_self_eq_true, Bool.not_true]
  refine go_ ?_
  exact s_entF (by repeat (first | exact Ent.nil | refine Ent.per (by repeat (first | with_reducible exact Sel.here | with_reducible apply Sel.there)) ?_ | refine Ent.cons (by repeat (first | with_reducible exact Sel.here | with_reducible apply Sel.there)) ?_)) (s_keep _ (next2 (f + 1) (by omega) (by omega)))
end Go.Proofs.Ytimaipclgmcekaa

/- ProcPlays, walked. -/
namespace Go.Proofs.Ytimaipclgmcekaa
open Go.Cam
set_option maxRecDepth 100000
theorem clone_c {b : Nat} {T : Tb} : Ctr Try.prog 21 [.pointer (some ⟨b,0,none⟩)] [Tbl b T] (fun v Bs => ∃ r, v = .pointer (some ⟨r, 0, none⟩) ∧ Bs = [Tbl r T, Tbl b T]) := fun F H M s => by
  have hT0 : M b = some T.obj := star_fst s
  exact (clone_ok hT0).mono fun v H' M' ⟨r, hv, hH, hT, hk⟩ => ⟨_, ⟨r, hv, rfl⟩, by
    subst hH
    refine ⟨fun c => if c = r then some T.obj else none, M, ?_, fun c o h => (hk c o h).1, ?_, if_pos rfl, s⟩
    · intro c o h
      dsimp only at h
      split at h
      · rename_i e; subst e; rw [← h]; exact hT
      · cases h
    · intro c
      by_cases e : c = r
      · refine .inr ?_
        cases h : M c with
        | none => rfl
        | some o => exact absurd e (hk c o h).2
      · exact .inl (if_neg e)⟩
theorem start_inv : Inv S0 := Inv.start
set_option maxHeartbeats 4000000 in
theorem plays_law (a : Option Addr) (len cap : Nat) (g : Nat → OpV) (hk : ∀ i, i < len → -9223372036854775808 ≤ (g i).kind ∧ (g i).kind < 9223372036854775808) :
    Ctr Try.prog 6 [.slice a len cap] [SA none 10 (.slice a len cap) len (fun i => opRow (g i))] (fun v Bs => v = .bool true ∧ Bs = []) := by
  refine s_enter 66 [(0, _)] (fun F => [_, F]) Try.func6 fun F => ?_
  refine go_ ?_
  refine s_call (sp := (by repeat (first | exact Split.nil | apply Split.perx (by repeat (first | with_reducible exact Sel.here | with_reducible apply Sel.there)) (by infer_instance) | apply Split.cons (by repeat (first | with_reducible exact Sel.here | with_reducible apply Sel.there))))) (hs := shown_c) (h := ?_)
  rintro v Bs ⟨rfl, rfl⟩
  refine go_ ?_
  refine s_call (sp := (by repeat (first | exact Split.nil | apply Split.perx (by repeat (first | with_reducible exact Sel.here | with_reducible apply Sel.there)) (by infer_instance) | apply Split.cons (by repeat (first | with_reducible exact Sel.here | with_reducible apply Sel.there))))) (hs := new_c) (h := ?_)
  rintro v Bs ⟨b0, rfl, rfl⟩
  refine go_ ?_
  refine s_call (sp := (by repeat (first | exact Split.nil | apply Split.perx (by repeat (first | with_reducible exact Sel.here | with_reducible apply Sel.there)) (by infer_instance) | apply Split.cons (by repeat (first | with_reducible exact Sel.here | with_reducible apply Sel.there))))) (hs := r_new) (h := ?_)
  rintro v Bs ⟨y, rfl, rfl⟩
  refine go_ ?_
  refine s_loop (fun x : Nat × Nat × Tb => [(0, .slice a len cap), (4, .pointer (some ⟨x.2.1, 0, none⟩)), (5, .pointer (some ⟨y, 0, none⟩)), (6, .int .i64 (x.1 : Nat))])
    (fun x => [SA none 10 (.slice a len cap) len (fun i => opRow (g i)), Tbl x.2.1 x.2.2, Ref y x.2.2, F]) (fun x => x.1 ≤ 60 ∧ Inv x.2.2) (fun x => 60 - x.1) (0, b0, S0) ⟨by simp, start_inv⟩ (by repeat (first | exact Ent.nil | refine Ent.per (by repeat (first | with_reducible exact Sel.here | with_reducible apply Sel.there)) ?_ | refine Ent.cons (by repeat (first | with_reducible exact Sel.here | with_reducible apply Sel.there)) ?_)) ?_
  rintro ⟨i, b, T⟩ ⟨hi, I⟩ next
  dsimp only at hi I next ⊢
  refine go_ ?_
  cases h1 : decide ((i : Int) < (len : Int))
  · refine go_ ?_
    exact s_ret1 (rs := [.tmp 2]) Try.func6 rfl (by intro j; refine RVS.tmp _ rfl ?_; exact RVS.nil) (⟨rfl, rfl⟩) (by repeat (first | exact Ent.nil | refine Ent.per (by repeat (first | with_reducible exact Sel.here | with_reducible apply Sel.there)) ?_ | refine Ent.cons (by repeat (first | with_reducible exact Sel.here | with_reducible apply Sel.there)) ?_))
  simp only [decide_eq_true_eq] at h1
  have h1' : i < len := by omega
  refine go_ ?_
  cases h2 : decide ((i : Int) < 60)
  · refine go_ ?_
    exact s_ret1 (rs := [.tmp 2]) Try.func6 rfl (by intro j; refine RVS.tmp _ rfl ?_; exact RVS.nil) (⟨rfl, rfl⟩) (by repeat (first | exact Ent.nil | refine Ent.per (by repeat (first | with_reducible exact Sel.here | with_reducible apply Sel.there)) ?_ | refine Ent.cons (by repeat (first | with_reducible exact Sel.here | with_reducible apply Sel.there)) ?_))
  simp only [decide_eq_true_eq] at h2
  refine go_ ?_
  refine s_alloc fun r7 => ?_
  refine go_ ?_
  refine s_call (sp := (by repeat (first | exact Split.nil | apply Split.perx (by repeat (first | with_reducible exact Sel.here | with_reducible apply Sel.there)) (by infer_instance) | apply Split.cons (by repeat (first | with_reducible exact Sel.here | with_reducible apply Sel.there))))) (hs := kind_c _ _ (hk i h1') (by decide)) (h := ?_)
  rintro v Bs ⟨rfl, rfl⟩
  have hkb := kindI_bd (n := (g i).kind) (m := 10) (by omega)
  refine go_ ?_
  refine s_ieq (fun h3 => ?_) (fun h3 => ?_)
  · refine go_ ?_
    refine s_call (sp := (by repeat (first | exact Split.nil | apply Split.perx (by repeat (first | with_reducible exact Sel.here | with_reducible apply Sel.there)) (by infer_instance) | apply Split.cons (by repeat (first | with_reducible exact Sel.here | with_reducible apply Sel.there))))) (hs := clone_c) (h := ?_)
    rintro v Bs ⟨r, rfl, rfl⟩
    refine go_ ?_
    refine s_call (sp := (by repeat (first | exact Split.nil | apply Split.perx (by repeat (first | with_reducible exact Sel.here | with_reducible apply Sel.there)) (by infer_instance) | apply Split.cons (by repeat (first | with_reducible exact Sel.here | with_reducible apply Sel.there))))) (hs := p_fk I 1) (h := ?_)
    rintro v Bs ⟨rfl, rfl⟩
    refine go_ ?_
    refine s_call (sp := (by repeat (first | exact Split.nil | apply Split.perx (by repeat (first | with_reducible exact Sel.here | with_reducible apply Sel.there)) (by infer_instance) | apply Split.cons (by repeat (first | with_reducible exact Sel.here | with_reducible apply Sel.there))))) (hs := p_op (fk_inv I 1) 1 (g i).x) (h := ?_)
    rintro v Bs ⟨rfl, rfl⟩
    refine go_ ?_
    refine s_call (sp := (by repeat (first | exact Split.nil | apply Split.perx (by repeat (first | with_reducible exact Sel.here | with_reducible apply Sel.there)) (by infer_instance) | apply Split.cons (by repeat (first | with_reducible exact Sel.here | with_reducible apply Sel.there))))) (hs := p_ex (op_inv (fk_inv I 1) 1 (g i).x) 2 1) (h := ?_)
    rintro v Bs ⟨a1, c1, rfl, rfl⟩
    refine go_ ?_
    exact s_entF (by repeat (first | exact Ent.nil | refine Ent.per (by repeat (first | with_reducible exact Sel.here | with_reducible apply Sel.there)) ?_ | refine Ent.cons (by repeat (first | with_reducible exact Sel.here | with_reducible apply Sel.there)) ?_)) (s_keep _ (next (i + 1, r, T) ⟨by dsimp only; omega, I⟩ (by dsimp only; omega)))
  · refine go_ ?_
    refine s_call (sp := (by repeat (first | exact Split.nil | apply Split.perx (by repeat (first | with_reducible exact Sel.here | with_reducible apply Sel.there)) (by infer_instance) | apply Split.cons (by repeat (first | with_reducible exact Sel.here | with_reducible apply Sel.there))))) (hs := kind_c _ _ (hk i h1') (by decide)) (h := ?_)
    rintro v Bs ⟨rfl, rfl⟩
    refine go_ ?_
    refine s_call (sp := (by repeat (first | exact Split.nil | apply Split.perx (by repeat (first | with_reducible exact Sel.here | with_reducible apply Sel.there)) (by infer_instance) | apply Split.cons (by repeat (first | with_reducible exact Sel.here | with_reducible apply Sel.there))))) (hs := does_ok I ⟨kindI (g i).kind 10, (g i).pid, (g i).n, (g i).x⟩ (by dsimp only; omega)) (h := ?_)
    rintro v Bs ⟨T', ⟨rfl, I'⟩, rfl⟩
    refine go_ ?_
    refine s_call (sp := (by repeat (first | exact Split.nil | apply Split.perx (by repeat (first | with_reducible exact Sel.here | with_reducible apply Sel.there)) (by infer_instance) | apply Split.cons (by repeat (first | with_reducible exact Sel.here | with_reducible apply Sel.there))))) (hs := alike_ok I') (h := ?_)
    rintro v Bs ⟨rfl, rfl⟩
    refine go_ ?_
    exact s_entF (by repeat (first | exact Ent.nil | refine Ent.per (by repeat (first | with_reducible exact Sel.here | with_reducible apply Sel.there)) ?_ | refine Ent.cons (by repeat (first | with_reducible exact Sel.here | with_reducible apply Sel.there)) ?_)) (s_keep _ (next (i + 1, b, T') ⟨by dsimp only; omega, I'⟩ (by dsimp only; omega)))
end Go.Proofs.Ytimaipclgmcekaa
