/- Open, Wait. -/
import Derived.Test.YtimaipclgmcekaaProcE
namespace Go.Proofs.Ytimaipclgmcekaa
open Go.Cam
set_option maxRecDepth 100000
theorem opn_no {H M : Heap} {b : Nat} {T : Tb} (hT : M b = some T.obj) (pid : Int) (x : Opn) (hr : T.runs pid = false) :
    ACalls Try.prog 14 #[.pointer (some ⟨b,0,none⟩), .int .i64 pid, .agg x.vals] H M (fun v H' M' => v = .tuple #[.int .i64 0, .int .i64 25] ∧ H' = H ∧ Ch [] M M') := by
  refine enter (args := [_, _, _]) Try.func14 rfl rfl (by show (3 : Nat) ≤ 54; decide) ?_
  (repeat (first | first | refine run_zfa rfl (fun _ => by rfl) (fun _ => by rfl) ?_ | refine run_faz rfl (fun _ => by rfl) (fun _ => by rfl) ?_ | refine run_fa rfl (fun _ => by rfl) (fun _ => by rfl) ?_ | refine run_p (fun _ => rfl) rfl ?_ | refine run_n rfl (fun _ => rfl) ?_ | refine run_y (fun _ => rfl) rfl (fun _ => rfl) ?_ | refine run_seq ?_ | refine run_region ?_ | refine run_ops_nil ?_ | refine run_block ?_ | refine run_skip ?_ | refine run_inBlock ?_ | refine run_exit rfl ?_))
  refine run_newA (.cells x.vals 41 (0, 0)) rfl (fun _ => by rfl) (fun _ => by kernel_rfl) (fun r1 M1 hR k1 => ?_)
  replace hT := (k1 _ _ hT).1
  (repeat (first | first | refine run_zfa rfl (fun _ => by rfl) (fun _ => by rfl) ?_ | refine run_faz rfl (fun _ => by rfl) (fun _ => by rfl) ?_ | refine run_fa rfl (fun _ => by rfl) (fun _ => by rfl) ?_ | refine run_p (fun _ => rfl) rfl ?_ | refine run_n rfl (fun _ => rfl) ?_ | refine run_y (fun _ => rfl) rfl (fun _ => rfl) ?_ | refine run_seq ?_ | refine run_region ?_ | refine run_ops_nil ?_ | refine run_block ?_ | refine run_skip ?_ | refine run_inBlock ?_ | refine run_exit rfl ?_))
  refine run_call rfl (fun _ => by rfl) (fun _ => by kernel_rfl) (at_no hT pid hr) ?_
  rintro v H' M' ⟨rfl, rfl, rfl⟩
  (repeat (first | first | refine run_zfa rfl (fun _ => by rfl) (fun _ => by rfl) ?_ | refine run_faz rfl (fun _ => by rfl) (fun _ => by rfl) ?_ | refine run_fa rfl (fun _ => by rfl) (fun _ => by rfl) ?_ | refine run_p (fun _ => rfl) rfl ?_ | refine run_n rfl (fun _ => rfl) ?_ | refine run_y (fun _ => rfl) rfl (fun _ => rfl) ?_ | refine run_seq ?_ | refine run_region ?_ | refine run_ops_nil ?_ | refine run_block ?_ | refine run_skip ?_ | refine run_inBlock ?_ | refine run_exit rfl ?_))
  refine run_cond _ (fun _ => by rfl) (fun hc => ?_) (fun hc => ?_)
  · (repeat (first | first | refine run_zfa rfl (fun _ => by rfl) (fun _ => by rfl) ?_ | refine run_faz rfl (fun _ => by rfl) (fun _ => by rfl) ?_ | refine run_fa rfl (fun _ => by rfl) (fun _ => by rfl) ?_ | refine run_p (fun _ => rfl) rfl ?_ | refine run_n rfl (fun _ => rfl) ?_ | refine run_y (fun _ => rfl) rfl (fun _ => rfl) ?_ | refine run_seq ?_ | refine run_region ?_ | refine run_ops_nil ?_ | refine run_block ?_ | refine run_skip ?_ | refine run_inBlock ?_ | refine run_exit rfl ?_))
    exact run_retc Try.func14 (fun _ => by kernel_rfl) (⟨rfl, rfl, (Ch.refl _ _).new' k1⟩)
  · cases hc
/-- the least place of a file that is free -/
def _root_.Go.Cam.Tb.file (T : Tb) : Nat → Nat → Option Nat
  | 0, _ => none
  | d + 1, i => if T.us i = 0 then some i else T.file d (i + 1)
theorem file_bd (T : Tb) : ∀ (d i q : Nat), T.file d i = some q → i ≤ q ∧ q < i + d ∧ T.us q = 0
  | 0, i, q, h => by simp [Tb.file] at h
  | d + 1, i, q, h => by
    unfold Tb.file at h
    by_cases hc : T.us i = 0
    · rw [if_pos hc, Option.some.injEq] at h
      subst h
      exact ⟨by omega, by omega, hc⟩
    · rw [if_neg hc] at h
      have := file_bd T d (i + 1) q h
      omega
def _root_.Go.Cam.Tb.openT (T : Tb) (pid : Int) (x : Opn) (f i : Nat) : Tb := ((T.setOp i x).setUs i 1).setFd pid.toNat f ((i : Int) + 1)
set_option maxHeartbeats 2000000 in
theorem opn_full {H M : Heap} {b : Nat} {T : Tb} (hT : M b = some T.obj) (pid : Int) (x : Opn) (hr : T.runs pid = true) (hq : freeAt (T.fd pid.toNat) 8 0 = -1) :
    ACalls Try.prog 14 #[.pointer (some ⟨b,0,none⟩), .int .i64 pid, .agg x.vals] H M (fun v H' M' => v = .tuple #[.int .i64 0, .int .i64 21] ∧ H' = H ∧ Ch [] M M') := by
  have hp := runs_bd hr
  refine enter (args := [_, _, _]) Try.func14 rfl rfl (by show (3 : Nat) ≤ 54; decide) ?_
  (repeat (first | first | refine run_zfa rfl (fun _ => by rfl) (fun _ => by rfl) ?_ | refine run_faz rfl (fun _ => by rfl) (fun _ => by rfl) ?_ | refine run_fa rfl (fun _ => by rfl) (fun _ => by rfl) ?_ | refine run_p (fun _ => rfl) rfl ?_ | refine run_n rfl (fun _ => rfl) ?_ | refine run_y (fun _ => rfl) rfl (fun _ => rfl) ?_ | refine run_seq ?_ | refine run_region ?_ | refine run_ops_nil ?_ | refine run_block ?_ | refine run_skip ?_ | refine run_inBlock ?_ | refine run_exit rfl ?_))
  refine run_newA (.cells x.vals 41 (0, 0)) rfl (fun _ => by rfl) (fun _ => by kernel_rfl) (fun r1 M1 hR k1 => ?_)
  replace hT := (k1 _ _ hT).1
  (repeat (first | first | refine run_zfa rfl (fun _ => by rfl) (fun _ => by rfl) ?_ | refine run_faz rfl (fun _ => by rfl) (fun _ => by rfl) ?_ | refine run_fa rfl (fun _ => by rfl) (fun _ => by rfl) ?_ | refine run_p (fun _ => rfl) rfl ?_ | refine run_n rfl (fun _ => rfl) ?_ | refine run_y (fun _ => rfl) rfl (fun _ => rfl) ?_ | refine run_seq ?_ | refine run_region ?_ | refine run_ops_nil ?_ | refine run_block ?_ | refine run_skip ?_ | refine run_inBlock ?_ | refine run_exit rfl ?_))
  refine run_call rfl (fun _ => by rfl) (fun _ => by kernel_rfl) (at_yes hT pid hr) ?_
  rintro v H' M' ⟨rfl, rfl, rfl⟩
  (repeat (first | first | refine run_zfa rfl (fun _ => by rfl) (fun _ => by rfl) ?_ | refine run_faz rfl (fun _ => by rfl) (fun _ => by rfl) ?_ | refine run_fa rfl (fun _ => by rfl) (fun _ => by rfl) ?_ | refine run_p (fun _ => rfl) rfl ?_ | refine run_n rfl (fun _ => rfl) ?_ | refine run_y (fun _ => rfl) rfl (fun _ => rfl) ?_ | refine run_seq ?_ | refine run_region ?_ | refine run_ops_nil ?_ | refine run_block ?_ | refine run_skip ?_ | refine run_inBlock ?_ | refine run_exit rfl ?_))
  refine run_cond _ (fun _ => by rfl) (fun hc => ?_) (fun hc => ?_)
  · cases hc
  (repeat (first | first | refine run_zfa rfl (fun _ => by rfl) (fun _ => by rfl) ?_ | refine run_faz rfl (fun _ => by rfl) (fun _ => by rfl) ?_ | refine run_fa rfl (fun _ => by rfl) (fun _ => by rfl) ?_ | refine run_p (fun _ => rfl) rfl ?_ | refine run_n rfl (fun _ => rfl) ?_ | refine run_y (fun _ => rfl) rfl (fun _ => rfl) ?_ | refine run_seq ?_ | refine run_region ?_ | refine run_ops_nil ?_ | refine run_block ?_ | refine run_skip ?_ | refine run_inBlock ?_ | refine run_exit rfl ?_))
  refine run_call rfl (fun _ => by rfl) (fun _ => by kernel_rfl) (free_ok hT pid.toNat (by omega)) ?_
  rintro v H' M' ⟨rfl, rfl, rfl⟩
  rw [hq]
  (repeat (first | first | refine run_zfa rfl (fun _ => by rfl) (fun _ => by rfl) ?_ | refine run_faz rfl (fun _ => by rfl) (fun _ => by rfl) ?_ | refine run_fa rfl (fun _ => by rfl) (fun _ => by rfl) ?_ | refine run_p (fun _ => rfl) rfl ?_ | refine run_n rfl (fun _ => rfl) ?_ | refine run_y (fun _ => rfl) rfl (fun _ => rfl) ?_ | refine run_seq ?_ | refine run_region ?_ | refine run_ops_nil ?_ | refine run_block ?_ | refine run_skip ?_ | refine run_inBlock ?_ | refine run_exit rfl ?_))
  refine run_loopI (fun i : Nat => [(10, .int .i64 (-1)), (23, .int .i64 i)]) (fun i H1 M1 => i ≤ 16 ∧ H1 = H' ∧ M1 = M') (fun i => 16 - i) 0 (by intro j; repeat (first | exact trivial | refine ⟨rfl, ?_⟩)) ⟨by omega, rfl, rfl⟩ ?_
  rintro i H1 M1 ⟨hi, rfl, rfl⟩ next
  (repeat (first | first | refine run_zfa rfl (fun _ => by rfl) (fun _ => by rfl) ?_ | refine run_faz rfl (fun _ => by rfl) (fun _ => by rfl) ?_ | refine run_fa rfl (fun _ => by rfl) (fun _ => by rfl) ?_ | refine run_p (fun _ => rfl) rfl ?_ | refine run_n rfl (fun _ => rfl) ?_ | refine run_y (fun _ => rfl) rfl (fun _ => rfl) ?_ | refine run_seq ?_ | refine run_region ?_ | refine run_ops_nil ?_ | refine run_block ?_ | refine run_skip ?_ | refine run_inBlock ?_ | refine run_exit rfl ?_))
  refine run_if (fun _ => by rfl) (fun hc => ?_) (fun hc => ?_)
  · (repeat (first | first | refine run_zfa rfl (fun _ => by rfl) (fun _ => by rfl) ?_ | refine run_faz rfl (fun _ => by rfl) (fun _ => by rfl) ?_ | refine run_fa rfl (fun _ => by rfl) (fun _ => by rfl) ?_ | refine run_p (fun _ => rfl) rfl ?_ | refine run_n rfl (fun _ => rfl) ?_ | refine run_y (fun _ => rfl) rfl (fun _ => rfl) ?_ | refine run_seq ?_ | refine run_region ?_ | refine run_ops_nil ?_ | refine run_block ?_ | refine run_skip ?_ | refine run_inBlock ?_ | refine run_exit rfl ?_))
    refine run_cond _ (fun _ => by rfl) (fun hc2 => ?_) (fun hc2 => ?_)
    · cases hc2
    · (repeat (first | first | refine run_zfa rfl (fun _ => by rfl) (fun _ => by rfl) ?_ | refine run_faz rfl (fun _ => by rfl) (fun _ => by rfl) ?_ | refine run_fa rfl (fun _ => by rfl) (fun _ => by rfl) ?_ | refine run_p (fun _ => rfl) rfl ?_ | refine run_n rfl (fun _ => rfl) ?_ | refine run_y (fun _ => rfl) rfl (fun _ => rfl) ?_ | refine run_seq ?_ | refine run_region ?_ | refine run_ops_nil ?_ | refine run_block ?_ | refine run_skip ?_ | refine run_inBlock ?_ | refine run_exit rfl ?_))
      rw [wrap_nat (by omega)]
      exact run_keep _ (by intro j; repeat (first | exact trivial | refine ⟨rfl, ?_⟩)) (next (i + 1) _ _ ⟨by omega, rfl, rfl⟩ (by omega))
  · (repeat (first | first | refine run_zfa rfl (fun _ => by rfl) (fun _ => by rfl) ?_ | refine run_faz rfl (fun _ => by rfl) (fun _ => by rfl) ?_ | refine run_fa rfl (fun _ => by rfl) (fun _ => by rfl) ?_ | refine run_p (fun _ => rfl) rfl ?_ | refine run_n rfl (fun _ => rfl) ?_ | refine run_y (fun _ => rfl) rfl (fun _ => rfl) ?_ | refine run_seq ?_ | refine run_region ?_ | refine run_ops_nil ?_ | refine run_block ?_ | refine run_skip ?_ | refine run_inBlock ?_ | refine run_exit rfl ?_))
    exact run_retc Try.func14 (fun _ => by kernel_rfl) (⟨rfl, rfl, (Ch.refl _ _).new' k1⟩)
set_option maxHeartbeats 2000000 in
theorem opn_yes {H M : Heap} {b : Nat} {T : Tb} (hT : M b = some T.obj) (pid : Int) (x : Opn) (hr : T.runs pid = true) (f : Nat) (hq : freeAt (T.fd pid.toNat) 8 0 = f) (hf8 : f < 8) :
    ACalls Try.prog 14 #[.pointer (some ⟨b,0,none⟩), .int .i64 pid, .agg x.vals] H M (fun v H' M' => H' = H ∧ Ch [b] M M' ∧
      match T.file 16 0 with
      | none => v = .tuple #[.int .i64 0, .int .i64 21] ∧ M' b = some T.obj
      | some i => v = .tuple #[.int .i64 f, .int .i64 0] ∧ M' b = some (T.openT pid x f i).obj) := by
  have hp := runs_bd hr
  have d0 : decide ((f : Int) ≥ 0) = true := by simp
  generalize hs : T.file 16 0 = s
  refine enter (args := [_, _, _]) Try.func14 rfl rfl (by show (3 : Nat) ≤ 54; decide) ?_
  (repeat (first | first | refine run_zfa rfl (fun _ => by rfl) (fun _ => by rfl) ?_ | refine run_faz rfl (fun _ => by rfl) (fun _ => by rfl) ?_ | refine run_fa rfl (fun _ => by rfl) (fun _ => by rfl) ?_ | refine run_p (fun _ => rfl) rfl ?_ | refine run_n rfl (fun _ => rfl) ?_ | refine run_y (fun _ => rfl) rfl (fun _ => rfl) ?_ | refine run_seq ?_ | refine run_region ?_ | refine run_ops_nil ?_ | refine run_block ?_ | refine run_skip ?_ | refine run_inBlock ?_ | refine run_exit rfl ?_))
  refine run_newA (.cells x.vals 41 (0, 0)) rfl (fun _ => by rfl) (fun _ => by kernel_rfl) (fun r1 M1 hR k1 => ?_)
  have n1 := (k1 _ _ hT).2
  replace hT := (k1 _ _ hT).1
  (repeat (first | first | refine run_zfa rfl (fun _ => by rfl) (fun _ => by rfl) ?_ | refine run_faz rfl (fun _ => by rfl) (fun _ => by rfl) ?_ | refine run_fa rfl (fun _ => by rfl) (fun _ => by rfl) ?_ | refine run_p (fun _ => rfl) rfl ?_ | refine run_n rfl (fun _ => rfl) ?_ | refine run_y (fun _ => rfl) rfl (fun _ => rfl) ?_ | refine run_seq ?_ | refine run_region ?_ | refine run_ops_nil ?_ | refine run_block ?_ | refine run_skip ?_ | refine run_inBlock ?_ | refine run_exit rfl ?_))
  refine run_call rfl (fun _ => by rfl) (fun _ => by kernel_rfl) (at_yes hT pid hr) ?_
  rintro v H' M' ⟨rfl, rfl, rfl⟩
  (repeat (first | first | refine run_zfa rfl (fun _ => by rfl) (fun _ => by rfl) ?_ | refine run_faz rfl (fun _ => by rfl) (fun _ => by rfl) ?_ | refine run_fa rfl (fun _ => by rfl) (fun _ => by rfl) ?_ | refine run_p (fun _ => rfl) rfl ?_ | refine run_n rfl (fun _ => rfl) ?_ | refine run_y (fun _ => rfl) rfl (fun _ => rfl) ?_ | refine run_seq ?_ | refine run_region ?_ | refine run_ops_nil ?_ | refine run_block ?_ | refine run_skip ?_ | refine run_inBlock ?_ | refine run_exit rfl ?_))
  refine run_cond _ (fun _ => by rfl) (fun hc => ?_) (fun hc => ?_)
  · cases hc
  (repeat (first | first | refine run_zfa rfl (fun _ => by rfl) (fun _ => by rfl) ?_ | refine run_faz rfl (fun _ => by rfl) (fun _ => by rfl) ?_ | refine run_fa rfl (fun _ => by rfl) (fun _ => by rfl) ?_ | refine run_p (fun _ => rfl) rfl ?_ | refine run_n rfl (fun _ => rfl) ?_ | refine run_y (fun _ => rfl) rfl (fun _ => rfl) ?_ | refine run_seq ?_ | refine run_region ?_ | refine run_ops_nil ?_ | refine run_block ?_ | refine run_skip ?_ | refine run_inBlock ?_ | refine run_exit rfl ?_))
  refine run_call rfl (fun _ => by rfl) (fun _ => by kernel_rfl) (free_ok hT pid.toNat (by omega)) ?_
  rintro v H' M' ⟨rfl, rfl, rfl⟩
  rw [hq]
  (repeat (first | first | refine run_zfa rfl (fun _ => by rfl) (fun _ => by rfl) ?_ | refine run_faz rfl (fun _ => by rfl) (fun _ => by rfl) ?_ | refine run_fa rfl (fun _ => by rfl) (fun _ => by rfl) ?_ | refine run_p (fun _ => rfl) rfl ?_ | refine run_n rfl (fun _ => rfl) ?_ | refine run_y (fun _ => rfl) rfl (fun _ => rfl) ?_ | refine run_seq ?_ | refine run_region ?_ | refine run_ops_nil ?_ | refine run_block ?_ | refine run_skip ?_ | refine run_inBlock ?_ | refine run_exit rfl ?_))
  refine run_loopI (fun i : Nat => [(0, .pointer (some ⟨b, 0, none⟩)), (5, .pointer (some ⟨r1, 0, none⟩)), (8, .pointer (some ⟨b, pid.toNat * 11, none⟩)), (10, .int .i64 f), (23, .int .i64 i)]) (fun i H1 M1 => i ≤ 16 ∧ T.file (16 - i) i = s ∧ H1 = H' ∧ M1 = M') (fun i => 16 - i) 0 (by intro j; repeat (first | exact trivial | refine ⟨rfl, ?_⟩)) ⟨by omega, hs, rfl, rfl⟩ ?_
  rintro i H1 M1 ⟨hi, he, rfl, rfl⟩ next
  (repeat (first | first | refine run_zfa rfl (fun _ => by rfl) (fun _ => by rfl) ?_ | refine run_faz rfl (fun _ => by rfl) (fun _ => by rfl) ?_ | refine run_fa rfl (fun _ => by rfl) (fun _ => by rfl) ?_ | refine run_p (fun _ => rfl) rfl ?_ | refine run_n rfl (fun _ => rfl) ?_ | refine run_y (fun _ => rfl) rfl (fun _ => rfl) ?_ | refine run_seq ?_ | refine run_region ?_ | refine run_ops_nil ?_ | refine run_block ?_ | refine run_skip ?_ | refine run_inBlock ?_ | refine run_exit rfl ?_))
  refine run_if (fun _ => by rfl) (fun hc => ?_) (fun hc => ?_)
  · obtain ⟨d, hd⟩ : ∃ d, 16 - i = d + 1 := ⟨15 - i, by omega⟩
    rw [hd, Tb.file] at he
    (repeat (first | first | refine run_zfa rfl (fun _ => by rfl) (fun _ => by rfl) ?_ | refine run_faz rfl (fun _ => by rfl) (fun _ => by rfl) ?_ | refine run_fa rfl (fun _ => by rfl) (fun _ => by rfl) ?_ | refine run_p (fun _ => rfl) rfl ?_ | refine run_n rfl (fun _ => rfl) ?_ | refine run_y (fun _ => rfl) rfl (fun _ => rfl) ?_ | refine run_seq ?_ | refine run_region ?_ | refine run_ops_nil ?_ | refine run_block ?_ | refine run_skip ?_ | refine run_inBlock ?_ | refine run_exit rfl ?_))
    rw [d0]
    (repeat (first | first | refine run_zfa rfl (fun _ => by rfl) (fun _ => by rfl) ?_ | refine run_faz rfl (fun _ => by rfl) (fun _ => by rfl) ?_ | refine run_fa rfl (fun _ => by rfl) (fun _ => by rfl) ?_ | refine run_p (fun _ => rfl) rfl ?_ | refine run_n rfl (fun _ => rfl) ?_ | refine run_y (fun _ => rfl) rfl (fun _ => rfl) ?_))
    first | refine run_zix rfl (fun _ => by rfl) (fun _ => by rfl) (fun _ => by rfl) (by omega) (by omega) ?_ | refine run_ix rfl (fun _ => by rfl) (fun _ => by rfl) (fun _ => by rfl) (by omega) (by omega) ?_
    simp only [Int.toNat_natCast]
    first | refine run_zfa rfl (fun _ => by rfl) (fun _ => by rfl) ?_ | refine run_faz rfl (fun _ => by rfl) (fun _ => by rfl) ?_ | refine run_fa rfl (fun _ => by rfl) (fun _ => by rfl) ?_
    refine run_ld _ _ _ rfl (fun _ => by rfl) (fun _ => by rfl) (.inl (hT)) (by exact T.get_us i (by omega) (by omega)) ?_
    (repeat (first | first | refine run_zfa rfl (fun _ => by rfl) (fun _ => by rfl) ?_ | refine run_faz rfl (fun _ => by rfl) (fun _ => by rfl) ?_ | refine run_fa rfl (fun _ => by rfl) (fun _ => by rfl) ?_ | refine run_p (fun _ => rfl) rfl ?_ | refine run_n rfl (fun _ => rfl) ?_ | refine run_y (fun _ => rfl) rfl (fun _ => rfl) ?_ | refine run_seq ?_ | refine run_region ?_ | refine run_ops_nil ?_ | refine run_block ?_ | refine run_skip ?_ | refine run_inBlock ?_ | refine run_exit rfl ?_))
    refine run_ieq (fun _ => by rfl) (fun hz => ?_) (fun hz => ?_)
    · rw [if_pos hz] at he
      subst he
      (repeat (first | first | refine run_zfa rfl (fun _ => by rfl) (fun _ => by rfl) ?_ | refine run_faz rfl (fun _ => by rfl) (fun _ => by rfl) ?_ | refine run_fa rfl (fun _ => by rfl) (fun _ => by rfl) ?_ | refine run_p (fun _ => rfl) rfl ?_ | refine run_n rfl (fun _ => rfl) ?_ | refine run_y (fun _ => rfl) rfl (fun _ => rfl) ?_ | refine run_seq ?_ | refine run_region ?_ | refine run_ops_nil ?_ | refine run_block ?_ | refine run_skip ?_ | refine run_inBlock ?_ | refine run_exit rfl ?_))
      refine run_tail 7 (by kernel_rfl) (by kernel_rfl) (l2 := ?l2) ?hq ?h
      case hq =>
        (repeat (first | first | refine ql_zfa rfl (fun _ => by rfl) (fun _ => by rfl) ?_ | refine ql_faz rfl (fun _ => by rfl) (fun _ => by rfl) ?_ | refine ql_fa rfl (fun _ => by rfl) (fun _ => by rfl) ?_ | refine ql_p (fun _ => rfl) rfl ?_ | refine ql_n rfl (fun _ => rfl) ?_ | refine ql_y (fun _ => rfl) rfl (fun _ => rfl) ?_))
        refine ql_ldN _ _ _ _ rfl (fun _ => by rfl) (fun _ => by rfl) (.inl (hR)) (by first | decide | exact Nat.le_refl _) (extract_whole rfl) ?_
        refine ql_bd ((x.vals.toList ++ [Value.int .i64 1]).toArray) rfl (fun _ => by rfl) (fun _ => by kernel_rfl) ?_
        (repeat (first | first | refine ql_zfa rfl (fun _ => by rfl) (fun _ => by rfl) ?_ | refine ql_faz rfl (fun _ => by rfl) (fun _ => by rfl) ?_ | refine ql_fa rfl (fun _ => by rfl) (fun _ => by rfl) ?_ | refine ql_p (fun _ => rfl) rfl ?_ | refine ql_n rfl (fun _ => rfl) ?_ | refine ql_y (fun _ => rfl) rfl (fun _ => rfl) ?_))
        first | refine ql_zix rfl (fun _ => by rfl) (fun _ => by rfl) (fun _ => by rfl) (by omega) (by omega) ?_ | refine ql_ix rfl (fun _ => by rfl) (fun _ => by rfl) (fun _ => by rfl) (by omega) (by omega) ?_
        exact .nil
      case h =>
      simp only [Int.toNat_natCast]
      refine tl_stA _ _ _ _ (tab 227 ((T.setOp i x).setUs i 1).cell) (fun _ => by rfl) (fun _ => by rfl) (fun _ => by rfl) hT (by rfl) (by rw [tab_size]; omega) (by rfl) (by exact T.put_file i (by omega)) (fun M2 hT k2 => ?_)
      refine tl_nil ?_
      (repeat (first | first | refine run_zfa rfl (fun _ => by rfl) (fun _ => by rfl) ?_ | refine run_faz rfl (fun _ => by rfl) (fun _ => by rfl) ?_ | refine run_fa rfl (fun _ => by rfl) (fun _ => by rfl) ?_ | refine run_p (fun _ => rfl) rfl ?_ | refine run_n rfl (fun _ => rfl) ?_ | refine run_y (fun _ => rfl) rfl (fun _ => rfl) ?_ | refine run_seq ?_ | refine run_region ?_ | refine run_ops_nil ?_ | refine run_block ?_ | refine run_skip ?_ | refine run_inBlock ?_ | refine run_exit rfl ?_))
      rw [wrap_nat (by omega)]
      (repeat (first | first | refine run_zfa rfl (fun _ => by rfl) (fun _ => by rfl) ?_ | refine run_faz rfl (fun _ => by rfl) (fun _ => by rfl) ?_ | refine run_fa rfl (fun _ => by rfl) (fun _ => by rfl) ?_ | refine run_p (fun _ => rfl) rfl ?_ | refine run_n rfl (fun _ => rfl) ?_ | refine run_y (fun _ => rfl) rfl (fun _ => rfl) ?_ | refine run_seq ?_ | refine run_region ?_ | refine run_ops_nil ?_ | refine run_block ?_ | refine run_skip ?_ | refine run_inBlock ?_ | refine run_exit rfl ?_))
      first | refine run_zix rfl (fun _ => by rfl) (fun _ => by rfl) (fun _ => by rfl) (by omega) (by omega) ?_ | refine run_ix rfl (fun _ => by rfl) (fun _ => by rfl) (fun _ => by rfl) (by omega) (by omega) ?_
      simp only [Int.toNat_natCast]
      refine run_stA _ _ _ _ (tab 227 (T.openT pid x f i).cell) (fun _ => by rfl) (fun _ => by rfl) (fun _ => by rfl) hT (by rfl) (by first | (rw [tab_size]; omega) | (simp; done) | decide | exact Nat.le_of_ble_eq_true rfl) (by rfl) (by exact ((T.setOp i x).setUs i 1).put_fd pid.toNat f (by omega) (by omega) hf8) (fun M3 hT k3 => ?_)
      (repeat (first | first | refine run_zfa rfl (fun _ => by rfl) (fun _ => by rfl) ?_ | refine run_faz rfl (fun _ => by rfl) (fun _ => by rfl) ?_ | refine run_fa rfl (fun _ => by rfl) (fun _ => by rfl) ?_ | refine run_p (fun _ => rfl) rfl ?_ | refine run_n rfl (fun _ => rfl) ?_ | refine run_y (fun _ => rfl) rfl (fun _ => rfl) ?_ | refine run_seq ?_ | refine run_region ?_ | refine run_ops_nil ?_ | refine run_block ?_ | refine run_skip ?_ | refine run_inBlock ?_ | refine run_exit rfl ?_))
      exact run_retc Try.func14 (fun _ => by kernel_rfl) (⟨rfl, (((Ch.refl _ _).new' k1).put' k2 in1).put' k3 in1, rfl, hT⟩)
    · rw [if_neg hz] at he
      (repeat (first | first | refine run_zfa rfl (fun _ => by rfl) (fun _ => by rfl) ?_ | refine run_faz rfl (fun _ => by rfl) (fun _ => by rfl) ?_ | refine run_fa rfl (fun _ => by rfl) (fun _ => by rfl) ?_ | refine run_p (fun _ => rfl) rfl ?_ | refine run_n rfl (fun _ => rfl) ?_ | refine run_y (fun _ => rfl) rfl (fun _ => rfl) ?_ | refine run_seq ?_ | refine run_region ?_ | refine run_ops_nil ?_ | refine run_block ?_ | refine run_skip ?_ | refine run_inBlock ?_ | refine run_exit rfl ?_))
      rw [wrap_nat (by omega)]
      exact run_keep _ (by intro j; repeat (first | exact trivial | refine ⟨rfl, ?_⟩)) (next (i + 1) _ _ ⟨by omega, by rw [show 16 - (i + 1) = d by omega]; exact he, rfl, rfl⟩ (by omega))
  · have : i = 16 := by omega
    subst this
    have : s = none := by rw [← he]; rfl
    subst this
    (repeat (first | first | refine run_zfa rfl (fun _ => by rfl) (fun _ => by rfl) ?_ | refine run_faz rfl (fun _ => by rfl) (fun _ => by rfl) ?_ | refine run_fa rfl (fun _ => by rfl) (fun _ => by rfl) ?_ | refine run_p (fun _ => rfl) rfl ?_ | refine run_n rfl (fun _ => rfl) ?_ | refine run_y (fun _ => rfl) rfl (fun _ => rfl) ?_ | refine run_seq ?_ | refine run_region ?_ | refine run_ops_nil ?_ | refine run_block ?_ | refine run_skip ?_ | refine run_inBlock ?_ | refine run_exit rfl ?_))
    exact run_retc Try.func14 (fun _ => by kernel_rfl) (⟨rfl, (Ch.refl _ _).new' k1, rfl, hT⟩)
/-- whom a process waits for: the first child that has ended; else whether it has a child -/
def _root_.Go.Cam.Tb.ripe (T : Tb) (pid : Int) : Nat → Nat → Option Nat
  | 0, _ => none
  | d + 1, i => if T.st i = 0 ∨ T.par i ≠ pid then T.ripe pid d (i + 1) else if T.st i = 2 then some i else T.ripe pid d (i + 1)
def _root_.Go.Cam.Tb.kid (T : Tb) (pid : Int) : Nat → Nat → Bool → Bool
  | 0, _, q => q
  | d + 1, i, q => if T.st i = 0 ∨ T.par i ≠ pid then T.kid pid d (i + 1) q else T.kid pid d (i + 1) true
def _root_.Go.Cam.Tb.waitT (T : Tb) (i : Nat) : Tb := T.setProc i 0 0 0 (fun _ => 0)
theorem wait_no {H M : Heap} {b : Nat} {T : Tb} (hT : M b = some T.obj) (pid : Int) (hr : T.runs pid = false) :
    ACalls Try.prog 13 #[.pointer (some ⟨b,0,none⟩), .int .i64 pid] H M (fun v H' M' => v = .tuple #[.int .i64 0, .int .i64 0, .bool false, .int .i64 25] ∧ H' = H ∧ M' = M) := by
  refine enter (args := [_, _]) Try.func13 rfl rfl (by show (2 : Nat) ≤ 55; decide) ?_
  (repeat (first | first | refine run_zfa rfl (fun _ => by rfl) (fun _ => by rfl) ?_ | refine run_faz rfl (fun _ => by rfl) (fun _ => by rfl) ?_ | refine run_fa rfl (fun _ => by rfl) (fun _ => by rfl) ?_ | refine run_p (fun _ => rfl) rfl ?_ | refine run_n rfl (fun _ => rfl) ?_ | refine run_y (fun _ => rfl) rfl (fun _ => rfl) ?_ | refine run_seq ?_ | refine run_region ?_ | refine run_ops_nil ?_ | refine run_block ?_ | refine run_skip ?_ | refine run_inBlock ?_ | refine run_exit rfl ?_))
  refine run_call rfl (fun _ => by rfl) (fun _ => by kernel_rfl) (at_no hT pid hr) ?_
  rintro v H' M' ⟨rfl, rfl, rfl⟩
  (repeat (first | first | refine run_zfa rfl (fun _ => by rfl) (fun _ => by rfl) ?_ | refine run_faz rfl (fun _ => by rfl) (fun _ => by rfl) ?_ | refine run_fa rfl (fun _ => by rfl) (fun _ => by rfl) ?_ | refine run_p (fun _ => rfl) rfl ?_ | refine run_n rfl (fun _ => rfl) ?_ | refine run_y (fun _ => rfl) rfl (fun _ => rfl) ?_ | refine run_seq ?_ | refine run_region ?_ | refine run_ops_nil ?_ | refine run_block ?_ | refine run_skip ?_ | refine run_inBlock ?_ | refine run_exit rfl ?_))
  refine run_cond _ (fun _ => by rfl) (fun hc => ?_) (fun hc => ?_)
  · (repeat (first | first | refine run_zfa rfl (fun _ => by rfl) (fun _ => by rfl) ?_ | refine run_faz rfl (fun _ => by rfl) (fun _ => by rfl) ?_ | refine run_fa rfl (fun _ => by rfl) (fun _ => by rfl) ?_ | refine run_p (fun _ => rfl) rfl ?_ | refine run_n rfl (fun _ => rfl) ?_ | refine run_y (fun _ => rfl) rfl (fun _ => rfl) ?_ | refine run_seq ?_ | refine run_region ?_ | refine run_ops_nil ?_ | refine run_block ?_ | refine run_skip ?_ | refine run_inBlock ?_ | refine run_exit rfl ?_))
    exact run_retc Try.func13 (fun _ => by kernel_rfl) (⟨rfl, rfl, rfl⟩)
  · cases hc
def proc (T : Tb) (i : Nat) : Array Value := #[.int .i64 (T.st i), .int .i64 (T.par i), .int .i64 (T.code i), .int .i64 (T.fd i 0), .int .i64 (T.fd i 1), .int .i64 (T.fd i 2), .int .i64 (T.fd i 3), .int .i64 (T.fd i 4), .int .i64 (T.fd i 5), .int .i64 (T.fd i 6), .int .i64 (T.fd i 7)]
def procZ : Array Value := #[.int .i64 0, .int .i64 0, .int .i64 0, .int .i64 0, .int .i64 0, .int .i64 0, .int .i64 0, .int .i64 0, .int .i64 0, .int .i64 0, .int .i64 0]
theorem ext_procs (T : Tb) : (tab 227 T.cell).extract 0 (0 + 99) = tab 99 T.cell := by
  rw [extract_tab (by omega)]; exact tab_ext fun i _ => by rw [Nat.zero_add]
theorem ext_proc (T : Tb) {i : Nat} (hi : i < 9) : (tab 99 T.cell).extract (i * 11) (i * 11 + 11) = proc T i := by
  rw [extract_tab (by omega)]
  show tab 11 _ = tab 11 (fun r => ((proc T i)[r]?).getD undef)
  refine tab_ext fun r hr => ?_
  match r, hr with
  | 0, _ => exact T.cell_st i (by omega) hi
  | 1, _ => exact T.cell_par i (by omega) hi
  | 2, _ => exact T.cell_code i (by omega) hi
  | 3, _ => exact T.cell_fd i 0 (by omega) hi (by omega)
  | 4, _ => exact T.cell_fd i 1 (by omega) hi (by omega)
  | 5, _ => exact T.cell_fd i 2 (by omega) hi (by omega)
  | 6, _ => exact T.cell_fd i 3 (by omega) hi (by omega)
  | 7, _ => exact T.cell_fd i 4 (by omega) hi (by omega)
  | 8, _ => exact T.cell_fd i 5 (by omega) hi (by omega)
  | 9, _ => exact T.cell_fd i 6 (by omega) hi (by omega)
  | 10, _ => exact T.cell_fd i 7 (by omega) hi (by omega)
set_option maxHeartbeats 2000000 in
theorem wait_ok {H M : Heap} {b : Nat} {T : Tb} (hT : M b = some T.obj) (pid : Int) (hr : T.runs pid = true) :
    ACalls Try.prog 13 #[.pointer (some ⟨b,0,none⟩), .int .i64 pid] H M (fun v H' M' => H' = H ∧ Ch [b] M M' ∧
      match T.ripe pid 9 0 with
      | some i => v = .tuple #[.int .i64 i, .int .i64 (T.code i), .bool false, .int .i64 0] ∧ M' b = some (T.waitT i).obj
      | none => v = .tuple #[.int .i64 0, .int .i64 0, .bool (T.kid pid 9 0 false), .int .i64 (if T.kid pid 9 0 false then 0 else 23)] ∧ M' b = some T.obj) := by
  have hp := runs_bd hr
  generalize hs : T.ripe pid 9 0 = s
  generalize hk : T.kid pid 9 0 false = q0
  refine enter (args := [_, _]) Try.func13 rfl rfl (by show (2 : Nat) ≤ 55; decide) ?_
  (repeat (first | first | refine run_zfa rfl (fun _ => by rfl) (fun _ => by rfl) ?_ | refine run_faz rfl (fun _ => by rfl) (fun _ => by rfl) ?_ | refine run_fa rfl (fun _ => by rfl) (fun _ => by rfl) ?_ | refine run_p (fun _ => rfl) rfl ?_ | refine run_n rfl (fun _ => rfl) ?_ | refine run_y (fun _ => rfl) rfl (fun _ => rfl) ?_ | refine run_seq ?_ | refine run_region ?_ | refine run_ops_nil ?_ | refine run_block ?_ | refine run_skip ?_ | refine run_inBlock ?_ | refine run_exit rfl ?_))
  refine run_call rfl (fun _ => by rfl) (fun _ => by kernel_rfl) (at_yes hT pid hr) ?_
  rintro v H' M' ⟨rfl, rfl, rfl⟩
  (repeat (first | first | refine run_zfa rfl (fun _ => by rfl) (fun _ => by rfl) ?_ | refine run_faz rfl (fun _ => by rfl) (fun _ => by rfl) ?_ | refine run_fa rfl (fun _ => by rfl) (fun _ => by rfl) ?_ | refine run_p (fun _ => rfl) rfl ?_ | refine run_n rfl (fun _ => rfl) ?_ | refine run_y (fun _ => rfl) rfl (fun _ => rfl) ?_ | refine run_seq ?_ | refine run_region ?_ | refine run_ops_nil ?_ | refine run_block ?_ | refine run_skip ?_ | refine run_inBlock ?_ | refine run_exit rfl ?_))
  refine run_cond _ (fun _ => by rfl) (fun hc => ?_) (fun hc => ?_)
  · cases hc
  (repeat (first | first | refine run_zfa rfl (fun _ => by rfl) (fun _ => by rfl) ?_ | refine run_faz rfl (fun _ => by rfl) (fun _ => by rfl) ?_ | refine run_fa rfl (fun _ => by rfl) (fun _ => by rfl) ?_ | refine run_p (fun _ => rfl) rfl ?_ | refine run_n rfl (fun _ => rfl) ?_ | refine run_y (fun _ => rfl) rfl (fun _ => rfl) ?_ | refine run_seq ?_ | refine run_region ?_ | refine run_ops_nil ?_ | refine run_block ?_ | refine run_skip ?_ | refine run_inBlock ?_ | refine run_exit rfl ?_))
  refine run_ldN _ _ _ (tab 99 T.cell) rfl (fun _ => by rfl) (fun _ => by rfl) (.inl (hT)) (by first | (rw [tab_size]; omega) | (simp; done) | decide | exact Nat.le_of_ble_eq_true rfl) (by exact ext_procs T) ?_
  (repeat (first | first | refine run_zfa rfl (fun _ => by rfl) (fun _ => by rfl) ?_ | refine run_faz rfl (fun _ => by rfl) (fun _ => by rfl) ?_ | refine run_fa rfl (fun _ => by rfl) (fun _ => by rfl) ?_ | refine run_p (fun _ => rfl) rfl ?_ | refine run_n rfl (fun _ => rfl) ?_ | refine run_y (fun _ => rfl) rfl (fun _ => rfl) ?_ | refine run_seq ?_ | refine run_region ?_ | refine run_ops_nil ?_ | refine run_block ?_ | refine run_skip ?_ | refine run_inBlock ?_ | refine run_exit rfl ?_))
  refine run_loopI (fun x : Nat × Bool => [(0, .pointer (some ⟨b, 0, none⟩)), (1, .int .i64 pid), (6, .bool x.2), (7, .int .i64 (if x.2 then 0 else 23)), (24, .agg (tab 99 T.cell)), (25, .int .i64 x.1)])
    (fun x H1 M1 => x.1 ≤ 9 ∧ T.ripe pid (9 - x.1) x.1 = s ∧ T.kid pid (9 - x.1) x.1 x.2 = q0 ∧ H1 = H' ∧ M1 b = some T.obj ∧ Ch [b] M' M1) (fun x => 9 - x.1) (0, false) (by intro j; repeat (first | exact trivial | refine ⟨rfl, ?_⟩)) ⟨by omega, hs, hk, rfl, hT, Ch.refl _ _⟩ ?_
  clear hT
  rintro ⟨i, q⟩ H1 M1 ⟨hi, he, hk, rfl, hT, hch⟩ next
  dsimp only at hi he hk
  (repeat (first | first | refine run_zfa rfl (fun _ => by rfl) (fun _ => by rfl) ?_ | refine run_faz rfl (fun _ => by rfl) (fun _ => by rfl) ?_ | refine run_fa rfl (fun _ => by rfl) (fun _ => by rfl) ?_ | refine run_p (fun _ => rfl) rfl ?_ | refine run_n rfl (fun _ => rfl) ?_ | refine run_y (fun _ => rfl) rfl (fun _ => rfl) ?_ | refine run_seq ?_ | refine run_region ?_ | refine run_ops_nil ?_ | refine run_block ?_ | refine run_skip ?_ | refine run_inBlock ?_ | refine run_exit rfl ?_))
  refine run_if (fun _ => by rfl) (fun hc => ?_) (fun hc => ?_)
  · obtain ⟨d, hd⟩ : ∃ d, 9 - i = d + 1 := ⟨8 - i, by omega⟩
    rw [hd, Tb.ripe] at he
    rw [hd, Tb.kid] at hk
    (repeat (first | first | refine run_zfa rfl (fun _ => by rfl) (fun _ => by rfl) ?_ | refine run_faz rfl (fun _ => by rfl) (fun _ => by rfl) ?_ | refine run_fa rfl (fun _ => by rfl) (fun _ => by rfl) ?_ | refine run_p (fun _ => rfl) rfl ?_ | refine run_n rfl (fun _ => rfl) ?_ | refine run_y (fun _ => rfl) rfl (fun _ => rfl) ?_ | refine run_seq ?_ | refine run_region ?_ | refine run_ops_nil ?_ | refine run_block ?_ | refine run_skip ?_ | refine run_inBlock ?_ | refine run_exit rfl ?_))
    refine run_ixA (proc T i) rfl (fun _ => by rfl) (fun _ => by rfl) (fun _ => by rfl) (by omega) (by omega) (by exact by rw [Int.toNat_natCast]; exact ext_proc T (by omega)) ?_
    (repeat (first | first | refine run_zfa rfl (fun _ => by rfl) (fun _ => by rfl) ?_ | refine run_faz rfl (fun _ => by rfl) (fun _ => by rfl) ?_ | refine run_fa rfl (fun _ => by rfl) (fun _ => by rfl) ?_ | refine run_p (fun _ => rfl) rfl ?_ | refine run_n rfl (fun _ => rfl) ?_ | refine run_y (fun _ => rfl) rfl (fun _ => rfl) ?_ | refine run_seq ?_ | refine run_region ?_ | refine run_ops_nil ?_ | refine run_block ?_ | refine run_skip ?_ | refine run_inBlock ?_ | refine run_exit rfl ?_))
    refine run_newA (.cells procZ 60 (0, 0)) rfl (fun _ => by rfl) (fun _ => by kernel_rfl) (fun r2 M2 hX k2 => ?_)
    have n2 := (k2 _ _ hT).2
    replace hT := (k2 _ _ hT).1
    have hr2 := New.none hch k2 (nin1 n2)
    (repeat (first | first | refine run_zfa rfl (fun _ => by rfl) (fun _ => by rfl) ?_ | refine run_faz rfl (fun _ => by rfl) (fun _ => by rfl) ?_ | refine run_fa rfl (fun _ => by rfl) (fun _ => by rfl) ?_ | refine run_p (fun _ => rfl) rfl ?_ | refine run_n rfl (fun _ => rfl) ?_ | refine run_y (fun _ => rfl) rfl (fun _ => rfl) ?_ | refine run_seq ?_ | refine run_region ?_ | refine run_ops_nil ?_ | refine run_block ?_ | refine run_skip ?_ | refine run_inBlock ?_ | refine run_exit rfl ?_))
    refine run_stA _ _ _ _ (proc T i) (fun _ => by rfl) (fun _ => by rfl) (fun _ => by rfl) hX (by kernel_rfl) (by first | decide | exact Nat.le_refl _) (by kernel_rfl) (by kernel_rfl) (fun M3 hX k3 => ?_)
    replace hT := k3 _ _ n2 hT
    have hch3 : Ch [b] M' M3 := (hch.new' k2).box' k3 hr2
    clear hch k2 k3
    (repeat (first | first | refine run_zfa rfl (fun _ => by rfl) (fun _ => by rfl) ?_ | refine run_faz rfl (fun _ => by rfl) (fun _ => by rfl) ?_ | refine run_fa rfl (fun _ => by rfl) (fun _ => by rfl) ?_ | refine run_p (fun _ => rfl) rfl ?_ | refine run_n rfl (fun _ => rfl) ?_ | refine run_y (fun _ => rfl) rfl (fun _ => rfl) ?_ | refine run_seq ?_ | refine run_region ?_ | refine run_ops_nil ?_ | refine run_block ?_ | refine run_skip ?_ | refine run_inBlock ?_ | refine run_exit rfl ?_))
    refine run_ld _ _ _ rfl (fun _ => by rfl) (fun _ => by rfl) (.inl (hX)) (by exact (rfl : (proc T i)[0]? = some (.int .i64 (T.st i)))) ?_
    refine run_cut 8 (fun q1 : Bool => [(0, .pointer (some ⟨b, 0, none⟩)), (1, .int .i64 pid), (6, .bool q), (7, .int .i64 (if q then 0 else 23)), (24, .agg (tab 99 T.cell)), (25, .int .i64 i), (10, .int .i64 i), (11, .pointer (some ⟨r2, 0, none⟩)), (29, .bool q1)])
      (fun q1 => q1 = decide (T.st i = 0 ∨ T.par i ≠ pid)) (fun q1 hq1 => ?_) (fun K => ?_)
    · subst hq1
      (repeat (first | first | refine run_zfa rfl (fun _ => by rfl) (fun _ => by rfl) ?_ | refine run_faz rfl (fun _ => by rfl) (fun _ => by rfl) ?_ | refine run_fa rfl (fun _ => by rfl) (fun _ => by rfl) ?_ | refine run_p (fun _ => rfl) rfl ?_ | refine run_n rfl (fun _ => rfl) ?_ | refine run_y (fun _ => rfl) rfl (fun _ => rfl) ?_ | refine run_seq ?_ | refine run_region ?_ | refine run_ops_nil ?_ | refine run_block ?_ | refine run_skip ?_ | refine run_inBlock ?_ | refine run_exit rfl ?_))
      refine run_if (fun _ => by rfl) (fun hq => ?_) (fun hq => ?_)
      · rw [if_pos hq] at he hk
        (repeat (first | first | refine run_zfa rfl (fun _ => by rfl) (fun _ => by rfl) ?_ | refine run_faz rfl (fun _ => by rfl) (fun _ => by rfl) ?_ | refine run_fa rfl (fun _ => by rfl) (fun _ => by rfl) ?_ | refine run_p (fun _ => rfl) rfl ?_ | refine run_n rfl (fun _ => rfl) ?_ | refine run_y (fun _ => rfl) rfl (fun _ => rfl) ?_ | refine run_seq ?_ | refine run_region ?_ | refine run_ops_nil ?_ | refine run_block ?_ | refine run_skip ?_ | refine run_inBlock ?_ | refine run_exit rfl ?_))
        rw [wrap_nat (by omega)]
        exact run_keep _ (by intro j; repeat (first | exact trivial | refine ⟨rfl, ?_⟩)) (next (i + 1, q) _ _ ⟨by dsimp only; omega, by dsimp only; rw [show 9 - (i + 1) = d by omega]; exact he, by dsimp only; rw [show 9 - (i + 1) = d by omega]; exact hk, rfl, hT, hch3⟩ (by dsimp only; omega))
      · rw [if_neg hq] at he hk
        (repeat (first | first | refine run_zfa rfl (fun _ => by rfl) (fun _ => by rfl) ?_ | refine run_faz rfl (fun _ => by rfl) (fun _ => by rfl) ?_ | refine run_fa rfl (fun _ => by rfl) (fun _ => by rfl) ?_ | refine run_p (fun _ => rfl) rfl ?_ | refine run_n rfl (fun _ => rfl) ?_ | refine run_y (fun _ => rfl) rfl (fun _ => rfl) ?_ | refine run_seq ?_ | refine run_region ?_ | refine run_ops_nil ?_ | refine run_block ?_ | refine run_skip ?_ | refine run_inBlock ?_ | refine run_exit rfl ?_))
        refine run_ld _ _ _ rfl (fun _ => by rfl) (fun _ => by rfl) (.inl (hX)) (by exact (rfl : (proc T i)[0]? = some (.int .i64 (T.st i)))) ?_
        (repeat (first | first | refine run_zfa rfl (fun _ => by rfl) (fun _ => by rfl) ?_ | refine run_faz rfl (fun _ => by rfl) (fun _ => by rfl) ?_ | refine run_fa rfl (fun _ => by rfl) (fun _ => by rfl) ?_ | refine run_p (fun _ => rfl) rfl ?_ | refine run_n rfl (fun _ => rfl) ?_ | refine run_y (fun _ => rfl) rfl (fun _ => rfl) ?_ | refine run_seq ?_ | refine run_region ?_ | refine run_ops_nil ?_ | refine run_block ?_ | refine run_skip ?_ | refine run_inBlock ?_ | refine run_exit rfl ?_))
        refine run_ieq (fun _ => by rfl) (fun h2 => ?_) (fun h2 => ?_)
        · rw [if_pos h2] at he
          subst he
          (repeat (first | first | refine run_zfa rfl (fun _ => by rfl) (fun _ => by rfl) ?_ | refine run_faz rfl (fun _ => by rfl) (fun _ => by rfl) ?_ | refine run_fa rfl (fun _ => by rfl) (fun _ => by rfl) ?_ | refine run_p (fun _ => rfl) rfl ?_ | refine run_n rfl (fun _ => rfl) ?_ | refine run_y (fun _ => rfl) rfl (fun _ => rfl) ?_ | refine run_seq ?_ | refine run_region ?_ | refine run_ops_nil ?_ | refine run_block ?_ | refine run_skip ?_ | refine run_inBlock ?_ | refine run_exit rfl ?_))
          refine run_bd (procZ) rfl (fun _ => by rfl) (fun _ => by kernel_rfl) ?_
          (repeat (first | first | refine run_zfa rfl (fun _ => by rfl) (fun _ => by rfl) ?_ | refine run_faz rfl (fun _ => by rfl) (fun _ => by rfl) ?_ | refine run_fa rfl (fun _ => by rfl) (fun _ => by rfl) ?_ | refine run_p (fun _ => rfl) rfl ?_ | refine run_n rfl (fun _ => rfl) ?_ | refine run_y (fun _ => rfl) rfl (fun _ => rfl) ?_ | refine run_seq ?_ | refine run_region ?_ | refine run_ops_nil ?_ | refine run_block ?_ | refine run_skip ?_ | refine run_inBlock ?_ | refine run_exit rfl ?_))
          first | refine run_zix rfl (fun _ => by rfl) (fun _ => by rfl) (fun _ => by rfl) (by omega) (by omega) ?_ | refine run_ix rfl (fun _ => by rfl) (fun _ => by rfl) (fun _ => by rfl) (by omega) (by omega) ?_
          simp only [Int.toNat_natCast]
          refine run_stA _ _ _ _ (tab 227 (T.waitT i).cell) (fun _ => by rfl) (fun _ => by rfl) (fun _ => by rfl) hT (by rfl) (by first | (rw [tab_size]; omega) | (simp; done) | decide | exact Nat.le_of_ble_eq_true rfl) (by rfl) (by exact T.put_proc (g := fun _ => 0) i (by omega) (by omega)) (fun M4 hT k4 => ?_)
          replace hX := k4 _ _ n2.symm hX
          (repeat (first | first | refine run_zfa rfl (fun _ => by rfl) (fun _ => by rfl) ?_ | refine run_faz rfl (fun _ => by rfl) (fun _ => by rfl) ?_ | refine run_fa rfl (fun _ => by rfl) (fun _ => by rfl) ?_ | refine run_p (fun _ => rfl) rfl ?_ | refine run_n rfl (fun _ => rfl) ?_ | refine run_y (fun _ => rfl) rfl (fun _ => rfl) ?_ | refine run_seq ?_ | refine run_region ?_ | refine run_ops_nil ?_ | refine run_block ?_ | refine run_skip ?_ | refine run_inBlock ?_ | refine run_exit rfl ?_))
          refine run_quiet (l2 := ?l2) (by kernel_rfl) (by kernel_rfl) ?hq ?h
          case hq =>
            (repeat (first | first | refine ql_zfa rfl (fun _ => by rfl) (fun _ => by rfl) ?_ | refine ql_faz rfl (fun _ => by rfl) (fun _ => by rfl) ?_ | refine ql_fa rfl (fun _ => by rfl) (fun _ => by rfl) ?_ | refine ql_p (fun _ => rfl) rfl ?_ | refine ql_n rfl (fun _ => rfl) ?_ | refine ql_y (fun _ => rfl) rfl (fun _ => rfl) ?_))
            refine ql_ld _ _ _ rfl (fun _ => by rfl) (fun _ => by rfl) (.inl (hX)) (by exact (rfl : (proc T i)[2]? = some (.int .i64 (T.code i)))) ?_
            (repeat (first | first | refine ql_zfa rfl (fun _ => by rfl) (fun _ => by rfl) ?_ | refine ql_faz rfl (fun _ => by rfl) (fun _ => by rfl) ?_ | refine ql_fa rfl (fun _ => by rfl) (fun _ => by rfl) ?_ | refine ql_p (fun _ => rfl) rfl ?_ | refine ql_n rfl (fun _ => rfl) ?_ | refine ql_y (fun _ => rfl) rfl (fun _ => rfl) ?_))
            exact .nil
          case h =>
          (repeat (first | first | refine run_zfa rfl (fun _ => by rfl) (fun _ => by rfl) ?_ | refine run_faz rfl (fun _ => by rfl) (fun _ => by rfl) ?_ | refine run_fa rfl (fun _ => by rfl) (fun _ => by rfl) ?_ | refine run_p (fun _ => rfl) rfl ?_ | refine run_n rfl (fun _ => rfl) ?_ | refine run_y (fun _ => rfl) rfl (fun _ => rfl) ?_ | refine run_seq ?_ | refine run_region ?_ | refine run_ops_nil ?_ | refine run_block ?_ | refine run_skip ?_ | refine run_inBlock ?_ | refine run_exit rfl ?_))
          exact run_retc Try.func13 (fun _ => by kernel_rfl) (⟨rfl, hch3.put' k4 in1, rfl, hT⟩)
        · rw [if_neg h2] at he
          (repeat (first | first | refine run_zfa rfl (fun _ => by rfl) (fun _ => by rfl) ?_ | refine run_faz rfl (fun _ => by rfl) (fun _ => by rfl) ?_ | refine run_fa rfl (fun _ => by rfl) (fun _ => by rfl) ?_ | refine run_p (fun _ => rfl) rfl ?_ | refine run_n rfl (fun _ => rfl) ?_ | refine run_y (fun _ => rfl) rfl (fun _ => rfl) ?_ | refine run_seq ?_ | refine run_region ?_ | refine run_ops_nil ?_ | refine run_block ?_ | refine run_skip ?_ | refine run_inBlock ?_ | refine run_exit rfl ?_))
          rw [wrap_nat (by omega)]
          exact run_keep _ (by intro j; repeat (first | exact trivial | refine ⟨rfl, ?_⟩)) (next (i + 1, true) _ _ ⟨by dsimp only; omega, by dsimp only; rw [show 9 - (i + 1) = d by omega]; exact he, by dsimp only; rw [show 9 - (i + 1) = d by omega]; exact hk, rfl, hT, hch3⟩ (by dsimp only; omega))
    · (repeat (first | first | refine run_zfa rfl (fun _ => by rfl) (fun _ => by rfl) ?_ | refine run_faz rfl (fun _ => by rfl) (fun _ => by rfl) ?_ | refine run_fa rfl (fun _ => by rfl) (fun _ => by rfl) ?_ | refine run_p (fun _ => rfl) rfl ?_ | refine run_n rfl (fun _ => rfl) ?_ | refine run_y (fun _ => rfl) rfl (fun _ => rfl) ?_))
      cases h1 : (T.st i == 0)
      · (repeat (first | first | refine run_zfa rfl (fun _ => by rfl) (fun _ => by rfl) ?_ | refine run_faz rfl (fun _ => by rfl) (fun _ => by rfl) ?_ | refine run_fa rfl (fun _ => by rfl) (fun _ => by rfl) ?_ | refine run_p (fun _ => rfl) rfl ?_ | refine run_n rfl (fun _ => rfl) ?_ | refine run_y (fun _ => rfl) rfl (fun _ => rfl) ?_))
        refine run_ld _ _ _ rfl (fun _ => by rfl) (fun _ => by rfl) (.inl (hX)) (by exact (rfl : (proc T i)[1]? = some (.int .i64 (T.par i)))) ?_
        (repeat (first | first | refine run_zfa rfl (fun _ => by rfl) (fun _ => by rfl) ?_ | refine run_faz rfl (fun _ => by rfl) (fun _ => by rfl) ?_ | refine run_fa rfl (fun _ => by rfl) (fun _ => by rfl) ?_ | refine run_p (fun _ => rfl) rfl ?_ | refine run_n rfl (fun _ => rfl) ?_ | refine run_y (fun _ => rfl) rfl (fun _ => rfl) ?_))
        exact run_keep [_, _, _, _, _, _, _, _, _] (by intro j; repeat (first | exact trivial | refine ⟨rfl, ?_⟩)) (K _ (by
          have h1' : ¬ T.st i = 0 := by simpa using h1
          by_cases h2 : T.par i = pid
          · simp [h1', h2]
          · simp [h1', h2]))
      · (repeat (first | first | refine run_zfa rfl (fun _ => by rfl) (fun _ => by rfl) ?_ | refine run_faz rfl (fun _ => by rfl) (fun _ => by rfl) ?_ | refine run_fa rfl (fun _ => by rfl) (fun _ => by rfl) ?_ | refine run_p (fun _ => rfl) rfl ?_ | refine run_n rfl (fun _ => rfl) ?_ | refine run_y (fun _ => rfl) rfl (fun _ => rfl) ?_))
        exact run_keep [_, _, _, _, _, _, _, _, _] (by intro j; repeat (first | exact trivial | refine ⟨rfl, ?_⟩)) (K _ (by simp at h1; simp [h1]))
  · have : i = 9 := by omega
    subst this
    have : s = none := by rw [← he]; rfl
    subst this
    have : q0 = q := by rw [← hk]; rfl
    subst this
    (repeat (first | first | refine run_zfa rfl (fun _ => by rfl) (fun _ => by rfl) ?_ | refine run_faz rfl (fun _ => by rfl) (fun _ => by rfl) ?_ | refine run_fa rfl (fun _ => by rfl) (fun _ => by rfl) ?_ | refine run_p (fun _ => rfl) rfl ?_ | refine run_n rfl (fun _ => rfl) ?_ | refine run_y (fun _ => rfl) rfl (fun _ => rfl) ?_ | refine run_seq ?_ | refine run_region ?_ | refine run_ops_nil ?_ | refine run_block ?_ | refine run_skip ?_ | refine run_inBlock ?_ | refine run_exit rfl ?_))
    exact run_retc Try.func13 (fun _ => by kernel_rfl) (⟨rfl, hch, rfl, hT⟩)
end Go.Proofs.Ytimaipclgmcekaa
