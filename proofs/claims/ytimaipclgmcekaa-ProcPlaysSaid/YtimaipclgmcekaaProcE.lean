/- New, Clone, Fork, Open. -/
import Derived.Test.YtimaipclgmcekaaProcD
namespace Go.Proofs.Ytimaipclgmcekaa
open Go.Cam
set_option maxRecDepth 100000
instance : BD Try.prog 66 (tab 227 Tb.zero.cell) [(0, 99), (99, 128)] := ⟨_, _, (by kernel_rfl : _ = some (.agg (tab 227 Tb.zero.cell))), rfl, Try.und65, by kernel_rfl⟩
theorem new_ok {H M : Heap} : ACalls Try.prog 8 #[] H M (fun v H' M' => ∃ r, v = .pointer (some ⟨r, 0, none⟩) ∧ H' = H ∧ M' r = some (Tb.zero.setSt 1 1).obj ∧ New M r M') := by
  refine enter (args := []) Try.func8 rfl rfl (by show (0 : Nat) ≤ 10; decide) ?_
  (repeat (first | first | refine run_zfa rfl (fun _ => by rfl) (fun _ => by rfl) ?_ | refine run_faz rfl (fun _ => by rfl) (fun _ => by rfl) ?_ | refine run_fa rfl (fun _ => by rfl) (fun _ => by rfl) ?_ | refine run_p (fun _ => rfl) rfl ?_ | refine run_n rfl (fun _ => rfl) ?_ | refine run_y (fun _ => rfl) rfl (fun _ => rfl) ?_ | refine run_seq ?_ | refine run_region ?_ | refine run_ops_nil ?_ | refine run_block ?_ | refine run_skip ?_ | refine run_inBlock ?_ | refine run_exit rfl ?_))
  refine run_bd (tab 227 Tb.zero.cell) rfl (fun _ => by rfl) (fun _ => by kernel_rfl) ?_
  refine run_newA (Tb.zero.obj) rfl (fun _ => by rfl) (fun _ => by kernel_rfl) (fun r1 M1 hT k1 => ?_)
  (repeat (first | first | refine run_zfa rfl (fun _ => by rfl) (fun _ => by rfl) ?_ | refine run_faz rfl (fun _ => by rfl) (fun _ => by rfl) ?_ | refine run_fa rfl (fun _ => by rfl) (fun _ => by rfl) ?_ | first | refine run_zix rfl (fun _ => by rfl) (fun _ => by rfl) (fun _ => by rfl) (by omega) (by omega) ?_ | refine run_ix rfl (fun _ => by rfl) (fun _ => by rfl) (fun _ => by rfl) (by omega) (by omega) ?_ | refine run_p (fun _ => rfl) rfl ?_ | refine run_n rfl (fun _ => rfl) ?_ | refine run_y (fun _ => rfl) rfl (fun _ => rfl) ?_ | refine run_seq ?_ | refine run_region ?_ | refine run_ops_nil ?_ | refine run_block ?_ | refine run_skip ?_ | refine run_inBlock ?_ | refine run_exit rfl ?_))
  refine run_stA _ _ _ _ (tab 227 (Tb.zero.setSt 1 1).cell) (fun _ => by rfl) (fun _ => by rfl) (fun _ => by rfl) hT (by rfl) (by first | (rw [tab_size]; omega) | (simp; done) | decide | exact Nat.le_of_ble_eq_true rfl) (by rfl) (by exact Tb.zero.put_st 1 (by omega) (by omega)) (fun M2 hT k2 => ?_)
  (repeat (first | first | refine run_zfa rfl (fun _ => by rfl) (fun _ => by rfl) ?_ | refine run_faz rfl (fun _ => by rfl) (fun _ => by rfl) ?_ | refine run_fa rfl (fun _ => by rfl) (fun _ => by rfl) ?_ | refine run_p (fun _ => rfl) rfl ?_ | refine run_n rfl (fun _ => rfl) ?_ | refine run_y (fun _ => rfl) rfl (fun _ => rfl) ?_ | refine run_seq ?_ | refine run_region ?_ | refine run_ops_nil ?_ | refine run_block ?_ | refine run_skip ?_ | refine run_inBlock ?_ | refine run_exit rfl ?_))
  exact run_retc Try.func8 (fun _ => by kernel_rfl) (⟨r1, rfl, rfl, hT, fun c o h => ⟨k2 _ _ (k1 _ _ h).2 (k1 _ _ h).1, (k1 _ _ h).2⟩⟩)
set_option maxHeartbeats 1000000 in
theorem clone_ok {H M : Heap} {b : Nat} {T : Tb} (hT : M b = some T.obj) : ACalls Try.prog 21 #[.pointer (some ⟨b, 0, none⟩)] H M (fun v H' M' => ∃ r, v = .pointer (some ⟨r, 0, none⟩) ∧ H' = H ∧ M' r = some T.obj ∧ New M r M') := by
  refine enter (args := [_]) Try.func21 rfl rfl (by show (1 : Nat) ≤ 7; decide) ?_
  (repeat (first | first | refine run_zfa rfl (fun _ => by rfl) (fun _ => by rfl) ?_ | refine run_faz rfl (fun _ => by rfl) (fun _ => by rfl) ?_ | refine run_fa rfl (fun _ => by rfl) (fun _ => by rfl) ?_ | refine run_p (fun _ => rfl) rfl ?_ | refine run_n rfl (fun _ => rfl) ?_ | refine run_y (fun _ => rfl) rfl (fun _ => rfl) ?_ | refine run_seq ?_ | refine run_region ?_ | refine run_ops_nil ?_ | refine run_block ?_ | refine run_skip ?_ | refine run_inBlock ?_ | refine run_exit rfl ?_))
  refine run_ldN _ _ _ (tab 227 T.cell) rfl (fun _ => by rfl) (fun _ => by rfl) (.inl (hT)) (by first | (rw [tab_size]; omega) | (simp; done) | decide | exact Nat.le_of_ble_eq_true rfl) (by exact extract_whole (tab_size _ _)) ?_
  refine run_newA (Tb.zero.obj) rfl (fun _ => by rfl) (fun _ => by kernel_rfl) (fun r1 M1 hX k1 => ?_)
  refine run_stA _ _ _ _ (tab 227 T.cell) (fun _ => by rfl) (fun _ => by rfl) (fun _ => by rfl) hX (by show (tab 227 T.cell).toList.length = 227; rw [Array.length_toList, tab_size]) (by rw [tab_size]; omega) (by exact tab_all T.cell_one) (by exact setL_whole (by show (tab 227 Tb.zero.cell).size = (tab 227 T.cell).toList.length; rw [Array.length_toList, tab_size, tab_size])) (fun M2 hX k2 => ?_)
  (repeat (first | first | refine run_zfa rfl (fun _ => by rfl) (fun _ => by rfl) ?_ | refine run_faz rfl (fun _ => by rfl) (fun _ => by rfl) ?_ | refine run_fa rfl (fun _ => by rfl) (fun _ => by rfl) ?_ | refine run_p (fun _ => rfl) rfl ?_ | refine run_n rfl (fun _ => rfl) ?_ | refine run_y (fun _ => rfl) rfl (fun _ => rfl) ?_ | refine run_seq ?_ | refine run_region ?_ | refine run_ops_nil ?_ | refine run_block ?_ | refine run_skip ?_ | refine run_inBlock ?_ | refine run_exit rfl ?_))
  exact run_retc Try.func21 (fun _ => by kernel_rfl) (⟨r1, rfl, rfl, hX, fun c o h => ⟨k2 _ _ (k1 _ _ h).2 (k1 _ _ h).1, (k1 _ _ h).2⟩⟩)
/-- the least number that is free -/
def _root_.Go.Cam.Tb.slot (T : Tb) : Nat → Nat → Option Nat
  | 0, _ => none
  | d + 1, i => if i < 1 ∨ T.st i ≠ 0 then T.slot d (i + 1) else some i
theorem slot_bd (T : Tb) : ∀ (d i q : Nat), T.slot d i = some q → i ≤ q ∧ q < i + d ∧ 1 ≤ q ∧ T.st q = 0
  | 0, i, q, h => by simp [Tb.slot] at h
  | d + 1, i, q, h => by
    unfold Tb.slot at h
    by_cases hc : i < 1 ∨ T.st i ≠ 0
    · rw [if_pos hc] at h
      have := slot_bd T d (i + 1) q h
      omega
    · rw [if_neg hc, Option.some.injEq] at h
      subst h
      refine ⟨by omega, by omega, by omega, ?_⟩
      by_cases h2 : T.st i = 0
      · exact h2
      · exact absurd (.inr h2) hc
/-- one user more for each descriptor -/
def incr (g : Nat → Int) : Nat → Nat → Tb → Tb
  | 0, _, T => T
  | d + 1, k, T => incr g d (k + 1) (if g k > 0 then T.setUs (g k - 1).toNat (T.us (g k - 1).toNat + 1) else T)
def _root_.Go.Cam.Tb.forkT (T : Tb) (pid : Int) (i : Nat) : Tb := incr (T.fd pid.toNat) 8 0 (T.setProc i 1 pid 0 (T.fd pid.toNat))
set_option maxHeartbeats 1000000 in
theorem fork_no {H M : Heap} {b : Nat} {T : Tb} (hT : M b = some T.obj) (pid : Int) (hr : T.runs pid = false) :
    ACalls Try.prog 9 #[.pointer (some ⟨b,0,none⟩), .int .i64 pid] H M (fun v H' M' => v = .tuple #[.int .i64 0, .int .i64 25] ∧ H' = H ∧ M' = M) := by
  refine enter (args := [_, _]) Try.func9 rfl rfl (by show (2 : Nat) ≤ 71; decide) ?_
  (repeat (first | first | refine run_zfa rfl (fun _ => by rfl) (fun _ => by rfl) ?_ | refine run_faz rfl (fun _ => by rfl) (fun _ => by rfl) ?_ | refine run_fa rfl (fun _ => by rfl) (fun _ => by rfl) ?_ | refine run_p (fun _ => rfl) rfl ?_ | refine run_n rfl (fun _ => rfl) ?_ | refine run_y (fun _ => rfl) rfl (fun _ => rfl) ?_ | refine run_seq ?_ | refine run_region ?_ | refine run_ops_nil ?_ | refine run_block ?_ | refine run_skip ?_ | refine run_inBlock ?_ | refine run_exit rfl ?_))
  refine run_call rfl (fun _ => by rfl) (fun _ => by kernel_rfl) (at_no hT pid hr) ?_
  rintro v H' M' ⟨rfl, rfl, rfl⟩
  (repeat (first | first | refine run_zfa rfl (fun _ => by rfl) (fun _ => by rfl) ?_ | refine run_faz rfl (fun _ => by rfl) (fun _ => by rfl) ?_ | refine run_fa rfl (fun _ => by rfl) (fun _ => by rfl) ?_ | refine run_p (fun _ => rfl) rfl ?_ | refine run_n rfl (fun _ => rfl) ?_ | refine run_y (fun _ => rfl) rfl (fun _ => rfl) ?_ | refine run_seq ?_ | refine run_region ?_ | refine run_ops_nil ?_ | refine run_block ?_ | refine run_skip ?_ | refine run_inBlock ?_ | refine run_exit rfl ?_))
  refine run_cond _ (fun _ => by rfl) (fun hc => ?_) (fun hc => ?_)
  · (repeat (first | first | refine run_zfa rfl (fun _ => by rfl) (fun _ => by rfl) ?_ | refine run_faz rfl (fun _ => by rfl) (fun _ => by rfl) ?_ | refine run_fa rfl (fun _ => by rfl) (fun _ => by rfl) ?_ | refine run_p (fun _ => rfl) rfl ?_ | refine run_n rfl (fun _ => rfl) ?_ | refine run_y (fun _ => rfl) rfl (fun _ => rfl) ?_ | refine run_seq ?_ | refine run_region ?_ | refine run_ops_nil ?_ | refine run_block ?_ | refine run_skip ?_ | refine run_inBlock ?_ | refine run_exit rfl ?_))
    exact run_retc Try.func9 (fun _ => by kernel_rfl) (⟨rfl, rfl, rfl⟩)
  · cases hc
set_option maxHeartbeats 2000000 in
theorem fork_ok {H M : Heap} {b : Nat} {T : Tb} (hT : M b = some T.obj) (pid : Int) (hr : T.runs pid = true) (hb : T.Bd) :
    ACalls Try.prog 9 #[.pointer (some ⟨b,0,none⟩), .int .i64 pid] H M (fun v H' M' => H' = H ∧ Ch [b] M M' ∧
      match T.slot 9 0 with
      | none => v = .tuple #[.int .i64 0, .int .i64 21] ∧ M' b = some T.obj
      | some i => v = .tuple #[.int .i64 i, .int .i64 0] ∧ M' b = some (T.forkT pid i).obj) := by
  have hp := runs_bd hr
  generalize hs : T.slot 9 0 = s
  refine enter (args := [_, _]) Try.func9 rfl rfl (by show (2 : Nat) ≤ 71; decide) ?_
  (repeat (first | first | refine run_zfa rfl (fun _ => by rfl) (fun _ => by rfl) ?_ | refine run_faz rfl (fun _ => by rfl) (fun _ => by rfl) ?_ | refine run_fa rfl (fun _ => by rfl) (fun _ => by rfl) ?_ | refine run_p (fun _ => rfl) rfl ?_ | refine run_n rfl (fun _ => rfl) ?_ | refine run_y (fun _ => rfl) rfl (fun _ => rfl) ?_ | refine run_seq ?_ | refine run_region ?_ | refine run_ops_nil ?_ | refine run_block ?_ | refine run_skip ?_ | refine run_inBlock ?_ | refine run_exit rfl ?_))
  refine run_call rfl (fun _ => by rfl) (fun _ => by kernel_rfl) (at_yes hT pid hr) ?_
  rintro v H' M' ⟨rfl, rfl, rfl⟩
  (repeat (first | first | refine run_zfa rfl (fun _ => by rfl) (fun _ => by rfl) ?_ | refine run_faz rfl (fun _ => by rfl) (fun _ => by rfl) ?_ | refine run_fa rfl (fun _ => by rfl) (fun _ => by rfl) ?_ | refine run_p (fun _ => rfl) rfl ?_ | refine run_n rfl (fun _ => rfl) ?_ | refine run_y (fun _ => rfl) rfl (fun _ => rfl) ?_ | refine run_seq ?_ | refine run_region ?_ | refine run_ops_nil ?_ | refine run_block ?_ | refine run_skip ?_ | refine run_inBlock ?_ | refine run_exit rfl ?_))
  refine run_cond _ (fun _ => by rfl) (fun hc => ?_) (fun hc => ?_)
  · cases hc
  (repeat (first | first | refine run_zfa rfl (fun _ => by rfl) (fun _ => by rfl) ?_ | refine run_faz rfl (fun _ => by rfl) (fun _ => by rfl) ?_ | refine run_fa rfl (fun _ => by rfl) (fun _ => by rfl) ?_ | refine run_p (fun _ => rfl) rfl ?_ | refine run_n rfl (fun _ => rfl) ?_ | refine run_y (fun _ => rfl) rfl (fun _ => rfl) ?_ | refine run_seq ?_ | refine run_region ?_ | refine run_ops_nil ?_ | refine run_block ?_ | refine run_skip ?_ | refine run_inBlock ?_ | refine run_exit rfl ?_))
  refine run_loopI (fun i : Nat => [(0, .pointer (some ⟨b, 0, none⟩)), (1, .int .i64 pid), (6, .pointer (some ⟨b, pid.toNat * 11, none⟩)), (20, .int .i64 i)]) (fun i H1 M1 => i ≤ 9 ∧ T.slot (9 - i) i = s ∧ H1 = H' ∧ M1 = M') (fun i => 9 - i) 0 (by intro j; repeat (first | exact trivial | refine ⟨rfl, ?_⟩)) ⟨by omega, hs, rfl, rfl⟩ ?_
  rintro i H1 M1 ⟨hi, he, rfl, rfl⟩ next
  (repeat (first | first | refine run_zfa rfl (fun _ => by rfl) (fun _ => by rfl) ?_ | refine run_faz rfl (fun _ => by rfl) (fun _ => by rfl) ?_ | refine run_fa rfl (fun _ => by rfl) (fun _ => by rfl) ?_ | refine run_p (fun _ => rfl) rfl ?_ | refine run_n rfl (fun _ => rfl) ?_ | refine run_y (fun _ => rfl) rfl (fun _ => rfl) ?_ | refine run_seq ?_ | refine run_region ?_ | refine run_ops_nil ?_ | refine run_block ?_ | refine run_skip ?_ | refine run_inBlock ?_ | refine run_exit rfl ?_))
  refine run_if (fun _ => by rfl) (fun hc => ?_) (fun hc => ?_)
  · obtain ⟨d, hd⟩ : ∃ d, 9 - i = d + 1 := ⟨8 - i, by omega⟩
    rw [hd, Tb.slot] at he
    (repeat (first | first | refine run_zfa rfl (fun _ => by rfl) (fun _ => by rfl) ?_ | refine run_faz rfl (fun _ => by rfl) (fun _ => by rfl) ?_ | refine run_fa rfl (fun _ => by rfl) (fun _ => by rfl) ?_ | refine run_p (fun _ => rfl) rfl ?_ | refine run_n rfl (fun _ => rfl) ?_ | refine run_y (fun _ => rfl) rfl (fun _ => rfl) ?_ | refine run_seq ?_ | refine run_region ?_ | refine run_ops_nil ?_ | refine run_block ?_ | refine run_skip ?_ | refine run_inBlock ?_ | refine run_exit rfl ?_))
    refine run_cut 12 (fun q : Bool => [(0, .pointer (some ⟨b, 0, none⟩)), (1, .int .i64 pid), (6, .pointer (some ⟨b, pid.toNat * 11, none⟩)), (20, .int .i64 i), (8, .int .i64 i), (34, .bool q)]) (fun q => q = decide (i < 1 ∨ T.st i ≠ 0)) (fun q hq => ?_) (fun K => ?_)
    · subst hq
      (repeat (first | first | refine run_zfa rfl (fun _ => by rfl) (fun _ => by rfl) ?_ | refine run_faz rfl (fun _ => by rfl) (fun _ => by rfl) ?_ | refine run_fa rfl (fun _ => by rfl) (fun _ => by rfl) ?_ | refine run_p (fun _ => rfl) rfl ?_ | refine run_n rfl (fun _ => rfl) ?_ | refine run_y (fun _ => rfl) rfl (fun _ => rfl) ?_ | refine run_seq ?_ | refine run_region ?_ | refine run_ops_nil ?_ | refine run_block ?_ | refine run_skip ?_ | refine run_inBlock ?_ | refine run_exit rfl ?_))
      refine run_if (fun _ => by rfl) (fun hq => ?_) (fun hq => ?_)
      · rw [if_pos hq] at he
        (repeat (first | first | refine run_zfa rfl (fun _ => by rfl) (fun _ => by rfl) ?_ | refine run_faz rfl (fun _ => by rfl) (fun _ => by rfl) ?_ | refine run_fa rfl (fun _ => by rfl) (fun _ => by rfl) ?_ | refine run_p (fun _ => rfl) rfl ?_ | refine run_n rfl (fun _ => rfl) ?_ | refine run_y (fun _ => rfl) rfl (fun _ => rfl) ?_ | refine run_seq ?_ | refine run_region ?_ | refine run_ops_nil ?_ | refine run_block ?_ | refine run_skip ?_ | refine run_inBlock ?_ | refine run_exit rfl ?_))
        rw [wrap_nat (by omega)]
        exact run_keep _ (by intro j; repeat (first | exact trivial | refine ⟨rfl, ?_⟩)) (next (i + 1) _ _ ⟨by omega, by rw [show 9 - (i + 1) = d by omega]; exact he, rfl, rfl⟩ (by omega))
      · rw [if_neg hq] at he
        subst he
        have hi1 : 1 ≤ i ∧ T.st i = 0 := by omega
        (repeat (first | first | refine run_zfa rfl (fun _ => by rfl) (fun _ => by rfl) ?_ | refine run_faz rfl (fun _ => by rfl) (fun _ => by rfl) ?_ | refine run_fa rfl (fun _ => by rfl) (fun _ => by rfl) ?_ | refine run_p (fun _ => rfl) rfl ?_ | refine run_n rfl (fun _ => rfl) ?_ | refine run_y (fun _ => rfl) rfl (fun _ => rfl) ?_ | refine run_seq ?_ | refine run_region ?_ | refine run_ops_nil ?_ | refine run_block ?_ | refine run_skip ?_ | refine run_inBlock ?_ | refine run_exit rfl ?_))
        refine run_tail 11 (by kernel_rfl) (by kernel_rfl) (l2 := ?l2) ?hq ?h
        case hq =>
          (repeat (first | first | refine ql_zfa rfl (fun _ => by rfl) (fun _ => by rfl) ?_ | refine ql_faz rfl (fun _ => by rfl) (fun _ => by rfl) ?_ | refine ql_fa rfl (fun _ => by rfl) (fun _ => by rfl) ?_ | refine ql_p (fun _ => rfl) rfl ?_ | refine ql_n rfl (fun _ => rfl) ?_ | refine ql_y (fun _ => rfl) rfl (fun _ => rfl) ?_))
          refine ql_ldN _ _ _ (tab 8 (fun k => .int .i64 (T.fd pid.toNat k))) rfl (fun _ => by rfl) (fun _ => by rfl) (.inl (hT)) (by first | (rw [tab_size]; omega) | (simp; done) | decide | exact Nat.le_of_ble_eq_true rfl) (by exact T.ext_fds pid.toNat (by omega) (by omega)) ?_
          refine ql_bd (#[.int .i64 1, .int .i64 pid, .int .i64 0, .int .i64 (T.fd pid.toNat 0), .int .i64 (T.fd pid.toNat 1), .int .i64 (T.fd pid.toNat 2), .int .i64 (T.fd pid.toNat 3), .int .i64 (T.fd pid.toNat 4), .int .i64 (T.fd pid.toNat 5), .int .i64 (T.fd pid.toNat 6), .int .i64 (T.fd pid.toNat 7)]) rfl (fun _ => by rfl) (fun _ => by kernel_rfl) ?_
          (repeat (first | first | refine ql_zfa rfl (fun _ => by rfl) (fun _ => by rfl) ?_ | refine ql_faz rfl (fun _ => by rfl) (fun _ => by rfl) ?_ | refine ql_fa rfl (fun _ => by rfl) (fun _ => by rfl) ?_ | refine ql_p (fun _ => rfl) rfl ?_ | refine ql_n rfl (fun _ => rfl) ?_ | refine ql_y (fun _ => rfl) rfl (fun _ => rfl) ?_))
          first | refine ql_zix rfl (fun _ => by rfl) (fun _ => by rfl) (fun _ => by rfl) (by omega) (by omega) ?_ | refine ql_ix rfl (fun _ => by rfl) (fun _ => by rfl) (fun _ => by rfl) (by omega) (by omega) ?_
          exact .nil
        case h =>
        simp only [Int.toNat_natCast]
        refine tl_stA _ _ _ _ (tab 227 (T.setProc i 1 pid 0 (T.fd pid.toNat)).cell) (fun _ => by rfl) (fun _ => by rfl) (fun _ => by rfl) hT (by rfl) (by rw [tab_size]; omega) (by rfl) (by exact T.put_proc (g := T.fd pid.toNat) i (by omega) (by omega)) (fun M2 hT k2 => ?_)
        refine tl_nil ?_
        have hpi : pid.toNat ≠ i := by
          intro e; simp only [Tb.runs, e, hi1.2] at hr; simp at hr
        have hfd : ∀ k, (T.setProc i 1 pid 0 (T.fd pid.toNat)).fd pid.toNat k = T.fd pid.toNat k := by
          intro k; simp [Tb.setProc, Tb.setSt, Tb.setPar, Tb.setCode, Tb.setFds, hpi]
        (repeat (first | first | refine run_zfa rfl (fun _ => by rfl) (fun _ => by rfl) ?_ | refine run_faz rfl (fun _ => by rfl) (fun _ => by rfl) ?_ | refine run_fa rfl (fun _ => by rfl) (fun _ => by rfl) ?_ | refine run_p (fun _ => rfl) rfl ?_ | refine run_n rfl (fun _ => rfl) ?_ | refine run_y (fun _ => rfl) rfl (fun _ => rfl) ?_ | refine run_seq ?_ | refine run_region ?_ | refine run_ops_nil ?_ | refine run_block ?_ | refine run_skip ?_ | refine run_inBlock ?_ | refine run_exit rfl ?_))
        refine run_ldN _ _ _ (tab 8 (fun k => .int .i64 (T.fd pid.toNat k))) rfl (fun _ => by rfl) (fun _ => by rfl) (.inl (hT)) (by first | (rw [tab_size]; omega) | (simp; done) | decide | exact Nat.le_of_ble_eq_true rfl) (by exact by rw [(T.setProc i 1 pid 0 (T.fd pid.toNat)).ext_fds pid.toNat (by omega) (by omega)]; exact tab_ext fun k _ => by rw [hfd]) ?_
        (repeat (first | first | refine run_zfa rfl (fun _ => by rfl) (fun _ => by rfl) ?_ | refine run_faz rfl (fun _ => by rfl) (fun _ => by rfl) ?_ | refine run_fa rfl (fun _ => by rfl) (fun _ => by rfl) ?_ | refine run_p (fun _ => rfl) rfl ?_ | refine run_n rfl (fun _ => rfl) ?_ | refine run_y (fun _ => rfl) rfl (fun _ => rfl) ?_ | refine run_seq ?_ | refine run_region ?_ | refine run_ops_nil ?_ | refine run_block ?_ | refine run_skip ?_ | refine run_inBlock ?_ | refine run_exit rfl ?_))
        refine run_loopI (fun x : Nat × Tb => [(0, .pointer (some ⟨b, 0, none⟩)), (8, .int .i64 i), (49, .agg (tab 8 (fun k => .int .i64 (T.fd pid.toNat k)))), (50, .int .i64 x.1)])
          (fun x H2 M3 => x.1 ≤ 8 ∧ incr (T.fd pid.toNat) (8 - x.1) x.1 x.2 = T.forkT pid i ∧ (∀ n, -1000 ≤ x.2.us n ∧ x.2.us n ≤ 1000 + x.1) ∧ H2 = H1 ∧ M3 b = some x.2.obj ∧ Ch [b] M1 M3) (fun x => 8 - x.1) (0, T.setProc i 1 pid 0 (T.fd pid.toNat)) (by intro j; repeat (first | exact trivial | refine ⟨rfl, ?_⟩))
          ⟨by omega, rfl, fun n => by have := hb.us n; simp [Tb.setProc, Tb.setSt, Tb.setPar, Tb.setCode, Tb.setFds]; omega, rfl, hT, (Ch.refl _ _).put' k2 in1⟩ ?_
        clear hT k2
        rintro ⟨k, T2⟩ H2 M3 ⟨hk, hinc, hus, rfl, hT, hch⟩ next2
        dsimp only at hk hinc hus hT
        (repeat (first | first | refine run_zfa rfl (fun _ => by rfl) (fun _ => by rfl) ?_ | refine run_faz rfl (fun _ => by rfl) (fun _ => by rfl) ?_ | refine run_fa rfl (fun _ => by rfl) (fun _ => by rfl) ?_ | refine run_p (fun _ => rfl) rfl ?_ | refine run_n rfl (fun _ => rfl) ?_ | refine run_y (fun _ => rfl) rfl (fun _ => rfl) ?_ | refine run_seq ?_ | refine run_region ?_ | refine run_ops_nil ?_ | refine run_block ?_ | refine run_skip ?_ | refine run_inBlock ?_ | refine run_exit rfl ?_))
        refine run_if (fun _ => by rfl) (fun hc3 => ?_) (fun hc3 => ?_)
        · obtain ⟨d2, hd2⟩ : ∃ d, 8 - k = d + 1 := ⟨7 - k, by omega⟩
          rw [hd2, incr] at hinc
          have hbk := hb.fd pid.toNat k
          (repeat (first | first | refine run_zfa rfl (fun _ => by rfl) (fun _ => by rfl) ?_ | refine run_faz rfl (fun _ => by rfl) (fun _ => by rfl) ?_ | refine run_fa rfl (fun _ => by rfl) (fun _ => by rfl) ?_ | refine run_p (fun _ => rfl) rfl ?_ | refine run_n rfl (fun _ => rfl) ?_ | refine run_y (fun _ => rfl) rfl (fun _ => rfl) ?_ | refine run_seq ?_ | refine run_region ?_ | refine run_ops_nil ?_ | refine run_block ?_ | refine run_skip ?_ | refine run_inBlock ?_ | refine run_exit rfl ?_))
          refine run_ixa _ rfl (fun _ => by rfl) (fun _ => by rfl) (fun _ => by rfl) (by omega) (by omega) (tab_get (by omega)) ?_
          simp only [Int.toNat_natCast]
          (repeat (first | first | refine run_zfa rfl (fun _ => by rfl) (fun _ => by rfl) ?_ | refine run_faz rfl (fun _ => by rfl) (fun _ => by rfl) ?_ | refine run_fa rfl (fun _ => by rfl) (fun _ => by rfl) ?_ | refine run_p (fun _ => rfl) rfl ?_ | refine run_n rfl (fun _ => rfl) ?_ | refine run_y (fun _ => rfl) rfl (fun _ => rfl) ?_ | refine run_seq ?_ | refine run_region ?_ | refine run_ops_nil ?_ | refine run_block ?_ | refine run_skip ?_ | refine run_inBlock ?_ | refine run_exit rfl ?_))
          refine run_if (fun _ => by rfl) (fun hc4 => ?_) (fun hc4 => ?_)
          · rw [if_pos hc4] at hinc
            have husn := hus (T.fd pid.toNat k - 1).toNat
            have e1 : IntKind.i64.wrap (T.fd pid.toNat k - 1) = T.fd pid.toNat k - 1 := wrap_id (by omega) (by omega)
            have e2 : IntKind.i64.wrap (T2.us (T.fd pid.toNat k - 1).toNat + 1) = T2.us (T.fd pid.toNat k - 1).toNat + 1 := wrap_id (by omega) (by omega)
            refine run_tail 13 (by kernel_rfl) (by kernel_rfl) (l2 := ?l3) ?hq2 ?h2
            case hq2 =>
              iterate 3 refine ql_p (fun _ => rfl) rfl ?_
              rw [e1]
              (repeat (first | first | refine ql_zfa rfl (fun _ => by rfl) (fun _ => by rfl) ?_ | refine ql_faz rfl (fun _ => by rfl) (fun _ => by rfl) ?_ | refine ql_fa rfl (fun _ => by rfl) (fun _ => by rfl) ?_ | refine ql_p (fun _ => rfl) rfl ?_ | refine ql_n rfl (fun _ => rfl) ?_ | refine ql_y (fun _ => rfl) rfl (fun _ => rfl) ?_))
              first | refine ql_zix rfl (fun _ => by rfl) (fun _ => by rfl) (fun _ => by rfl) (by omega) (by omega) ?_ | refine ql_ix rfl (fun _ => by rfl) (fun _ => by rfl) (fun _ => by rfl) (by omega) (by omega) ?_
              (repeat (first | first | refine ql_zfa rfl (fun _ => by rfl) (fun _ => by rfl) ?_ | refine ql_faz rfl (fun _ => by rfl) (fun _ => by rfl) ?_ | refine ql_fa rfl (fun _ => by rfl) (fun _ => by rfl) ?_ | refine ql_p (fun _ => rfl) rfl ?_ | refine ql_n rfl (fun _ => rfl) ?_ | refine ql_y (fun _ => rfl) rfl (fun _ => rfl) ?_))
              refine ql_ld _ _ _ rfl (fun _ => by rfl) (fun _ => by rfl) (.inl (hT)) (by exact T2.get_us (T.fd pid.toNat k - 1).toNat (by omega) (by omega)) ?_
              refine ql_p (fun _ => rfl) rfl ?_
              rw [e2]
              (repeat (first | first | refine ql_zfa rfl (fun _ => by rfl) (fun _ => by rfl) ?_ | refine ql_faz rfl (fun _ => by rfl) (fun _ => by rfl) ?_ | refine ql_fa rfl (fun _ => by rfl) (fun _ => by rfl) ?_ | refine ql_p (fun _ => rfl) rfl ?_ | refine ql_n rfl (fun _ => rfl) ?_ | refine ql_y (fun _ => rfl) rfl (fun _ => rfl) ?_))
              first | refine ql_zix rfl (fun _ => by rfl) (fun _ => by rfl) (fun _ => by rfl) (by omega) (by omega) ?_ | refine ql_ix rfl (fun _ => by rfl) (fun _ => by rfl) (fun _ => by rfl) (by omega) (by omega) ?_
              (repeat (first | first | refine ql_zfa rfl (fun _ => by rfl) (fun _ => by rfl) ?_ | refine ql_faz rfl (fun _ => by rfl) (fun _ => by rfl) ?_ | refine ql_fa rfl (fun _ => by rfl) (fun _ => by rfl) ?_ | refine ql_p (fun _ => rfl) rfl ?_ | refine ql_n rfl (fun _ => rfl) ?_ | refine ql_y (fun _ => rfl) rfl (fun _ => rfl) ?_))
              exact .nil
            case h2 =>
            refine tl_stA _ _ _ _ (tab 227 (T2.setUs (T.fd pid.toNat k - 1).toNat (T2.us (T.fd pid.toNat k - 1).toNat + 1)).cell) (fun _ => by rfl) (fun _ => by rfl) (fun _ => by rfl) hT (by rfl) (by rw [tab_size]; omega) (by rfl) (by exact T2.put_us (T.fd pid.toNat k - 1).toNat (by omega)) (fun M4 hT k4 => ?_)
            refine tl_nil ?_
            (repeat (first | first | refine run_zfa rfl (fun _ => by rfl) (fun _ => by rfl) ?_ | refine run_faz rfl (fun _ => by rfl) (fun _ => by rfl) ?_ | refine run_fa rfl (fun _ => by rfl) (fun _ => by rfl) ?_ | refine run_p (fun _ => rfl) rfl ?_ | refine run_n rfl (fun _ => rfl) ?_ | refine run_y (fun _ => rfl) rfl (fun _ => rfl) ?_ | refine run_seq ?_ | refine run_region ?_ | refine run_ops_nil ?_ | refine run_block ?_ | refine run_skip ?_ | refine run_inBlock ?_ | refine run_exit rfl ?_))
            rw [wrap_nat (by omega)]
            exact run_keep _ (by intro j; repeat (first | exact trivial | refine ⟨rfl, ?_⟩)) (next2 (k + 1, _) _ _ ⟨by dsimp only; omega, by dsimp only; rw [show 8 - (k + 1) = d2 by omega]; exact hinc,
              fun n => by dsimp only [Tb.setUs]; have := hus n; split <;> omega, rfl, hT, hch.put' k4 in1⟩ (by dsimp only; omega))
          · rw [if_neg hc4] at hinc
            (repeat (first | first | refine run_zfa rfl (fun _ => by rfl) (fun _ => by rfl) ?_ | refine run_faz rfl (fun _ => by rfl) (fun _ => by rfl) ?_ | refine run_fa rfl (fun _ => by rfl) (fun _ => by rfl) ?_ | refine run_p (fun _ => rfl) rfl ?_ | refine run_n rfl (fun _ => rfl) ?_ | refine run_y (fun _ => rfl) rfl (fun _ => rfl) ?_ | refine run_seq ?_ | refine run_region ?_ | refine run_ops_nil ?_ | refine run_block ?_ | refine run_skip ?_ | refine run_inBlock ?_ | refine run_exit rfl ?_))
            rw [wrap_nat (by omega)]
            exact run_keep _ (by intro j; repeat (first | exact trivial | refine ⟨rfl, ?_⟩)) (next2 (k + 1, _) _ _ ⟨by dsimp only; omega, by dsimp only; rw [show 8 - (k + 1) = d2 by omega]; exact hinc,
              fun n => by dsimp only; have := hus n; omega, rfl, hT, hch⟩ (by dsimp only; omega))
        · have : k = 8 := by omega
          subst this
          (repeat (first | first | refine run_zfa rfl (fun _ => by rfl) (fun _ => by rfl) ?_ | refine run_faz rfl (fun _ => by rfl) (fun _ => by rfl) ?_ | refine run_fa rfl (fun _ => by rfl) (fun _ => by rfl) ?_ | refine run_p (fun _ => rfl) rfl ?_ | refine run_n rfl (fun _ => rfl) ?_ | refine run_y (fun _ => rfl) rfl (fun _ => rfl) ?_ | refine run_seq ?_ | refine run_region ?_ | refine run_ops_nil ?_ | refine run_block ?_ | refine run_skip ?_ | refine run_inBlock ?_ | refine run_exit rfl ?_))
          exact run_retc Try.func9 (fun _ => by kernel_rfl) (⟨rfl, hch, rfl, by rw [hT, ← hinc]; rfl⟩)
    · (repeat (first | first | refine run_zfa rfl (fun _ => by rfl) (fun _ => by rfl) ?_ | refine run_faz rfl (fun _ => by rfl) (fun _ => by rfl) ?_ | refine run_fa rfl (fun _ => by rfl) (fun _ => by rfl) ?_ | refine run_p (fun _ => rfl) rfl ?_ | refine run_n rfl (fun _ => rfl) ?_ | refine run_y (fun _ => rfl) rfl (fun _ => rfl) ?_))
      cases h1 : decide ((i : Int) < 1)
      · simp only [decide_eq_false_iff_not] at h1
        (repeat (first | first | refine run_zfa rfl (fun _ => by rfl) (fun _ => by rfl) ?_ | refine run_faz rfl (fun _ => by rfl) (fun _ => by rfl) ?_ | refine run_fa rfl (fun _ => by rfl) (fun _ => by rfl) ?_ | refine run_p (fun _ => rfl) rfl ?_ | refine run_n rfl (fun _ => rfl) ?_ | refine run_y (fun _ => rfl) rfl (fun _ => rfl) ?_))
        first | refine run_zix rfl (fun _ => by rfl) (fun _ => by rfl) (fun _ => by rfl) (by omega) (by omega) ?_ | refine run_ix rfl (fun _ => by rfl) (fun _ => by rfl) (fun _ => by rfl) (by omega) (by omega) ?_
        first | refine run_zfa rfl (fun _ => by rfl) (fun _ => by rfl) ?_ | refine run_faz rfl (fun _ => by rfl) (fun _ => by rfl) ?_ | refine run_fa rfl (fun _ => by rfl) (fun _ => by rfl) ?_
        simp only [Int.toNat_natCast]
        refine run_ld _ _ _ rfl (fun _ => by rfl) (fun _ => by rfl) (.inl (hT)) (by exact T.get_st i (by omega) (by omega)) ?_
        (repeat (first | first | refine run_zfa rfl (fun _ => by rfl) (fun _ => by rfl) ?_ | refine run_faz rfl (fun _ => by rfl) (fun _ => by rfl) ?_ | refine run_fa rfl (fun _ => by rfl) (fun _ => by rfl) ?_ | refine run_p (fun _ => rfl) rfl ?_ | refine run_n rfl (fun _ => rfl) ?_ | refine run_y (fun _ => rfl) rfl (fun _ => rfl) ?_))
        exact run_keep [_, _, _, _, _, _] (by intro j; repeat (first | exact trivial | refine ⟨rfl, ?_⟩)) (K _ (by
          by_cases h2 : T.st i = 0
          · rw [h2]; simp; omega
          · simp [h2]))
      · simp only [decide_eq_true_eq] at h1
        (repeat (first | first | refine run_zfa rfl (fun _ => by rfl) (fun _ => by rfl) ?_ | refine run_faz rfl (fun _ => by rfl) (fun _ => by rfl) ?_ | refine run_fa rfl (fun _ => by rfl) (fun _ => by rfl) ?_ | refine run_p (fun _ => rfl) rfl ?_ | refine run_n rfl (fun _ => rfl) ?_ | refine run_y (fun _ => rfl) rfl (fun _ => rfl) ?_))
        exact run_keep [_, _, _, _, _, _] (by intro j; repeat (first | exact trivial | refine ⟨rfl, ?_⟩)) (K _ (by simp; omega))
  · have : i = 9 := by omega
    subst this
    have : s = none := by rw [← he]; rfl
    subst this
    (repeat (first | first | refine run_zfa rfl (fun _ => by rfl) (fun _ => by rfl) ?_ | refine run_faz rfl (fun _ => by rfl) (fun _ => by rfl) ?_ | refine run_fa rfl (fun _ => by rfl) (fun _ => by rfl) ?_ | refine run_p (fun _ => rfl) rfl ?_ | refine run_n rfl (fun _ => rfl) ?_ | refine run_y (fun _ => rfl) rfl (fun _ => rfl) ?_ | refine run_seq ?_ | refine run_region ?_ | refine run_ops_nil ?_ | refine run_block ?_ | refine run_skip ?_ | refine run_inBlock ?_ | refine run_exit rfl ?_))
    exact run_retc Try.func9 (fun _ => by kernel_rfl) (⟨rfl, Ch.refl _ _, rfl, hT⟩)
end Go.Proofs.Ytimaipclgmcekaa
