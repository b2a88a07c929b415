/- What a descriptor is, and letting it go. -/
import Derived.Test.YtimaipclgmcekaaProcA
namespace Go.Proofs.Ytimaipclgmcekaa
open Go.Cam
set_option maxRecDepth 100000
def _root_.Go.Cam.Tb.letT (T : Tb) (p f n : Nat) : Tb :=
  if T.us n - 1 > 0 then (T.setFd p f 0).setUs n (T.us n - 1) else (((T.setFd p f 0).setUs n (T.us n - 1)).setOp n Opn.zero).setUs n 0
set_option maxHeartbeats 1000000 in
theorem let_ok {H M : Heap} {b : Nat} {T : Tb} (hT : M b = some T.obj) (p f n : Nat) (hp : p < 9) (hf : f < 8) (hn : T.fd p f = (n : Int) + 1) (h16 : n < 16) (hu : -100000 ≤ T.us n ∧ T.us n ≤ 100000) :
    ACalls Try.prog 25 #[.pointer (some ⟨b,0,none⟩), .pointer (some ⟨b, p * 11, none⟩), .int .i64 f] H M
      (fun v H' M' => v = .tuple #[.agg (T.op n).vals, .bool (!decide (T.us n - 1 > 0))] ∧ H' = H ∧ M' b = some (T.letT p f n).obj ∧ Ch [b] M M') := by
  have e1 : IntKind.i64.wrap (T.fd p f - 1) = (n : Int) := by rw [hn, wrap_id (by omega) (by omega)]; omega
  have e2 : IntKind.i64.wrap (T.us n - 1) = T.us n - 1 := wrap_id (by omega) (by omega)
  refine enter (args := [_, _, _]) Try.func25 rfl rfl (by show (3 : Nat) ≤ 47; decide) ?_
  (repeat (first | first | refine run_zfa rfl (fun _ => by rfl) (fun _ => by rfl) ?_ | refine run_faz rfl (fun _ => by rfl) (fun _ => by rfl) ?_ | refine run_fa rfl (fun _ => by rfl) (fun _ => by rfl) ?_ | refine run_p (fun _ => rfl) rfl ?_ | refine run_n rfl (fun _ => rfl) ?_ | refine run_y (fun _ => rfl) rfl (fun _ => rfl) ?_ | refine run_seq ?_ | refine run_region ?_ | refine run_ops_nil ?_ | refine run_block ?_ | refine run_skip ?_ | refine run_inBlock ?_ | refine run_exit rfl ?_))
  refine run_newA (.cells Opn.zero.vals 41 (0, 0)) rfl (fun _ => by rfl) (fun _ => by kernel_rfl) (fun r1 M1 hR k1 => ?_)
  have n1 := (k1 _ _ hT).2
  replace hT := (k1 _ _ hT).1
  (repeat (first | first | refine run_zfa rfl (fun _ => by rfl) (fun _ => by rfl) ?_ | refine run_faz rfl (fun _ => by rfl) (fun _ => by rfl) ?_ | refine run_fa rfl (fun _ => by rfl) (fun _ => by rfl) ?_ | refine run_p (fun _ => rfl) rfl ?_ | refine run_n rfl (fun _ => rfl) ?_ | refine run_y (fun _ => rfl) rfl (fun _ => rfl) ?_ | refine run_seq ?_ | refine run_region ?_ | refine run_ops_nil ?_ | refine run_block ?_ | refine run_skip ?_ | refine run_inBlock ?_ | refine run_exit rfl ?_))
  refine run_quiet (l2 := ?l2) (by kernel_rfl) (by kernel_rfl) ?hq ?h
  case hq =>
    (repeat (first | first | refine ql_zfa rfl (fun _ => by rfl) (fun _ => by rfl) ?_ | refine ql_faz rfl (fun _ => by rfl) (fun _ => by rfl) ?_ | refine ql_fa rfl (fun _ => by rfl) (fun _ => by rfl) ?_ | refine ql_p (fun _ => rfl) rfl ?_ | refine ql_n rfl (fun _ => rfl) ?_ | refine ql_y (fun _ => rfl) rfl (fun _ => rfl) ?_))
    first | refine ql_zix rfl (fun _ => by rfl) (fun _ => by rfl) (fun _ => by rfl) (by omega) (by omega) ?_ | refine ql_ix rfl (fun _ => by rfl) (fun _ => by rfl) (fun _ => by rfl) (by omega) (by omega) ?_
    refine ql_ld _ _ _ rfl (fun _ => by rfl) (fun _ => by rfl) (.inl (hT)) (by exact T.get_fd p f (by omega) hp hf) ?_
    refine ql_p (fun _ => rfl) rfl ?_
    rw [e1]
    (repeat (first | first | refine ql_zfa rfl (fun _ => by rfl) (fun _ => by rfl) ?_ | refine ql_faz rfl (fun _ => by rfl) (fun _ => by rfl) ?_ | refine ql_fa rfl (fun _ => by rfl) (fun _ => by rfl) ?_ | refine ql_p (fun _ => rfl) rfl ?_ | refine ql_n rfl (fun _ => rfl) ?_ | refine ql_y (fun _ => rfl) rfl (fun _ => rfl) ?_))
    first | refine ql_zix rfl (fun _ => by rfl) (fun _ => by rfl) (fun _ => by rfl) (by omega) (by omega) ?_ | refine ql_ix rfl (fun _ => by rfl) (fun _ => by rfl) (fun _ => by rfl) (by omega) (by omega) ?_
    (repeat (first | first | refine ql_zfa rfl (fun _ => by rfl) (fun _ => by rfl) ?_ | refine ql_faz rfl (fun _ => by rfl) (fun _ => by rfl) ?_ | refine ql_fa rfl (fun _ => by rfl) (fun _ => by rfl) ?_ | refine ql_p (fun _ => rfl) rfl ?_ | refine ql_n rfl (fun _ => rfl) ?_ | refine ql_y (fun _ => rfl) rfl (fun _ => rfl) ?_))
    exact .nil
  case h =>
  simp only [Int.toNat_natCast]
  (repeat (first | first | refine run_zfa rfl (fun _ => by rfl) (fun _ => by rfl) ?_ | refine run_faz rfl (fun _ => by rfl) (fun _ => by rfl) ?_ | refine run_fa rfl (fun _ => by rfl) (fun _ => by rfl) ?_ | refine run_p (fun _ => rfl) rfl ?_ | refine run_n rfl (fun _ => rfl) ?_ | refine run_y (fun _ => rfl) rfl (fun _ => rfl) ?_ | refine run_seq ?_ | refine run_region ?_ | refine run_ops_nil ?_ | refine run_block ?_ | refine run_skip ?_ | refine run_inBlock ?_ | refine run_exit rfl ?_))
  first | refine run_zix rfl (fun _ => by rfl) (fun _ => by rfl) (fun _ => by rfl) (by omega) (by omega) ?_ | refine run_ix rfl (fun _ => by rfl) (fun _ => by rfl) (fun _ => by rfl) (by omega) (by omega) ?_
  simp only [Int.toNat_natCast]
  refine run_stA _ _ _ _ (tab 227 (T.setFd p f 0).cell) (fun _ => by rfl) (fun _ => by rfl) (fun _ => by rfl) hT (by rfl) (by first | (rw [tab_size]; omega) | (simp; done) | decide | exact Nat.le_of_ble_eq_true rfl) (by rfl) (by exact T.put_fd p f (by omega) hp hf) (fun M2 hT k2 => ?_)
  replace hR := k2 _ _ n1.symm hR
  (repeat (first | first | refine run_zfa rfl (fun _ => by rfl) (fun _ => by rfl) ?_ | refine run_faz rfl (fun _ => by rfl) (fun _ => by rfl) ?_ | refine run_fa rfl (fun _ => by rfl) (fun _ => by rfl) ?_ | refine run_p (fun _ => rfl) rfl ?_ | refine run_n rfl (fun _ => rfl) ?_ | refine run_y (fun _ => rfl) rfl (fun _ => rfl) ?_ | refine run_seq ?_ | refine run_region ?_ | refine run_ops_nil ?_ | refine run_block ?_ | refine run_skip ?_ | refine run_inBlock ?_ | refine run_exit rfl ?_))
  refine run_ldN _ _ _ ((T.op n).vals) rfl (fun _ => by rfl) (fun _ => by rfl) (.inl (hT)) (by first | (rw [tab_size]; omega) | (simp; done) | decide | exact Nat.le_of_ble_eq_true rfl) (by exact (T.setFd p f 0).ext_op n (by omega) h16) ?_
  refine run_newA (.cells Opn.zero.vals 41 (0, 0)) rfl (fun _ => by rfl) (fun _ => by kernel_rfl) (fun r2 M3 hX k3 => ?_)
  have n2 := (k3 _ _ hT).2
  have n3 := (k3 _ _ hR).2
  replace hT := (k3 _ _ hT).1; replace hR := (k3 _ _ hR).1
  refine run_stA _ _ _ _ ((T.op n).vals) (fun _ => by rfl) (fun _ => by rfl) (fun _ => by rfl) hX (by kernel_rfl) (by first | decide | exact Nat.le_refl _) (by kernel_rfl) (by kernel_rfl) (fun M4 hX k4 => ?_)
  replace hT := k4 _ _ n2 hT; replace hR := k4 _ _ n3 hR
  (repeat (first | first | refine run_zfa rfl (fun _ => by rfl) (fun _ => by rfl) ?_ | refine run_faz rfl (fun _ => by rfl) (fun _ => by rfl) ?_ | refine run_fa rfl (fun _ => by rfl) (fun _ => by rfl) ?_ | refine run_p (fun _ => rfl) rfl ?_ | refine run_n rfl (fun _ => rfl) ?_ | refine run_y (fun _ => rfl) rfl (fun _ => rfl) ?_ | refine run_seq ?_ | refine run_region ?_ | refine run_ops_nil ?_ | refine run_block ?_ | refine run_skip ?_ | refine run_inBlock ?_ | refine run_exit rfl ?_))
  refine run_ld _ _ _ rfl (fun _ => by rfl) (fun _ => by rfl) (.inl (hT)) (by exact (T.setFd p f 0).get_us n (by omega) h16) ?_
  (repeat (first | first | refine run_zfa rfl (fun _ => by rfl) (fun _ => by rfl) ?_ | refine run_faz rfl (fun _ => by rfl) (fun _ => by rfl) ?_ | refine run_fa rfl (fun _ => by rfl) (fun _ => by rfl) ?_ | refine run_p (fun _ => rfl) rfl ?_ | refine run_n rfl (fun _ => rfl) ?_ | refine run_y (fun _ => rfl) rfl (fun _ => rfl) ?_ | refine run_seq ?_ | refine run_region ?_ | refine run_ops_nil ?_ | refine run_block ?_ | refine run_skip ?_ | refine run_inBlock ?_ | refine run_exit rfl ?_))
  rw [show (T.setFd p f 0).us n = T.us n from rfl, e2]
  refine run_stA _ _ _ _ (tab 227 ((T.setFd p f 0).setUs n (T.us n - 1)).cell) (fun _ => by rfl) (fun _ => by rfl) (fun _ => by rfl) hT (by rfl) (by first | (rw [tab_size]; omega) | (simp; done) | decide | exact Nat.le_of_ble_eq_true rfl) (by rfl) (by exact (T.setFd p f 0).put_us n (by omega)) (fun M5 hT k5 => ?_)
  replace hR := k5 _ _ n1.symm hR; replace hX := k5 _ _ n2.symm hX
  (repeat (first | first | refine run_zfa rfl (fun _ => by rfl) (fun _ => by rfl) ?_ | refine run_faz rfl (fun _ => by rfl) (fun _ => by rfl) ?_ | refine run_fa rfl (fun _ => by rfl) (fun _ => by rfl) ?_ | refine run_p (fun _ => rfl) rfl ?_ | refine run_n rfl (fun _ => rfl) ?_ | refine run_y (fun _ => rfl) rfl (fun _ => rfl) ?_ | refine run_seq ?_ | refine run_region ?_ | refine run_ops_nil ?_ | refine run_block ?_ | refine run_skip ?_ | refine run_inBlock ?_ | refine run_exit rfl ?_))
  refine run_ld _ _ _ rfl (fun _ => by rfl) (fun _ => by rfl) (.inl (hT)) (by exact ((T.setFd p f 0).setUs n (T.us n - 1)).get_us n (by omega) h16) ?_
  rw [show ((T.setFd p f 0).setUs n (T.us n - 1)).us n = T.us n - 1 by simp [Tb.setUs]]
  (repeat (first | first | refine run_zfa rfl (fun _ => by rfl) (fun _ => by rfl) ?_ | refine run_faz rfl (fun _ => by rfl) (fun _ => by rfl) ?_ | refine run_fa rfl (fun _ => by rfl) (fun _ => by rfl) ?_ | refine run_p (fun _ => rfl) rfl ?_ | refine run_n rfl (fun _ => rfl) ?_ | refine run_y (fun _ => rfl) rfl (fun _ => rfl) ?_ | refine run_seq ?_ | refine run_region ?_ | refine run_ops_nil ?_ | refine run_block ?_ | refine run_skip ?_ | refine run_inBlock ?_ | refine run_exit rfl ?_))
  have c2 : Ch [b] M M2 := ((Ch.refl _ _).new' k1).put' k2 in1
  have hr1 := New.none (Ch.refl [b] M) k1 (nin1 n1)
  have hr2 := New.none c2 k3 (nin1 n2)
  have c5 : Ch [b] M M5 := ((c2.new' k3).box' k4 hr2).put' k5 in1
  refine run_if (fun _ => by rfl) (fun hc => ?_) (fun hc => ?_)
  · (repeat (first | first | refine run_zfa rfl (fun _ => by rfl) (fun _ => by rfl) ?_ | refine run_faz rfl (fun _ => by rfl) (fun _ => by rfl) ?_ | refine run_fa rfl (fun _ => by rfl) (fun _ => by rfl) ?_ | refine run_p (fun _ => rfl) rfl ?_ | refine run_n rfl (fun _ => rfl) ?_ | refine run_y (fun _ => rfl) rfl (fun _ => rfl) ?_ | refine run_seq ?_ | refine run_region ?_ | refine run_ops_nil ?_ | refine run_block ?_ | refine run_skip ?_ | refine run_inBlock ?_ | refine run_exit rfl ?_))
    refine run_ldN _ _ _ _ rfl (fun _ => by rfl) (fun _ => by rfl) (.inl (hX)) (by first | decide | exact Nat.le_refl _) (extract_whole rfl) ?_
    refine run_stA _ _ _ _ ((T.op n).vals) (fun _ => by rfl) (fun _ => by rfl) (fun _ => by rfl) hR (by kernel_rfl) (by first | decide | exact Nat.le_refl _) (by kernel_rfl) (by kernel_rfl) (fun M6 hR k6 => ?_)
    replace hT := k6 _ _ n1 hT
    (repeat (first | first | refine run_zfa rfl (fun _ => by rfl) (fun _ => by rfl) ?_ | refine run_faz rfl (fun _ => by rfl) (fun _ => by rfl) ?_ | refine run_fa rfl (fun _ => by rfl) (fun _ => by rfl) ?_ | refine run_p (fun _ => rfl) rfl ?_ | refine run_n rfl (fun _ => rfl) ?_ | refine run_y (fun _ => rfl) rfl (fun _ => rfl) ?_ | refine run_seq ?_ | refine run_region ?_ | refine run_ops_nil ?_ | refine run_block ?_ | refine run_skip ?_ | refine run_inBlock ?_ | refine run_exit rfl ?_))
    refine run_retv [.agg (T.op n).vals, .bool false] Try.func25 rfl (fun j => .cell _ _ 7 _ rfl rfl rfl (.inl hR) (Nat.le_refl _) rfl (.tmp _ rfl .nil)) ⟨?_, rfl, ?_, c5.box' k6 hr1⟩
    · rw [decide_eq_true hc]; rfl
    · rw [hT]; unfold Tb.letT; rw [if_pos hc]
  · (repeat (first | first | refine run_zfa rfl (fun _ => by rfl) (fun _ => by rfl) ?_ | refine run_faz rfl (fun _ => by rfl) (fun _ => by rfl) ?_ | refine run_fa rfl (fun _ => by rfl) (fun _ => by rfl) ?_ | refine run_p (fun _ => rfl) rfl ?_ | refine run_n rfl (fun _ => rfl) ?_ | refine run_y (fun _ => rfl) rfl (fun _ => rfl) ?_ | refine run_seq ?_ | refine run_region ?_ | refine run_ops_nil ?_ | refine run_block ?_ | refine run_skip ?_ | refine run_inBlock ?_ | refine run_exit rfl ?_))
    refine run_bd ((Opn.zero.vals.toList ++ [Value.int .i64 0]).toArray) rfl (fun _ => by rfl) (fun _ => by kernel_rfl) ?_
    (repeat (first | first | refine run_zfa rfl (fun _ => by rfl) (fun _ => by rfl) ?_ | refine run_faz rfl (fun _ => by rfl) (fun _ => by rfl) ?_ | refine run_fa rfl (fun _ => by rfl) (fun _ => by rfl) ?_ | refine run_p (fun _ => rfl) rfl ?_ | refine run_n rfl (fun _ => rfl) ?_ | refine run_y (fun _ => rfl) rfl (fun _ => rfl) ?_ | refine run_seq ?_ | refine run_region ?_ | refine run_ops_nil ?_ | refine run_block ?_ | refine run_skip ?_ | refine run_inBlock ?_ | refine run_exit rfl ?_))
    refine run_stA _ _ _ _ (tab 227 ((((T.setFd p f 0).setUs n (T.us n - 1)).setOp n Opn.zero).setUs n 0).cell) (fun _ => by rfl) (fun _ => by rfl) (fun _ => by rfl) hT (by rfl) (by first | (rw [tab_size]; omega) | (simp; done) | decide | exact Nat.le_of_ble_eq_true rfl) (by rfl) (by exact ((T.setFd p f 0).setUs n (T.us n - 1)).put_file n (by omega)) (fun M6 hT k6 => ?_)
    replace hR := k6 _ _ n1.symm hR; replace hX := k6 _ _ n2.symm hX
    (repeat (first | first | refine run_zfa rfl (fun _ => by rfl) (fun _ => by rfl) ?_ | refine run_faz rfl (fun _ => by rfl) (fun _ => by rfl) ?_ | refine run_fa rfl (fun _ => by rfl) (fun _ => by rfl) ?_ | refine run_p (fun _ => rfl) rfl ?_ | refine run_n rfl (fun _ => rfl) ?_ | refine run_y (fun _ => rfl) rfl (fun _ => rfl) ?_ | refine run_seq ?_ | refine run_region ?_ | refine run_ops_nil ?_ | refine run_block ?_ | refine run_skip ?_ | refine run_inBlock ?_ | refine run_exit rfl ?_))
    refine run_ldN _ _ _ _ rfl (fun _ => by rfl) (fun _ => by rfl) (.inl (hX)) (by first | decide | exact Nat.le_refl _) (extract_whole rfl) ?_
    refine run_stA _ _ _ _ ((T.op n).vals) (fun _ => by rfl) (fun _ => by rfl) (fun _ => by rfl) hR (by kernel_rfl) (by first | decide | exact Nat.le_refl _) (by kernel_rfl) (by kernel_rfl) (fun M7 hR k7 => ?_)
    replace hT := k7 _ _ n1 hT
    (repeat (first | first | refine run_zfa rfl (fun _ => by rfl) (fun _ => by rfl) ?_ | refine run_faz rfl (fun _ => by rfl) (fun _ => by rfl) ?_ | refine run_fa rfl (fun _ => by rfl) (fun _ => by rfl) ?_ | refine run_p (fun _ => rfl) rfl ?_ | refine run_n rfl (fun _ => rfl) ?_ | refine run_y (fun _ => rfl) rfl (fun _ => rfl) ?_ | refine run_seq ?_ | refine run_region ?_ | refine run_ops_nil ?_ | refine run_block ?_ | refine run_skip ?_ | refine run_inBlock ?_ | refine run_exit rfl ?_))
    refine run_retv [.agg (T.op n).vals, .bool true] Try.func25 rfl (fun j => .cell _ _ 7 _ rfl rfl rfl (.inl hR) (Nat.le_refl _) rfl (.tmp _ rfl .nil)) ⟨?_, rfl, ?_, (c5.put' k6 in1).box' k7 hr1⟩
    · rw [decide_eq_false hc]; rfl
    · rw [hT]; unfold Tb.letT; rw [if_neg hc]
/-- which open file a descriptor is, or why none -/
def _root_.Go.Cam.Tb.err (T : Tb) (pid fd : Int) : Int :=
  if T.runs pid = false then 25 else if fd < 0 ∨ fd ≥ 8 then 20 else if T.fd pid.toNat fd.toNat = 0 then 20 else 0
set_option maxHeartbeats 1000000 in
theorem open_no {H M : Heap} {b : Nat} {T : Tb} (hT : M b = some T.obj) (pid fd : Int) (he : T.err pid fd ≠ 0) :
    ACalls Try.prog 27 #[.pointer (some ⟨b,0,none⟩), .int .i64 pid, .int .i64 fd] H M
      (fun v H' M' => v = .tuple #[.pointer none, .pointer none, .int .i64 (T.err pid fd)] ∧ H' = H ∧ M' = M) := by
  refine enter (args := [_, _, _]) Try.func27 rfl rfl (by show (3 : Nat) ≤ 49; decide) ?_
  (repeat (first | first | refine run_zfa rfl (fun _ => by rfl) (fun _ => by rfl) ?_ | refine run_faz rfl (fun _ => by rfl) (fun _ => by rfl) ?_ | refine run_fa rfl (fun _ => by rfl) (fun _ => by rfl) ?_ | refine run_p (fun _ => rfl) rfl ?_ | refine run_n rfl (fun _ => rfl) ?_ | refine run_y (fun _ => rfl) rfl (fun _ => rfl) ?_ | refine run_seq ?_ | refine run_region ?_ | refine run_ops_nil ?_ | refine run_block ?_ | refine run_skip ?_ | refine run_inBlock ?_ | refine run_exit rfl ?_))
  cases hr : T.runs pid
  · refine run_call rfl (fun _ => by rfl) (fun _ => by kernel_rfl) (at_no hT pid hr) ?_
    rintro v H' M' ⟨rfl, rfl, rfl⟩
    (repeat (first | first | refine run_zfa rfl (fun _ => by rfl) (fun _ => by rfl) ?_ | refine run_faz rfl (fun _ => by rfl) (fun _ => by rfl) ?_ | refine run_fa rfl (fun _ => by rfl) (fun _ => by rfl) ?_ | refine run_p (fun _ => rfl) rfl ?_ | refine run_n rfl (fun _ => rfl) ?_ | refine run_y (fun _ => rfl) rfl (fun _ => rfl) ?_ | refine run_seq ?_ | refine run_region ?_ | refine run_ops_nil ?_ | refine run_block ?_ | refine run_skip ?_ | refine run_inBlock ?_ | refine run_exit rfl ?_))
    refine run_cond _ (fun _ => by rfl) (fun hc => ?_) (fun hc => ?_)
    · (repeat (first | first | refine run_zfa rfl (fun _ => by rfl) (fun _ => by rfl) ?_ | refine run_faz rfl (fun _ => by rfl) (fun _ => by rfl) ?_ | refine run_fa rfl (fun _ => by rfl) (fun _ => by rfl) ?_ | refine run_p (fun _ => rfl) rfl ?_ | refine run_n rfl (fun _ => rfl) ?_ | refine run_y (fun _ => rfl) rfl (fun _ => rfl) ?_ | refine run_seq ?_ | refine run_region ?_ | refine run_ops_nil ?_ | refine run_block ?_ | refine run_skip ?_ | refine run_inBlock ?_ | refine run_exit rfl ?_))
      exact run_retc (v := .tuple #[.pointer none, .pointer none, .int .i64 25]) Try.func27 (fun _ => by kernel_rfl) (⟨by simp [Tb.err, hr], rfl, rfl⟩)
    · cases hc
  · have hp : 1 ≤ pid ∧ pid < 9 := by simp [Tb.runs] at hr; omega
    have he2 : T.err pid fd = 20 := by
      simp only [Tb.err, hr] at he ⊢
      split
      · rename_i h; cases h
      · split
        · rfl
        · split
          · rfl
          · rename_i h1 h2 h3; simp [h2, h3] at he
    rw [he2]
    refine run_call rfl (fun _ => by rfl) (fun _ => by kernel_rfl) (at_yes hT pid hr) ?_
    rintro v H' M' ⟨rfl, rfl, rfl⟩
    (repeat (first | first | refine run_zfa rfl (fun _ => by rfl) (fun _ => by rfl) ?_ | refine run_faz rfl (fun _ => by rfl) (fun _ => by rfl) ?_ | refine run_fa rfl (fun _ => by rfl) (fun _ => by rfl) ?_ | refine run_p (fun _ => rfl) rfl ?_ | refine run_n rfl (fun _ => rfl) ?_ | refine run_y (fun _ => rfl) rfl (fun _ => rfl) ?_ | refine run_seq ?_ | refine run_region ?_ | refine run_ops_nil ?_ | refine run_block ?_ | refine run_skip ?_ | refine run_inBlock ?_ | refine run_exit rfl ?_))
    refine run_cond _ (fun _ => by rfl) (fun hc => ?_) (fun hc => ?_)
    · cases hc
    (repeat (first | first | refine run_zfa rfl (fun _ => by rfl) (fun _ => by rfl) ?_ | refine run_faz rfl (fun _ => by rfl) (fun _ => by rfl) ?_ | refine run_fa rfl (fun _ => by rfl) (fun _ => by rfl) ?_ | refine run_p (fun _ => rfl) rfl ?_ | refine run_n rfl (fun _ => rfl) ?_ | refine run_y (fun _ => rfl) rfl (fun _ => rfl) ?_ | refine run_seq ?_ | refine run_region ?_ | refine run_ops_nil ?_ | refine run_block ?_ | refine run_skip ?_ | refine run_inBlock ?_ | refine run_exit rfl ?_))
    refine run_cut 15 (fun _ : Unit => [(21, .bool true)]) (fun _ => True) (fun _ _ => ?_) (fun K => ?_)
    · (repeat (first | first | refine run_zfa rfl (fun _ => by rfl) (fun _ => by rfl) ?_ | refine run_faz rfl (fun _ => by rfl) (fun _ => by rfl) ?_ | refine run_fa rfl (fun _ => by rfl) (fun _ => by rfl) ?_ | refine run_p (fun _ => rfl) rfl ?_ | refine run_n rfl (fun _ => rfl) ?_ | refine run_y (fun _ => rfl) rfl (fun _ => rfl) ?_ | refine run_seq ?_ | refine run_region ?_ | refine run_ops_nil ?_ | refine run_block ?_ | refine run_skip ?_ | refine run_inBlock ?_ | refine run_exit rfl ?_))
      refine run_cond _ (fun _ => by rfl) (fun hc2 => ?_) (fun hc2 => ?_)
      · (repeat (first | first | refine run_zfa rfl (fun _ => by rfl) (fun _ => by rfl) ?_ | refine run_faz rfl (fun _ => by rfl) (fun _ => by rfl) ?_ | refine run_fa rfl (fun _ => by rfl) (fun _ => by rfl) ?_ | refine run_p (fun _ => rfl) rfl ?_ | refine run_n rfl (fun _ => rfl) ?_ | refine run_y (fun _ => rfl) rfl (fun _ => rfl) ?_ | refine run_seq ?_ | refine run_region ?_ | refine run_ops_nil ?_ | refine run_block ?_ | refine run_skip ?_ | refine run_inBlock ?_ | refine run_exit rfl ?_))
        exact run_retc Try.func27 (fun _ => by kernel_rfl) (⟨rfl, rfl, rfl⟩)
      · cases hc2
    · cases h1 : decide (fd < 0)
      · (repeat (first | first | refine run_zfa rfl (fun _ => by rfl) (fun _ => by rfl) ?_ | refine run_faz rfl (fun _ => by rfl) (fun _ => by rfl) ?_ | refine run_fa rfl (fun _ => by rfl) (fun _ => by rfl) ?_ | refine run_p (fun _ => rfl) rfl ?_ | refine run_n rfl (fun _ => rfl) ?_ | refine run_y (fun _ => rfl) rfl (fun _ => rfl) ?_))
        cases h2 : decide (fd ≥ 8)
        · simp only [decide_eq_false_iff_not] at h1 h2
          have h3 : T.fd pid.toNat fd.toNat = 0 := by
            simp only [Tb.err, hr] at he
            rw [if_neg (by simp), if_neg (by omega)] at he
            by_cases h : T.fd pid.toNat fd.toNat = 0
            · exact h
            · rw [if_neg h] at he; exact absurd rfl he
          (repeat (first | first | refine run_zfa rfl (fun _ => by rfl) (fun _ => by rfl) ?_ | refine run_faz rfl (fun _ => by rfl) (fun _ => by rfl) ?_ | refine run_fa rfl (fun _ => by rfl) (fun _ => by rfl) ?_ | refine run_p (fun _ => rfl) rfl ?_ | refine run_n rfl (fun _ => rfl) ?_ | refine run_y (fun _ => rfl) rfl (fun _ => rfl) ?_))
          first | refine run_zix rfl (fun _ => by rfl) (fun _ => by rfl) (fun _ => by rfl) (by omega) (by omega) ?_ | refine run_ix rfl (fun _ => by rfl) (fun _ => by rfl) (fun _ => by rfl) (by omega) (by omega) ?_
          refine run_ld _ _ _ rfl (fun _ => by rfl) (fun _ => by rfl) (.inl (hT)) (by exact T.get_fd pid.toNat fd.toNat (by omega) (by omega) (by omega)) ?_
          rw [h3]
          (repeat (first | first | refine run_zfa rfl (fun _ => by rfl) (fun _ => by rfl) ?_ | refine run_faz rfl (fun _ => by rfl) (fun _ => by rfl) ?_ | refine run_fa rfl (fun _ => by rfl) (fun _ => by rfl) ?_ | refine run_p (fun _ => rfl) rfl ?_ | refine run_n rfl (fun _ => rfl) ?_ | refine run_y (fun _ => rfl) rfl (fun _ => rfl) ?_))
          exact run_keep [_] (by intro j; repeat (first | exact trivial | refine ⟨rfl, ?_⟩)) (K () trivial)
        · (repeat (first | first | refine run_zfa rfl (fun _ => by rfl) (fun _ => by rfl) ?_ | refine run_faz rfl (fun _ => by rfl) (fun _ => by rfl) ?_ | refine run_fa rfl (fun _ => by rfl) (fun _ => by rfl) ?_ | refine run_p (fun _ => rfl) rfl ?_ | refine run_n rfl (fun _ => rfl) ?_ | refine run_y (fun _ => rfl) rfl (fun _ => rfl) ?_))
          exact run_keep [_] (by intro j; repeat (first | exact trivial | refine ⟨rfl, ?_⟩)) (K () trivial)
      · (repeat (first | first | refine run_zfa rfl (fun _ => by rfl) (fun _ => by rfl) ?_ | refine run_faz rfl (fun _ => by rfl) (fun _ => by rfl) ?_ | refine run_fa rfl (fun _ => by rfl) (fun _ => by rfl) ?_ | refine run_p (fun _ => rfl) rfl ?_ | refine run_n rfl (fun _ => rfl) ?_ | refine run_y (fun _ => rfl) rfl (fun _ => rfl) ?_))
        exact run_keep [_] (by intro j; repeat (first | exact trivial | refine ⟨rfl, ?_⟩)) (K () trivial)
set_option maxHeartbeats 1000000 in
theorem open_yes {H M : Heap} {b : Nat} {T : Tb} (hT : M b = some T.obj) (pid fd : Int) (n : Nat) (he : T.err pid fd = 0) (hn : T.fd pid.toNat fd.toNat = (n : Int) + 1) (h16 : n < 16) :
    ACalls Try.prog 27 #[.pointer (some ⟨b,0,none⟩), .int .i64 pid, .int .i64 fd] H M
      (fun v H' M' => v = .tuple #[.pointer (some ⟨b, pid.toNat * 11, none⟩), .pointer (some ⟨b, 99 + n * 8, none⟩), .int .i64 0] ∧ H' = H ∧ M' = M) := by
  have hr : T.runs pid = true := by
    cases hr : T.runs pid
    · simp [Tb.err, hr] at he
    · rfl
  have hp : 1 ≤ pid ∧ pid < 9 := by simp [Tb.runs] at hr; omega
  have hf : 0 ≤ fd ∧ fd < 8 := by
    simp only [Tb.err, hr] at he
    rw [if_neg (by simp)] at he
    by_cases h : fd < 0 ∨ fd ≥ 8
    · rw [if_pos h] at he; cases he
    · omega
  have d1 : decide (fd < 0) = false := decide_eq_false (by omega)
  have d2 : decide (fd ≥ 8) = false := decide_eq_false (by omega)
  have d3 : (((n : Int) + 1) == 0) = false := by simp; omega
  have e1 : IntKind.i64.wrap ((n : Int) + 1 - 1) = (n : Int) := by rw [wrap_id (by omega) (by omega)]; omega
  refine enter (args := [_, _, _]) Try.func27 rfl rfl (by show (3 : Nat) ≤ 49; decide) ?_
  (repeat (first | first | refine run_zfa rfl (fun _ => by rfl) (fun _ => by rfl) ?_ | refine run_faz rfl (fun _ => by rfl) (fun _ => by rfl) ?_ | refine run_fa rfl (fun _ => by rfl) (fun _ => by rfl) ?_ | refine run_p (fun _ => rfl) rfl ?_ | refine run_n rfl (fun _ => rfl) ?_ | refine run_y (fun _ => rfl) rfl (fun _ => rfl) ?_ | refine run_seq ?_ | refine run_region ?_ | refine run_ops_nil ?_ | refine run_block ?_ | refine run_skip ?_ | refine run_inBlock ?_ | refine run_exit rfl ?_))
  refine run_call rfl (fun _ => by rfl) (fun _ => by kernel_rfl) (at_yes hT pid hr) ?_
  rintro v H' M' ⟨rfl, rfl, rfl⟩
  (repeat (first | first | refine run_zfa rfl (fun _ => by rfl) (fun _ => by rfl) ?_ | refine run_faz rfl (fun _ => by rfl) (fun _ => by rfl) ?_ | refine run_fa rfl (fun _ => by rfl) (fun _ => by rfl) ?_ | refine run_p (fun _ => rfl) rfl ?_ | refine run_n rfl (fun _ => rfl) ?_ | refine run_y (fun _ => rfl) rfl (fun _ => rfl) ?_ | refine run_seq ?_ | refine run_region ?_ | refine run_ops_nil ?_ | refine run_block ?_ | refine run_skip ?_ | refine run_inBlock ?_ | refine run_exit rfl ?_))
  refine run_cond _ (fun _ => by rfl) (fun hc => ?_) (fun hc => ?_)
  · cases hc
  (repeat (first | first | refine run_zfa rfl (fun _ => by rfl) (fun _ => by rfl) ?_ | refine run_faz rfl (fun _ => by rfl) (fun _ => by rfl) ?_ | refine run_fa rfl (fun _ => by rfl) (fun _ => by rfl) ?_ | refine run_p (fun _ => rfl) rfl ?_ | refine run_n rfl (fun _ => rfl) ?_ | refine run_y (fun _ => rfl) rfl (fun _ => rfl) ?_ | refine run_seq ?_ | refine run_region ?_ | refine run_ops_nil ?_ | refine run_block ?_ | refine run_skip ?_ | refine run_inBlock ?_ | refine run_exit rfl ?_))
  rw [d1]
  (repeat (first | first | refine run_zfa rfl (fun _ => by rfl) (fun _ => by rfl) ?_ | refine run_faz rfl (fun _ => by rfl) (fun _ => by rfl) ?_ | refine run_fa rfl (fun _ => by rfl) (fun _ => by rfl) ?_ | refine run_p (fun _ => rfl) rfl ?_ | refine run_n rfl (fun _ => rfl) ?_ | refine run_y (fun _ => rfl) rfl (fun _ => rfl) ?_))
  rw [d2]
  (repeat (first | first | refine run_zfa rfl (fun _ => by rfl) (fun _ => by rfl) ?_ | refine run_faz rfl (fun _ => by rfl) (fun _ => by rfl) ?_ | refine run_fa rfl (fun _ => by rfl) (fun _ => by rfl) ?_ | refine run_p (fun _ => rfl) rfl ?_ | refine run_n rfl (fun _ => rfl) ?_ | refine run_y (fun _ => rfl) rfl (fun _ => rfl) ?_))
  first | refine run_zix rfl (fun _ => by rfl) (fun _ => by rfl) (fun _ => by rfl) (by omega) (by omega) ?_ | refine run_ix rfl (fun _ => by rfl) (fun _ => by rfl) (fun _ => by rfl) (by omega) (by omega) ?_
  refine run_ld _ _ _ rfl (fun _ => by rfl) (fun _ => by rfl) (.inl (hT)) (by exact T.get_fd pid.toNat fd.toNat (by omega) (by omega) (by omega)) ?_
  rw [hn]
  (repeat (first | first | refine run_zfa rfl (fun _ => by rfl) (fun _ => by rfl) ?_ | refine run_faz rfl (fun _ => by rfl) (fun _ => by rfl) ?_ | refine run_fa rfl (fun _ => by rfl) (fun _ => by rfl) ?_ | refine run_p (fun _ => rfl) rfl ?_ | refine run_n rfl (fun _ => rfl) ?_ | refine run_y (fun _ => rfl) rfl (fun _ => rfl) ?_))
  rw [d3]
  (repeat (first | first | refine run_zfa rfl (fun _ => by rfl) (fun _ => by rfl) ?_ | refine run_faz rfl (fun _ => by rfl) (fun _ => by rfl) ?_ | refine run_fa rfl (fun _ => by rfl) (fun _ => by rfl) ?_ | refine run_p (fun _ => rfl) rfl ?_ | refine run_n rfl (fun _ => rfl) ?_ | refine run_y (fun _ => rfl) rfl (fun _ => rfl) ?_ | refine run_seq ?_ | refine run_region ?_ | refine run_ops_nil ?_ | refine run_block ?_ | refine run_skip ?_ | refine run_inBlock ?_ | refine run_exit rfl ?_))
  refine run_cond _ (fun _ => by rfl) (fun hc2 => ?_) (fun hc2 => ?_)
  · cases hc2
  (repeat (first | first | refine run_zfa rfl (fun _ => by rfl) (fun _ => by rfl) ?_ | refine run_faz rfl (fun _ => by rfl) (fun _ => by rfl) ?_ | refine run_fa rfl (fun _ => by rfl) (fun _ => by rfl) ?_ | refine run_p (fun _ => rfl) rfl ?_ | refine run_n rfl (fun _ => rfl) ?_ | refine run_y (fun _ => rfl) rfl (fun _ => rfl) ?_ | refine run_seq ?_ | refine run_region ?_ | refine run_ops_nil ?_ | refine run_block ?_ | refine run_skip ?_ | refine run_inBlock ?_ | refine run_exit rfl ?_))
  refine run_quiet (l2 := ?l2) (by kernel_rfl) (by kernel_rfl) ?hq ?h
  case hq =>
    (repeat (first | first | refine ql_zfa rfl (fun _ => by rfl) (fun _ => by rfl) ?_ | refine ql_faz rfl (fun _ => by rfl) (fun _ => by rfl) ?_ | refine ql_fa rfl (fun _ => by rfl) (fun _ => by rfl) ?_ | refine ql_p (fun _ => rfl) rfl ?_ | refine ql_n rfl (fun _ => rfl) ?_ | refine ql_y (fun _ => rfl) rfl (fun _ => rfl) ?_))
    first | refine ql_zix rfl (fun _ => by rfl) (fun _ => by rfl) (fun _ => by rfl) (by omega) (by omega) ?_ | refine ql_ix rfl (fun _ => by rfl) (fun _ => by rfl) (fun _ => by rfl) (by omega) (by omega) ?_
    refine ql_ld _ _ _ rfl (fun _ => by rfl) (fun _ => by rfl) (.inl (hT)) (by exact T.get_fd pid.toNat fd.toNat (by omega) (by omega) (by omega)) ?_
    rw [hn]
    refine ql_p (fun _ => rfl) rfl ?_
    rw [e1]
    (repeat (first | first | refine ql_zfa rfl (fun _ => by rfl) (fun _ => by rfl) ?_ | refine ql_faz rfl (fun _ => by rfl) (fun _ => by rfl) ?_ | refine ql_fa rfl (fun _ => by rfl) (fun _ => by rfl) ?_ | refine ql_p (fun _ => rfl) rfl ?_ | refine ql_n rfl (fun _ => rfl) ?_ | refine ql_y (fun _ => rfl) rfl (fun _ => rfl) ?_))
    first | refine ql_zix rfl (fun _ => by rfl) (fun _ => by rfl) (fun _ => by rfl) (by omega) (by omega) ?_ | refine ql_ix rfl (fun _ => by rfl) (fun _ => by rfl) (fun _ => by rfl) (by omega) (by omega) ?_
    (repeat (first | first | refine ql_zfa rfl (fun _ => by rfl) (fun _ => by rfl) ?_ | refine ql_faz rfl (fun _ => by rfl) (fun _ => by rfl) ?_ | refine ql_fa rfl (fun _ => by rfl) (fun _ => by rfl) ?_ | refine ql_p (fun _ => rfl) rfl ?_ | refine ql_n rfl (fun _ => rfl) ?_ | refine ql_y (fun _ => rfl) rfl (fun _ => rfl) ?_))
    exact .nil
  case h =>
  simp only [Int.toNat_natCast]
  (repeat (first | first | refine run_zfa rfl (fun _ => by rfl) (fun _ => by rfl) ?_ | refine run_faz rfl (fun _ => by rfl) (fun _ => by rfl) ?_ | refine run_fa rfl (fun _ => by rfl) (fun _ => by rfl) ?_ | refine run_p (fun _ => rfl) rfl ?_ | refine run_n rfl (fun _ => rfl) ?_ | refine run_y (fun _ => rfl) rfl (fun _ => rfl) ?_ | refine run_seq ?_ | refine run_region ?_ | refine run_ops_nil ?_ | refine run_block ?_ | refine run_skip ?_ | refine run_inBlock ?_ | refine run_exit rfl ?_))
  exact run_retc Try.func27 (fun _ => by kernel_rfl) (⟨rfl, rfl, rfl⟩)
end Go.Proofs.Ytimaipclgmcekaa
