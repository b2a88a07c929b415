/- Get, Set, Close, Dup, New, Clone. -/
import Derived.Test.YtimaipclgmcekaaProcB
namespace Go.Proofs.Ytimaipclgmcekaa
open Go.Cam
set_option maxRecDepth 100000
structure _root_.Go.Cam.Tb.Bd (T : Tb) : Prop where
  fd : ∀ p f, 0 ≤ T.fd p f ∧ T.fd p f ≤ 16
  us : ∀ n, -1000 ≤ T.us n ∧ T.us n ≤ 1000
def _root_.Go.Cam.Tb.no (T : Tb) (pid fd : Int) : Nat := (T.fd pid.toNat fd.toNat - 1).toNat
theorem runs_bd {T : Tb} {pid : Int} (hr : T.runs pid = true) : 1 ≤ pid ∧ pid < 9 := by simp [Tb.runs] at hr; omega
theorem err0 {T : Tb} {pid fd : Int} (h : T.err pid fd = 0) (hb : T.Bd) : T.runs pid = true ∧ (0 ≤ fd ∧ fd < 8) ∧ T.fd pid.toNat fd.toNat = (T.no pid fd : Int) + 1 ∧ T.no pid fd < 16 := by
  unfold Tb.err at h
  cases hr : T.runs pid with
  | false => simp [hr] at h
  | true =>
    rw [hr, if_neg (by simp)] at h
    by_cases h1 : fd < 0 ∨ fd ≥ 8
    · rw [if_pos h1] at h; cases h
    · rw [if_neg h1] at h
      by_cases h2 : T.fd pid.toNat fd.toNat = 0
      · rw [if_pos h2] at h; cases h
      · have := hb.fd pid.toNat fd.toNat
        refine ⟨rfl, by omega, ?_, ?_⟩ <;> unfold Tb.no <;> omega
theorem ch_same {M M' : Heap} {b : Nat} {o : Obj} (h : Ch [] M M') (hb : M b = some o) : M' b = some o := h b o (by simp) hb
set_option maxHeartbeats 1000000 in
theorem get_no {H M : Heap} {b : Nat} {T : Tb} (hT : M b = some T.obj) (pid fd : Int) (he : T.err pid fd ≠ 0) :
    ACalls Try.prog 19 #[.pointer (some ⟨b,0,none⟩), .int .i64 pid, .int .i64 fd] H M
      (fun v H' M' => v = .tuple #[.agg Opn.zero.vals, .int .i64 (T.err pid fd)] ∧ H' = H ∧ Ch [] M M') := by
  have hne : (T.err pid fd != 0) = true := by simpa using he
  refine enter (args := [_, _, _]) Try.func19 rfl rfl (by show (3 : Nat) ≤ 27; decide) ?_
  (repeat (first | first | refine run_zfa rfl (fun _ => by rfl) (fun _ => by rfl) ?_ | refine run_faz rfl (fun _ => by rfl) (fun _ => by rfl) ?_ | refine run_fa rfl (fun _ => by rfl) (fun _ => by rfl) ?_ | refine run_p (fun _ => rfl) rfl ?_ | refine run_n rfl (fun _ => rfl) ?_ | refine run_y (fun _ => rfl) rfl (fun _ => rfl) ?_ | refine run_seq ?_ | refine run_region ?_ | refine run_ops_nil ?_ | refine run_block ?_ | refine run_skip ?_ | refine run_inBlock ?_ | refine run_exit rfl ?_))
  refine run_newA (.cells Opn.zero.vals 41 (0, 0)) rfl (fun _ => by rfl) (fun _ => by kernel_rfl) (fun r1 M1 hR k1 => ?_)
  have n1 := (k1 _ _ hT).2
  replace hT := (k1 _ _ hT).1
  (repeat (first | first | refine run_zfa rfl (fun _ => by rfl) (fun _ => by rfl) ?_ | refine run_faz rfl (fun _ => by rfl) (fun _ => by rfl) ?_ | refine run_fa rfl (fun _ => by rfl) (fun _ => by rfl) ?_ | refine run_p (fun _ => rfl) rfl ?_ | refine run_n rfl (fun _ => rfl) ?_ | refine run_y (fun _ => rfl) rfl (fun _ => rfl) ?_ | refine run_seq ?_ | refine run_region ?_ | refine run_ops_nil ?_ | refine run_block ?_ | refine run_skip ?_ | refine run_inBlock ?_ | refine run_exit rfl ?_))
  refine run_call rfl (fun _ => by rfl) (fun _ => by kernel_rfl) (open_no hT pid fd he) ?_
  rintro v H' M' ⟨rfl, rfl, rfl⟩
  (repeat (first | first | refine run_zfa rfl (fun _ => by rfl) (fun _ => by rfl) ?_ | refine run_faz rfl (fun _ => by rfl) (fun _ => by rfl) ?_ | refine run_fa rfl (fun _ => by rfl) (fun _ => by rfl) ?_ | refine run_p (fun _ => rfl) rfl ?_ | refine run_n rfl (fun _ => rfl) ?_ | refine run_y (fun _ => rfl) rfl (fun _ => rfl) ?_ | refine run_seq ?_ | refine run_region ?_ | refine run_ops_nil ?_ | refine run_block ?_ | refine run_skip ?_ | refine run_inBlock ?_ | refine run_exit rfl ?_))
  rw [hne]
  refine run_cond _ (fun _ => by rfl) (fun hc => ?_) (fun hc => ?_)
  · (repeat (first | first | refine run_zfa rfl (fun _ => by rfl) (fun _ => by rfl) ?_ | refine run_faz rfl (fun _ => by rfl) (fun _ => by rfl) ?_ | refine run_fa rfl (fun _ => by rfl) (fun _ => by rfl) ?_ | refine run_p (fun _ => rfl) rfl ?_ | refine run_n rfl (fun _ => rfl) ?_ | refine run_y (fun _ => rfl) rfl (fun _ => rfl) ?_ | refine run_seq ?_ | refine run_region ?_ | refine run_ops_nil ?_ | refine run_block ?_ | refine run_skip ?_ | refine run_inBlock ?_ | refine run_exit rfl ?_))
    refine run_bd (Opn.zero.vals) rfl (fun _ => by rfl) (fun _ => by kernel_rfl) ?_
    (repeat (first | first | refine run_zfa rfl (fun _ => by rfl) (fun _ => by rfl) ?_ | refine run_faz rfl (fun _ => by rfl) (fun _ => by rfl) ?_ | refine run_fa rfl (fun _ => by rfl) (fun _ => by rfl) ?_ | refine run_p (fun _ => rfl) rfl ?_ | refine run_n rfl (fun _ => rfl) ?_ | refine run_y (fun _ => rfl) rfl (fun _ => rfl) ?_ | refine run_seq ?_ | refine run_region ?_ | refine run_ops_nil ?_ | refine run_block ?_ | refine run_skip ?_ | refine run_inBlock ?_ | refine run_exit rfl ?_))
    refine run_stA _ _ _ _ (Opn.zero.vals) (fun _ => by rfl) (fun _ => by rfl) (fun _ => by rfl) hR (by kernel_rfl) (by first | decide | exact Nat.le_refl _) (by kernel_rfl) (by kernel_rfl) (fun M2 hR k2 => ?_)
    (repeat (first | first | refine run_zfa rfl (fun _ => by rfl) (fun _ => by rfl) ?_ | refine run_faz rfl (fun _ => by rfl) (fun _ => by rfl) ?_ | refine run_fa rfl (fun _ => by rfl) (fun _ => by rfl) ?_ | refine run_p (fun _ => rfl) rfl ?_ | refine run_n rfl (fun _ => rfl) ?_ | refine run_y (fun _ => rfl) rfl (fun _ => rfl) ?_ | refine run_seq ?_ | refine run_region ?_ | refine run_ops_nil ?_ | refine run_block ?_ | refine run_skip ?_ | refine run_inBlock ?_ | refine run_exit rfl ?_))
    exact run_retv [.agg Opn.zero.vals, .int .i64 (T.err pid fd)] Try.func19 rfl (fun j => .cell _ _ 7 _ rfl rfl rfl (.inl hR) (Nat.le_refl _) rfl (.tmp _ rfl .nil)) ⟨rfl, rfl, ((Ch.refl _ _).new' k1).box' k2 (New.none (Ch.refl [] M) k1 (by simp))⟩
  · cases hc
set_option maxHeartbeats 1000000 in
theorem get_yes {H M : Heap} {b : Nat} {T : Tb} (hT : M b = some T.obj) (pid fd : Int) (hb : T.Bd) (he : T.err pid fd = 0) :
    ACalls Try.prog 19 #[.pointer (some ⟨b,0,none⟩), .int .i64 pid, .int .i64 fd] H M
      (fun v H' M' => v = .tuple #[.agg (T.op (T.no pid fd)).vals, .int .i64 0] ∧ H' = H ∧ Ch [] M M') := by
  obtain ⟨hr, hf, hn, h16⟩ := err0 he hb
  refine enter (args := [_, _, _]) Try.func19 rfl rfl (by show (3 : Nat) ≤ 27; decide) ?_
  (repeat (first | first | refine run_zfa rfl (fun _ => by rfl) (fun _ => by rfl) ?_ | refine run_faz rfl (fun _ => by rfl) (fun _ => by rfl) ?_ | refine run_fa rfl (fun _ => by rfl) (fun _ => by rfl) ?_ | refine run_p (fun _ => rfl) rfl ?_ | refine run_n rfl (fun _ => rfl) ?_ | refine run_y (fun _ => rfl) rfl (fun _ => rfl) ?_ | refine run_seq ?_ | refine run_region ?_ | refine run_ops_nil ?_ | refine run_block ?_ | refine run_skip ?_ | refine run_inBlock ?_ | refine run_exit rfl ?_))
  refine run_newA (.cells Opn.zero.vals 41 (0, 0)) rfl (fun _ => by rfl) (fun _ => by kernel_rfl) (fun r1 M1 hR k1 => ?_)
  have n1 := (k1 _ _ hT).2
  replace hT := (k1 _ _ hT).1
  (repeat (first | first | refine run_zfa rfl (fun _ => by rfl) (fun _ => by rfl) ?_ | refine run_faz rfl (fun _ => by rfl) (fun _ => by rfl) ?_ | refine run_fa rfl (fun _ => by rfl) (fun _ => by rfl) ?_ | refine run_p (fun _ => rfl) rfl ?_ | refine run_n rfl (fun _ => rfl) ?_ | refine run_y (fun _ => rfl) rfl (fun _ => rfl) ?_ | refine run_seq ?_ | refine run_region ?_ | refine run_ops_nil ?_ | refine run_block ?_ | refine run_skip ?_ | refine run_inBlock ?_ | refine run_exit rfl ?_))
  refine run_call rfl (fun _ => by rfl) (fun _ => by kernel_rfl) (open_yes hT pid fd _ he hn h16) ?_
  rintro v H' M' ⟨rfl, rfl, rfl⟩
  (repeat (first | first | refine run_zfa rfl (fun _ => by rfl) (fun _ => by rfl) ?_ | refine run_faz rfl (fun _ => by rfl) (fun _ => by rfl) ?_ | refine run_fa rfl (fun _ => by rfl) (fun _ => by rfl) ?_ | refine run_p (fun _ => rfl) rfl ?_ | refine run_n rfl (fun _ => rfl) ?_ | refine run_y (fun _ => rfl) rfl (fun _ => rfl) ?_ | refine run_seq ?_ | refine run_region ?_ | refine run_ops_nil ?_ | refine run_block ?_ | refine run_skip ?_ | refine run_inBlock ?_ | refine run_exit rfl ?_))
  refine run_cond _ (fun _ => by rfl) (fun hc => ?_) (fun hc => ?_)
  · cases hc
  · (repeat (first | first | refine run_zfa rfl (fun _ => by rfl) (fun _ => by rfl) ?_ | refine run_faz rfl (fun _ => by rfl) (fun _ => by rfl) ?_ | refine run_fa rfl (fun _ => by rfl) (fun _ => by rfl) ?_ | refine run_p (fun _ => rfl) rfl ?_ | refine run_n rfl (fun _ => rfl) ?_ | refine run_y (fun _ => rfl) rfl (fun _ => rfl) ?_ | refine run_seq ?_ | refine run_region ?_ | refine run_ops_nil ?_ | refine run_block ?_ | refine run_skip ?_ | refine run_inBlock ?_ | refine run_exit rfl ?_))
    refine run_ldN _ _ _ ((T.op (T.no pid fd)).vals) rfl (fun _ => by rfl) (fun _ => by rfl) (.inl (hT)) (by first | (rw [tab_size]; omega) | (simp; done) | decide | exact Nat.le_of_ble_eq_true rfl) (by exact T.ext_op (T.no pid fd) (by omega) h16) ?_
    refine run_stA _ _ _ _ ((T.op (T.no pid fd)).vals) (fun _ => by rfl) (fun _ => by rfl) (fun _ => by rfl) hR (by kernel_rfl) (by first | decide | exact Nat.le_refl _) (by kernel_rfl) (by kernel_rfl) (fun M2 hR k2 => ?_)
    (repeat (first | first | refine run_zfa rfl (fun _ => by rfl) (fun _ => by rfl) ?_ | refine run_faz rfl (fun _ => by rfl) (fun _ => by rfl) ?_ | refine run_fa rfl (fun _ => by rfl) (fun _ => by rfl) ?_ | refine run_p (fun _ => rfl) rfl ?_ | refine run_n rfl (fun _ => rfl) ?_ | refine run_y (fun _ => rfl) rfl (fun _ => rfl) ?_ | refine run_seq ?_ | refine run_region ?_ | refine run_ops_nil ?_ | refine run_block ?_ | refine run_skip ?_ | refine run_inBlock ?_ | refine run_exit rfl ?_))
    exact run_retv [.agg (T.op (T.no pid fd)).vals, .int .i64 0] Try.func19 rfl (fun j => .cell _ _ 7 _ rfl rfl rfl (.inl hR) (Nat.le_refl _) rfl (.tmp _ rfl .nil)) ⟨rfl, rfl, ((Ch.refl _ _).new' k1).box' k2 (New.none (Ch.refl [] M) k1 (by simp))⟩
set_option maxHeartbeats 1000000 in
theorem set_no {H M : Heap} {b : Nat} {T : Tb} (hT : M b = some T.obj) (pid fd : Int) (x : Opn) (he : T.err pid fd ≠ 0) :
    ACalls Try.prog 18 #[.pointer (some ⟨b,0,none⟩), .int .i64 pid, .int .i64 fd, .agg x.vals] H M
      (fun v H' M' => v = .int .i64 (T.err pid fd) ∧ H' = H ∧ Ch [] M M') := by
  have hne : (T.err pid fd == 0) = false := by simpa using he
  refine enter (args := [_, _, _, _]) Try.func18 rfl rfl (by show (4 : Nat) ≤ 27; decide) ?_
  (repeat (first | first | refine run_zfa rfl (fun _ => by rfl) (fun _ => by rfl) ?_ | refine run_faz rfl (fun _ => by rfl) (fun _ => by rfl) ?_ | refine run_fa rfl (fun _ => by rfl) (fun _ => by rfl) ?_ | refine run_p (fun _ => rfl) rfl ?_ | refine run_n rfl (fun _ => rfl) ?_ | refine run_y (fun _ => rfl) rfl (fun _ => rfl) ?_ | refine run_seq ?_ | refine run_region ?_ | refine run_ops_nil ?_ | refine run_block ?_ | refine run_skip ?_ | refine run_inBlock ?_ | refine run_exit rfl ?_))
  refine run_newA (.cells x.vals 41 (0, 0)) rfl (fun _ => by rfl) (fun _ => by kernel_rfl) (fun r1 M1 hR k1 => ?_)
  have n1 := (k1 _ _ hT).2
  replace hT := (k1 _ _ hT).1
  (repeat (first | first | refine run_zfa rfl (fun _ => by rfl) (fun _ => by rfl) ?_ | refine run_faz rfl (fun _ => by rfl) (fun _ => by rfl) ?_ | refine run_fa rfl (fun _ => by rfl) (fun _ => by rfl) ?_ | refine run_p (fun _ => rfl) rfl ?_ | refine run_n rfl (fun _ => rfl) ?_ | refine run_y (fun _ => rfl) rfl (fun _ => rfl) ?_ | refine run_seq ?_ | refine run_region ?_ | refine run_ops_nil ?_ | refine run_block ?_ | refine run_skip ?_ | refine run_inBlock ?_ | refine run_exit rfl ?_))
  refine run_call rfl (fun _ => by rfl) (fun _ => by kernel_rfl) (open_no hT pid fd he) ?_
  rintro v H' M' ⟨rfl, rfl, rfl⟩
  (repeat (first | first | refine run_zfa rfl (fun _ => by rfl) (fun _ => by rfl) ?_ | refine run_faz rfl (fun _ => by rfl) (fun _ => by rfl) ?_ | refine run_fa rfl (fun _ => by rfl) (fun _ => by rfl) ?_ | refine run_p (fun _ => rfl) rfl ?_ | refine run_n rfl (fun _ => rfl) ?_ | refine run_y (fun _ => rfl) rfl (fun _ => rfl) ?_ | refine run_seq ?_ | refine run_region ?_ | refine run_ops_nil ?_ | refine run_block ?_ | refine run_skip ?_ | refine run_inBlock ?_ | refine run_exit rfl ?_))
  rw [hne]
  refine run_cond _ (fun _ => by rfl) (fun hc => ?_) (fun hc => ?_)
  · cases hc
  · (repeat (first | first | refine run_zfa rfl (fun _ => by rfl) (fun _ => by rfl) ?_ | refine run_faz rfl (fun _ => by rfl) (fun _ => by rfl) ?_ | refine run_fa rfl (fun _ => by rfl) (fun _ => by rfl) ?_ | refine run_p (fun _ => rfl) rfl ?_ | refine run_n rfl (fun _ => rfl) ?_ | refine run_y (fun _ => rfl) rfl (fun _ => rfl) ?_ | refine run_seq ?_ | refine run_region ?_ | refine run_ops_nil ?_ | refine run_block ?_ | refine run_skip ?_ | refine run_inBlock ?_ | refine run_exit rfl ?_))
    exact run_retc Try.func18 (fun _ => by kernel_rfl) (⟨rfl, rfl, (Ch.refl _ _).new' k1⟩)
set_option maxHeartbeats 1000000 in
theorem set_yes {H M : Heap} {b : Nat} {T : Tb} (hT : M b = some T.obj) (pid fd : Int) (x : Opn) (hb : T.Bd) (he : T.err pid fd = 0) :
    ACalls Try.prog 18 #[.pointer (some ⟨b,0,none⟩), .int .i64 pid, .int .i64 fd, .agg x.vals] H M
      (fun v H' M' => v = .int .i64 0 ∧ H' = H ∧ M' b = some (T.setOp (T.no pid fd) x).obj ∧ Ch [b] M M') := by
  obtain ⟨hr, hf, hn, h16⟩ := err0 he hb
  refine enter (args := [_, _, _, _]) Try.func18 rfl rfl (by show (4 : Nat) ≤ 27; decide) ?_
  (repeat (first | first | refine run_zfa rfl (fun _ => by rfl) (fun _ => by rfl) ?_ | refine run_faz rfl (fun _ => by rfl) (fun _ => by rfl) ?_ | refine run_fa rfl (fun _ => by rfl) (fun _ => by rfl) ?_ | refine run_p (fun _ => rfl) rfl ?_ | refine run_n rfl (fun _ => rfl) ?_ | refine run_y (fun _ => rfl) rfl (fun _ => rfl) ?_ | refine run_seq ?_ | refine run_region ?_ | refine run_ops_nil ?_ | refine run_block ?_ | refine run_skip ?_ | refine run_inBlock ?_ | refine run_exit rfl ?_))
  refine run_newA (.cells x.vals 41 (0, 0)) rfl (fun _ => by rfl) (fun _ => by kernel_rfl) (fun r1 M1 hR k1 => ?_)
  have n1 := (k1 _ _ hT).2
  replace hT := (k1 _ _ hT).1
  (repeat (first | first | refine run_zfa rfl (fun _ => by rfl) (fun _ => by rfl) ?_ | refine run_faz rfl (fun _ => by rfl) (fun _ => by rfl) ?_ | refine run_fa rfl (fun _ => by rfl) (fun _ => by rfl) ?_ | refine run_p (fun _ => rfl) rfl ?_ | refine run_n rfl (fun _ => rfl) ?_ | refine run_y (fun _ => rfl) rfl (fun _ => rfl) ?_ | refine run_seq ?_ | refine run_region ?_ | refine run_ops_nil ?_ | refine run_block ?_ | refine run_skip ?_ | refine run_inBlock ?_ | refine run_exit rfl ?_))
  refine run_call rfl (fun _ => by rfl) (fun _ => by kernel_rfl) (open_yes hT pid fd _ he hn h16) ?_
  rintro v H' M' ⟨rfl, rfl, rfl⟩
  (repeat (first | first | refine run_zfa rfl (fun _ => by rfl) (fun _ => by rfl) ?_ | refine run_faz rfl (fun _ => by rfl) (fun _ => by rfl) ?_ | refine run_fa rfl (fun _ => by rfl) (fun _ => by rfl) ?_ | refine run_p (fun _ => rfl) rfl ?_ | refine run_n rfl (fun _ => rfl) ?_ | refine run_y (fun _ => rfl) rfl (fun _ => rfl) ?_ | refine run_seq ?_ | refine run_region ?_ | refine run_ops_nil ?_ | refine run_block ?_ | refine run_skip ?_ | refine run_inBlock ?_ | refine run_exit rfl ?_))
  refine run_cond _ (fun _ => by rfl) (fun hc => ?_) (fun hc => ?_)
  · (repeat (first | first | refine run_zfa rfl (fun _ => by rfl) (fun _ => by rfl) ?_ | refine run_faz rfl (fun _ => by rfl) (fun _ => by rfl) ?_ | refine run_fa rfl (fun _ => by rfl) (fun _ => by rfl) ?_ | refine run_p (fun _ => rfl) rfl ?_ | refine run_n rfl (fun _ => rfl) ?_ | refine run_y (fun _ => rfl) rfl (fun _ => rfl) ?_ | refine run_seq ?_ | refine run_region ?_ | refine run_ops_nil ?_ | refine run_block ?_ | refine run_skip ?_ | refine run_inBlock ?_ | refine run_exit rfl ?_))
    refine run_ldN _ _ _ _ rfl (fun _ => by rfl) (fun _ => by rfl) (.inl (hR)) (by first | decide | exact Nat.le_refl _) (extract_whole rfl) ?_
    (repeat (first | first | refine run_zfa rfl (fun _ => by rfl) (fun _ => by rfl) ?_ | refine run_faz rfl (fun _ => by rfl) (fun _ => by rfl) ?_ | refine run_fa rfl (fun _ => by rfl) (fun _ => by rfl) ?_ | refine run_p (fun _ => rfl) rfl ?_ | refine run_n rfl (fun _ => rfl) ?_ | refine run_y (fun _ => rfl) rfl (fun _ => rfl) ?_ | refine run_seq ?_ | refine run_region ?_ | refine run_ops_nil ?_ | refine run_block ?_ | refine run_skip ?_ | refine run_inBlock ?_ | refine run_exit rfl ?_))
    refine run_stA _ _ _ _ (tab 227 (T.setOp (T.no pid fd) x).cell) (fun _ => by rfl) (fun _ => by rfl) (fun _ => by rfl) hT (by rfl) (by first | (rw [tab_size]; omega) | (simp; done) | decide | exact Nat.le_of_ble_eq_true rfl) (by rfl) (by exact T.put_op (T.no pid fd) (by omega)) (fun M2 hT k2 => ?_)
    (repeat (first | first | refine run_zfa rfl (fun _ => by rfl) (fun _ => by rfl) ?_ | refine run_faz rfl (fun _ => by rfl) (fun _ => by rfl) ?_ | refine run_fa rfl (fun _ => by rfl) (fun _ => by rfl) ?_ | refine run_p (fun _ => rfl) rfl ?_ | refine run_n rfl (fun _ => rfl) ?_ | refine run_y (fun _ => rfl) rfl (fun _ => rfl) ?_ | refine run_seq ?_ | refine run_region ?_ | refine run_ops_nil ?_ | refine run_block ?_ | refine run_skip ?_ | refine run_inBlock ?_ | refine run_exit rfl ?_))
    exact run_retc Try.func18 (fun _ => by kernel_rfl) (⟨rfl, rfl, hT, ((Ch.refl _ _).new' k1).put' k2 in1⟩)
  · cases hc
end Go.Proofs.Ytimaipclgmcekaa
