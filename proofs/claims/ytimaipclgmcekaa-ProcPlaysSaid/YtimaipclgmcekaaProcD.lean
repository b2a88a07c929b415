/- Close, Dup, New, Clone. -/
import Derived.Test.YtimaipclgmcekaaProcC
namespace Go.Proofs.Ytimaipclgmcekaa
open Go.Cam
set_option maxRecDepth 100000
theorem let_ok' {H M : Heap} {b : Nat} {T : Tb} (hT : M b = some T.obj) (pid fd : Int) (hb : T.Bd) (he : T.err pid fd = 0) :
    ACalls Try.prog 25 #[.pointer (some ⟨b,0,none⟩), .pointer (some ⟨b, pid.toNat * 11, none⟩), .int .i64 fd] H M
      (fun v H' M' => v = .tuple #[.agg (T.op (T.no pid fd)).vals, .bool (!decide (T.us (T.no pid fd) - 1 > 0))] ∧ H' = H ∧ M' b = some (T.letT pid.toNat fd.toNat (T.no pid fd)).obj ∧ Ch [b] M M') := by
  obtain ⟨hr, hf, hn, h16⟩ := err0 he hb
  have hp := runs_bd hr
  have := let_ok (H := H) hT pid.toNat fd.toNat (T.no pid fd) (by omega) (by omega) hn h16 (by have := hb.us (T.no pid fd); omega)
  rw [show ((fd.toNat : Nat) : Int) = fd by omega] at this
  exact this
set_option maxHeartbeats 1000000 in
theorem close_no {H M : Heap} {b : Nat} {T : Tb} (hT : M b = some T.obj) (pid fd : Int) (he : T.err pid fd ≠ 0) :
    ACalls Try.prog 15 #[.pointer (some ⟨b,0,none⟩), .int .i64 pid, .int .i64 fd] H M
      (fun v H' M' => v = .tuple #[.agg Opn.zero.vals, .bool false, .int .i64 (T.err pid fd)] ∧ H' = H ∧ Ch [] M M') := by
  have hne : (T.err pid fd != 0) = true := by simpa using he
  refine enter (args := [_, _, _]) Try.func15 rfl rfl (by show (3 : Nat) ≤ 35; decide) ?_
  (repeat (first | first | refine run_zfa rfl (fun _ => by rfl) (fun _ => by rfl) ?_ | refine run_faz rfl (fun _ => by rfl) (fun _ => by rfl) ?_ | refine run_fa rfl (fun _ => by rfl) (fun _ => by rfl) ?_ | refine run_p (fun _ => rfl) rfl ?_ | refine run_n rfl (fun _ => rfl) ?_ | refine run_y (fun _ => rfl) rfl (fun _ => rfl) ?_ | refine run_seq ?_ | refine run_region ?_ | refine run_ops_nil ?_ | refine run_block ?_ | refine run_skip ?_ | refine run_inBlock ?_ | refine run_exit rfl ?_))
  refine run_newA (.cells Opn.zero.vals 41 (0, 0)) rfl (fun _ => by rfl) (fun _ => by kernel_rfl) (fun r1 M1 hR k1 => ?_)
  have n1 := (k1 _ _ hT).2
  replace hT := (k1 _ _ hT).1
  (repeat (first | first | refine run_zfa rfl (fun _ => by rfl) (fun _ => by rfl) ?_ | refine run_faz rfl (fun _ => by rfl) (fun _ => by rfl) ?_ | refine run_fa rfl (fun _ => by rfl) (fun _ => by rfl) ?_ | refine run_p (fun _ => rfl) rfl ?_ | refine run_n rfl (fun _ => rfl) ?_ | refine run_y (fun _ => rfl) rfl (fun _ => rfl) ?_ | refine run_seq ?_ | refine run_region ?_ | refine run_ops_nil ?_ | refine run_block ?_ | refine run_skip ?_ | refine run_inBlock ?_ | refine run_exit rfl ?_))
  refine run_call rfl (fun _ => by rfl) (fun _ => by kernel_rfl) (open_no hT pid fd he) ?_
  rintro v H' M' ⟨rfl, rfl, rfl⟩
  (repeat (first | first | refine run_zfa rfl (fun _ => by rfl) (fun _ => by rfl) ?_ | refine run_faz rfl (fun _ => by rfl) (fun _ => by rfl) ?_ | refine run_fa rfl (fun _ => by rfl) (fun _ => by rfl) ?_ | refine run_p (fun _ => rfl) rfl ?_ | refine run_n rfl (fun _ => rfl) ?_ | refine run_y (fun _ => rfl) rfl (fun _ => rfl) ?_ | refine run_seq ?_ | refine run_region ?_ | refine run_ops_nil ?_ | refine run_block ?_ | refine run_skip ?_ | refine run_inBlock ?_ | refine run_exit rfl ?_))
  rw [hne]
  refine run_cond _ (fun _ => by rfl) (fun hc => ?_) (fun hc => ?_)
  · (repeat (first | first | refine run_zfa rfl (fun _ => by rfl) (fun _ => by rfl) ?_ | refine run_faz rfl (fun _ => by rfl) (fun _ => by rfl) ?_ | refine run_fa rfl (fun _ => by rfl) (fun _ => by rfl) ?_ | refine run_p (fun _ => rfl) rfl ?_ | refine run_n rfl (fun _ => rfl) ?_ | refine run_y (fun _ => rfl) rfl (fun _ => rfl) ?_ | refine run_seq ?_ | refine run_region ?_ | refine run_ops_nil ?_ | refine run_block ?_ | refine run_skip ?_ | refine run_inBlock ?_ | refine run_exit rfl ?_))
    refine run_bd (Opn.zero.vals) rfl (fun _ => by rfl) (fun _ => by kernel_rfl) ?_
    (repeat (first | first | refine run_zfa rfl (fun _ => by rfl) (fun _ => by rfl) ?_ | refine run_faz rfl (fun _ => by rfl) (fun _ => by rfl) ?_ | refine run_fa rfl (fun _ => by rfl) (fun _ => by rfl) ?_ | refine run_p (fun _ => rfl) rfl ?_ | refine run_n rfl (fun _ => rfl) ?_ | refine run_y (fun _ => rfl) rfl (fun _ => rfl) ?_ | refine run_seq ?_ | refine run_region ?_ | refine run_ops_nil ?_ | refine run_block ?_ | refine run_skip ?_ | refine run_inBlock ?_ | refine run_exit rfl ?_))
    refine run_stA _ _ _ _ (Opn.zero.vals) (fun _ => by rfl) (fun _ => by rfl) (fun _ => by rfl) hR (by kernel_rfl) (by first | decide | exact Nat.le_refl _) (by kernel_rfl) (by kernel_rfl) (fun M2 hR k2 => ?_)
    (repeat (first | first | refine run_zfa rfl (fun _ => by rfl) (fun _ => by rfl) ?_ | refine run_faz rfl (fun _ => by rfl) (fun _ => by rfl) ?_ | refine run_fa rfl (fun _ => by rfl) (fun _ => by rfl) ?_ | refine run_p (fun _ => rfl) rfl ?_ | refine run_n rfl (fun _ => rfl) ?_ | refine run_y (fun _ => rfl) rfl (fun _ => rfl) ?_ | refine run_seq ?_ | refine run_region ?_ | refine run_ops_nil ?_ | refine run_block ?_ | refine run_skip ?_ | refine run_inBlock ?_ | refine run_exit rfl ?_))
    exact run_retv [.agg Opn.zero.vals, .bool false, .int .i64 (T.err pid fd)] Try.func15 rfl (fun j => .cell _ _ 7 _ rfl rfl rfl (.inl hR) (Nat.le_refl _) rfl (.tmp _ rfl (.tmp _ rfl .nil))) ⟨rfl, rfl, ((Ch.refl _ _).new' k1).box' k2 (New.none (Ch.refl [] M) k1 (by simp))⟩
  · cases hc
set_option maxHeartbeats 1000000 in
theorem close_yes {H M : Heap} {b : Nat} {T : Tb} (hT : M b = some T.obj) (pid fd : Int) (hb : T.Bd) (he : T.err pid fd = 0) :
    ACalls Try.prog 15 #[.pointer (some ⟨b,0,none⟩), .int .i64 pid, .int .i64 fd] H M
      (fun v H' M' => v = .tuple #[.agg (T.op (T.no pid fd)).vals, .bool (!decide (T.us (T.no pid fd) - 1 > 0)), .int .i64 0] ∧ H' = H ∧ M' b = some (T.letT pid.toNat fd.toNat (T.no pid fd)).obj ∧ Ch [b] M M') := by
  obtain ⟨hr, hf, hn, h16⟩ := err0 he hb
  refine enter (args := [_, _, _]) Try.func15 rfl rfl (by show (3 : Nat) ≤ 35; decide) ?_
  (repeat (first | first | refine run_zfa rfl (fun _ => by rfl) (fun _ => by rfl) ?_ | refine run_faz rfl (fun _ => by rfl) (fun _ => by rfl) ?_ | refine run_fa rfl (fun _ => by rfl) (fun _ => by rfl) ?_ | refine run_p (fun _ => rfl) rfl ?_ | refine run_n rfl (fun _ => rfl) ?_ | refine run_y (fun _ => rfl) rfl (fun _ => rfl) ?_ | refine run_seq ?_ | refine run_region ?_ | refine run_ops_nil ?_ | refine run_block ?_ | refine run_skip ?_ | refine run_inBlock ?_ | refine run_exit rfl ?_))
  refine run_newA (.cells Opn.zero.vals 41 (0, 0)) rfl (fun _ => by rfl) (fun _ => by kernel_rfl) (fun r1 M1 hR k1 => ?_)
  have n1 := (k1 _ _ hT).2
  replace hT := (k1 _ _ hT).1
  have hr1 := New.none (Ch.refl [b] M) k1 (nin1 n1)
  (repeat (first | first | refine run_zfa rfl (fun _ => by rfl) (fun _ => by rfl) ?_ | refine run_faz rfl (fun _ => by rfl) (fun _ => by rfl) ?_ | refine run_fa rfl (fun _ => by rfl) (fun _ => by rfl) ?_ | refine run_p (fun _ => rfl) rfl ?_ | refine run_n rfl (fun _ => rfl) ?_ | refine run_y (fun _ => rfl) rfl (fun _ => rfl) ?_ | refine run_seq ?_ | refine run_region ?_ | refine run_ops_nil ?_ | refine run_block ?_ | refine run_skip ?_ | refine run_inBlock ?_ | refine run_exit rfl ?_))
  refine run_call rfl (fun _ => by rfl) (fun _ => by kernel_rfl) (open_yes hT pid fd _ he hn h16) ?_
  rintro v H' M' ⟨rfl, rfl, rfl⟩
  (repeat (first | first | refine run_zfa rfl (fun _ => by rfl) (fun _ => by rfl) ?_ | refine run_faz rfl (fun _ => by rfl) (fun _ => by rfl) ?_ | refine run_fa rfl (fun _ => by rfl) (fun _ => by rfl) ?_ | refine run_p (fun _ => rfl) rfl ?_ | refine run_n rfl (fun _ => rfl) ?_ | refine run_y (fun _ => rfl) rfl (fun _ => rfl) ?_ | refine run_seq ?_ | refine run_region ?_ | refine run_ops_nil ?_ | refine run_block ?_ | refine run_skip ?_ | refine run_inBlock ?_ | refine run_exit rfl ?_))
  refine run_cond _ (fun _ => by rfl) (fun hc => ?_) (fun hc => ?_)
  · cases hc
  (repeat (first | first | refine run_zfa rfl (fun _ => by rfl) (fun _ => by rfl) ?_ | refine run_faz rfl (fun _ => by rfl) (fun _ => by rfl) ?_ | refine run_fa rfl (fun _ => by rfl) (fun _ => by rfl) ?_ | refine run_p (fun _ => rfl) rfl ?_ | refine run_n rfl (fun _ => rfl) ?_ | refine run_y (fun _ => rfl) rfl (fun _ => rfl) ?_ | refine run_seq ?_ | refine run_region ?_ | refine run_ops_nil ?_ | refine run_block ?_ | refine run_skip ?_ | refine run_inBlock ?_ | refine run_exit rfl ?_))
  refine run_call rfl (fun _ => by rfl) (fun _ => by kernel_rfl) (let_ok' hT pid fd hb he) ?_
  rintro v H' M2 ⟨rfl, rfl, hT, c2⟩
  replace hR := c2 _ _ (nin1 n1) hR
  (repeat (first | first | refine run_zfa rfl (fun _ => by rfl) (fun _ => by rfl) ?_ | refine run_faz rfl (fun _ => by rfl) (fun _ => by rfl) ?_ | refine run_fa rfl (fun _ => by rfl) (fun _ => by rfl) ?_ | refine run_p (fun _ => rfl) rfl ?_ | refine run_n rfl (fun _ => rfl) ?_ | refine run_y (fun _ => rfl) rfl (fun _ => rfl) ?_ | refine run_seq ?_ | refine run_region ?_ | refine run_ops_nil ?_ | refine run_block ?_ | refine run_skip ?_ | refine run_inBlock ?_ | refine run_exit rfl ?_))
  refine run_newA (.cells Opn.zero.vals 41 (0, 0)) rfl (fun _ => by rfl) (fun _ => by kernel_rfl) (fun r2 M3 hX k3 => ?_)
  have n2 := (k3 _ _ hT).2
  have n3 := (k3 _ _ hR).2
  replace hT := (k3 _ _ hT).1; replace hR := (k3 _ _ hR).1
  have c2' : Ch [b] M M2 := ((Ch.refl _ _).new' k1).trans c2
  have hr2 := New.none c2' k3 (nin1 n2)
  refine run_stA _ _ _ _ ((T.op (T.no pid fd)).vals) (fun _ => by rfl) (fun _ => by rfl) (fun _ => by rfl) hX (by kernel_rfl) (by first | decide | exact Nat.le_refl _) (by kernel_rfl) (by kernel_rfl) (fun M4 hX k4 => ?_)
  replace hT := k4 _ _ n2 hT; replace hR := k4 _ _ n3 hR
  (repeat (first | first | refine run_zfa rfl (fun _ => by rfl) (fun _ => by rfl) ?_ | refine run_faz rfl (fun _ => by rfl) (fun _ => by rfl) ?_ | refine run_fa rfl (fun _ => by rfl) (fun _ => by rfl) ?_ | refine run_p (fun _ => rfl) rfl ?_ | refine run_n rfl (fun _ => rfl) ?_ | refine run_y (fun _ => rfl) rfl (fun _ => rfl) ?_ | refine run_seq ?_ | refine run_region ?_ | refine run_ops_nil ?_ | refine run_block ?_ | refine run_skip ?_ | refine run_inBlock ?_ | refine run_exit rfl ?_))
  refine run_ldN _ _ _ _ rfl (fun _ => by rfl) (fun _ => by rfl) (.inl (hX)) (by first | decide | exact Nat.le_refl _) (extract_whole rfl) ?_
  (repeat (first | first | refine run_zfa rfl (fun _ => by rfl) (fun _ => by rfl) ?_ | refine run_faz rfl (fun _ => by rfl) (fun _ => by rfl) ?_ | refine run_fa rfl (fun _ => by rfl) (fun _ => by rfl) ?_ | refine run_p (fun _ => rfl) rfl ?_ | refine run_n rfl (fun _ => rfl) ?_ | refine run_y (fun _ => rfl) rfl (fun _ => rfl) ?_ | refine run_seq ?_ | refine run_region ?_ | refine run_ops_nil ?_ | refine run_block ?_ | refine run_skip ?_ | refine run_inBlock ?_ | refine run_exit rfl ?_))
  refine run_stA _ _ _ _ ((T.op (T.no pid fd)).vals) (fun _ => by rfl) (fun _ => by rfl) (fun _ => by rfl) hR (by kernel_rfl) (by first | decide | exact Nat.le_refl _) (by kernel_rfl) (by kernel_rfl) (fun M5 hR k5 => ?_)
  replace hT := k5 _ _ n1 hT
  (repeat (first | first | refine run_zfa rfl (fun _ => by rfl) (fun _ => by rfl) ?_ | refine run_faz rfl (fun _ => by rfl) (fun _ => by rfl) ?_ | refine run_fa rfl (fun _ => by rfl) (fun _ => by rfl) ?_ | refine run_p (fun _ => rfl) rfl ?_ | refine run_n rfl (fun _ => rfl) ?_ | refine run_y (fun _ => rfl) rfl (fun _ => rfl) ?_ | refine run_seq ?_ | refine run_region ?_ | refine run_ops_nil ?_ | refine run_block ?_ | refine run_skip ?_ | refine run_inBlock ?_ | refine run_exit rfl ?_))
  exact run_retv [.agg (T.op (T.no pid fd)).vals, .bool (!decide (T.us (T.no pid fd) - 1 > 0)), .int .i64 0] Try.func15 rfl (fun j => .cell _ _ 7 _ rfl rfl rfl (.inl hR) (Nat.le_refl _) rfl (.tmp _ rfl (.tmp _ rfl .nil)))
    ⟨rfl, rfl, hT, (((c2'.new' k3).box' k4 hr2).box' k5 hr1)⟩
def _root_.Go.Cam.Tb.dupT (T : Tb) (p f n : Nat) : Tb := (T.setFd p f ((n : Int) + 1)).setUs n (T.us n + 1)
set_option maxHeartbeats 1000000 in
theorem dup_no {H M : Heap} {b : Nat} {T : Tb} (hT : M b = some T.obj) (pid fd : Int) (he : T.err pid fd ≠ 0) :
    ACalls Try.prog 16 #[.pointer (some ⟨b,0,none⟩), .int .i64 pid, .int .i64 fd] H M
      (fun v H' M' => v = .tuple #[.int .i64 0, .int .i64 (T.err pid fd)] ∧ H' = H ∧ M' = M) := by
  have hne : (T.err pid fd != 0) = true := by simpa using he
  refine enter (args := [_, _, _]) Try.func16 rfl rfl (by show (3 : Nat) ≤ 46; decide) ?_
  (repeat (first | first | refine run_zfa rfl (fun _ => by rfl) (fun _ => by rfl) ?_ | refine run_faz rfl (fun _ => by rfl) (fun _ => by rfl) ?_ | refine run_fa rfl (fun _ => by rfl) (fun _ => by rfl) ?_ | refine run_p (fun _ => rfl) rfl ?_ | refine run_n rfl (fun _ => rfl) ?_ | refine run_y (fun _ => rfl) rfl (fun _ => rfl) ?_ | refine run_seq ?_ | refine run_region ?_ | refine run_ops_nil ?_ | refine run_block ?_ | refine run_skip ?_ | refine run_inBlock ?_ | refine run_exit rfl ?_))
  refine run_call rfl (fun _ => by rfl) (fun _ => by kernel_rfl) (open_no hT pid fd he) ?_
  rintro v H' M' ⟨rfl, rfl, rfl⟩
  (repeat (first | first | refine run_zfa rfl (fun _ => by rfl) (fun _ => by rfl) ?_ | refine run_faz rfl (fun _ => by rfl) (fun _ => by rfl) ?_ | refine run_fa rfl (fun _ => by rfl) (fun _ => by rfl) ?_ | refine run_p (fun _ => rfl) rfl ?_ | refine run_n rfl (fun _ => rfl) ?_ | refine run_y (fun _ => rfl) rfl (fun _ => rfl) ?_ | refine run_seq ?_ | refine run_region ?_ | refine run_ops_nil ?_ | refine run_block ?_ | refine run_skip ?_ | refine run_inBlock ?_ | refine run_exit rfl ?_))
  rw [hne]
  refine run_cond _ (fun _ => by rfl) (fun hc => ?_) (fun hc => ?_)
  · (repeat (first | first | refine run_zfa rfl (fun _ => by rfl) (fun _ => by rfl) ?_ | refine run_faz rfl (fun _ => by rfl) (fun _ => by rfl) ?_ | refine run_fa rfl (fun _ => by rfl) (fun _ => by rfl) ?_ | refine run_p (fun _ => rfl) rfl ?_ | refine run_n rfl (fun _ => rfl) ?_ | refine run_y (fun _ => rfl) rfl (fun _ => rfl) ?_ | refine run_seq ?_ | refine run_region ?_ | refine run_ops_nil ?_ | refine run_block ?_ | refine run_skip ?_ | refine run_inBlock ?_ | refine run_exit rfl ?_))
    exact run_retc Try.func16 (fun _ => by kernel_rfl) (⟨rfl, rfl, rfl⟩)
  · cases hc
theorem freeAt_bd (g : Nat → Int) : ∀ (d i : Nat), freeAt g d i = -1 ∨ ∃ j : Nat, freeAt g d i = j ∧ i ≤ j ∧ j < i + d ∧ g j = 0 ∧ ∀ q, i ≤ q → q < j → g q ≠ 0
  | 0, i => .inl rfl
  | d + 1, i => by
    unfold freeAt
    by_cases h : g i = 0
    · rw [if_pos h]; exact .inr ⟨i, rfl, by omega, by omega, h, fun q _ _ => by omega⟩
    · rw [if_neg h]
      rcases freeAt_bd g d (i + 1) with h2 | ⟨j, h2, a, b, c, e⟩
      · exact .inl h2
      · refine .inr ⟨j, h2, by omega, by omega, c, fun q _ _ => ?_⟩
        by_cases hq : q = i
        · subst hq; exact h
        · exact e q (by omega) (by omega)
set_option maxHeartbeats 1000000 in
theorem dup_full {H M : Heap} {b : Nat} {T : Tb} (hT : M b = some T.obj) (pid fd : Int) (hb : T.Bd) (he : T.err pid fd = 0) (hq : freeAt (T.fd pid.toNat) 8 0 = -1) :
    ACalls Try.prog 16 #[.pointer (some ⟨b,0,none⟩), .int .i64 pid, .int .i64 fd] H M
      (fun v H' M' => v = .tuple #[.int .i64 0, .int .i64 21] ∧ H' = H ∧ M' = M) := by
  obtain ⟨hr, hf, hn, h16⟩ := err0 he hb
  have hp := runs_bd hr
  refine enter (args := [_, _, _]) Try.func16 rfl rfl (by show (3 : Nat) ≤ 46; decide) ?_
  (repeat (first | first | refine run_zfa rfl (fun _ => by rfl) (fun _ => by rfl) ?_ | refine run_faz rfl (fun _ => by rfl) (fun _ => by rfl) ?_ | refine run_fa rfl (fun _ => by rfl) (fun _ => by rfl) ?_ | refine run_p (fun _ => rfl) rfl ?_ | refine run_n rfl (fun _ => rfl) ?_ | refine run_y (fun _ => rfl) rfl (fun _ => rfl) ?_ | refine run_seq ?_ | refine run_region ?_ | refine run_ops_nil ?_ | refine run_block ?_ | refine run_skip ?_ | refine run_inBlock ?_ | refine run_exit rfl ?_))
  refine run_call rfl (fun _ => by rfl) (fun _ => by kernel_rfl) (open_yes hT pid fd _ he hn h16) ?_
  rintro v H' M' ⟨rfl, rfl, rfl⟩
  (repeat (first | first | refine run_zfa rfl (fun _ => by rfl) (fun _ => by rfl) ?_ | refine run_faz rfl (fun _ => by rfl) (fun _ => by rfl) ?_ | refine run_fa rfl (fun _ => by rfl) (fun _ => by rfl) ?_ | refine run_p (fun _ => rfl) rfl ?_ | refine run_n rfl (fun _ => rfl) ?_ | refine run_y (fun _ => rfl) rfl (fun _ => rfl) ?_ | refine run_seq ?_ | refine run_region ?_ | refine run_ops_nil ?_ | refine run_block ?_ | refine run_skip ?_ | refine run_inBlock ?_ | refine run_exit rfl ?_))
  refine run_cond _ (fun _ => by rfl) (fun hc => ?_) (fun hc => ?_)
  · cases hc
  (repeat (first | first | refine run_zfa rfl (fun _ => by rfl) (fun _ => by rfl) ?_ | refine run_faz rfl (fun _ => by rfl) (fun _ => by rfl) ?_ | refine run_fa rfl (fun _ => by rfl) (fun _ => by rfl) ?_ | refine run_p (fun _ => rfl) rfl ?_ | refine run_n rfl (fun _ => rfl) ?_ | refine run_y (fun _ => rfl) rfl (fun _ => rfl) ?_ | refine run_seq ?_ | refine run_region ?_ | refine run_ops_nil ?_ | refine run_block ?_ | refine run_skip ?_ | refine run_inBlock ?_ | refine run_exit rfl ?_))
  refine run_call rfl (fun _ => by rfl) (fun _ => by kernel_rfl) (free_ok hT pid.toNat (by omega)) ?_
  rintro v H' M' ⟨rfl, rfl, rfl⟩
  rw [hq]
  (repeat (first | first | refine run_zfa rfl (fun _ => by rfl) (fun _ => by rfl) ?_ | refine run_faz rfl (fun _ => by rfl) (fun _ => by rfl) ?_ | refine run_fa rfl (fun _ => by rfl) (fun _ => by rfl) ?_ | refine run_p (fun _ => rfl) rfl ?_ | refine run_n rfl (fun _ => rfl) ?_ | refine run_y (fun _ => rfl) rfl (fun _ => rfl) ?_ | refine run_seq ?_ | refine run_region ?_ | refine run_ops_nil ?_ | refine run_block ?_ | refine run_skip ?_ | refine run_inBlock ?_ | refine run_exit rfl ?_))
  refine run_if (fun _ => by rfl) (fun hc2 => ?_) (fun hc2 => ?_)
  · (repeat (first | first | refine run_zfa rfl (fun _ => by rfl) (fun _ => by rfl) ?_ | refine run_faz rfl (fun _ => by rfl) (fun _ => by rfl) ?_ | refine run_fa rfl (fun _ => by rfl) (fun _ => by rfl) ?_ | refine run_p (fun _ => rfl) rfl ?_ | refine run_n rfl (fun _ => rfl) ?_ | refine run_y (fun _ => rfl) rfl (fun _ => rfl) ?_ | refine run_seq ?_ | refine run_region ?_ | refine run_ops_nil ?_ | refine run_block ?_ | refine run_skip ?_ | refine run_inBlock ?_ | refine run_exit rfl ?_))
    exact run_retc Try.func16 (fun _ => by kernel_rfl) (⟨rfl, rfl, rfl⟩)
  · omega
set_option maxHeartbeats 1000000 in
theorem dup_yes {H M : Heap} {b : Nat} {T : Tb} (hT : M b = some T.obj) (pid fd : Int) (hb : T.Bd) (he : T.err pid fd = 0) (q : Nat) (hq : freeAt (T.fd pid.toNat) 8 0 = q) (hq8 : q < 8) :
    ACalls Try.prog 16 #[.pointer (some ⟨b,0,none⟩), .int .i64 pid, .int .i64 fd] H M
      (fun v H' M' => v = .tuple #[.int .i64 q, .int .i64 0] ∧ H' = H ∧ M' b = some (T.dupT pid.toNat q (T.no pid fd)).obj ∧ Ch [b] M M') := by
  obtain ⟨hr, hf, hn, h16⟩ := err0 he hb
  have hp := runs_bd hr
  have hus := hb.us (T.no pid fd)
  have e1 : IntKind.i64.wrap (T.us (T.no pid fd) + 1) = T.us (T.no pid fd) + 1 := wrap_id (by omega) (by omega)
  refine enter (args := [_, _, _]) Try.func16 rfl rfl (by show (3 : Nat) ≤ 46; decide) ?_
  (repeat (first | first | refine run_zfa rfl (fun _ => by rfl) (fun _ => by rfl) ?_ | refine run_faz rfl (fun _ => by rfl) (fun _ => by rfl) ?_ | refine run_fa rfl (fun _ => by rfl) (fun _ => by rfl) ?_ | refine run_p (fun _ => rfl) rfl ?_ | refine run_n rfl (fun _ => rfl) ?_ | refine run_y (fun _ => rfl) rfl (fun _ => rfl) ?_ | refine run_seq ?_ | refine run_region ?_ | refine run_ops_nil ?_ | refine run_block ?_ | refine run_skip ?_ | refine run_inBlock ?_ | refine run_exit rfl ?_))
  refine run_call rfl (fun _ => by rfl) (fun _ => by kernel_rfl) (open_yes hT pid fd _ he hn h16) ?_
  rintro v H' M' ⟨rfl, rfl, rfl⟩
  (repeat (first | first | refine run_zfa rfl (fun _ => by rfl) (fun _ => by rfl) ?_ | refine run_faz rfl (fun _ => by rfl) (fun _ => by rfl) ?_ | refine run_fa rfl (fun _ => by rfl) (fun _ => by rfl) ?_ | refine run_p (fun _ => rfl) rfl ?_ | refine run_n rfl (fun _ => rfl) ?_ | refine run_y (fun _ => rfl) rfl (fun _ => rfl) ?_ | refine run_seq ?_ | refine run_region ?_ | refine run_ops_nil ?_ | refine run_block ?_ | refine run_skip ?_ | refine run_inBlock ?_ | refine run_exit rfl ?_))
  refine run_cond _ (fun _ => by rfl) (fun hc => ?_) (fun hc => ?_)
  · cases hc
  (repeat (first | first | refine run_zfa rfl (fun _ => by rfl) (fun _ => by rfl) ?_ | refine run_faz rfl (fun _ => by rfl) (fun _ => by rfl) ?_ | refine run_fa rfl (fun _ => by rfl) (fun _ => by rfl) ?_ | refine run_p (fun _ => rfl) rfl ?_ | refine run_n rfl (fun _ => rfl) ?_ | refine run_y (fun _ => rfl) rfl (fun _ => rfl) ?_ | refine run_seq ?_ | refine run_region ?_ | refine run_ops_nil ?_ | refine run_block ?_ | refine run_skip ?_ | refine run_inBlock ?_ | refine run_exit rfl ?_))
  refine run_call rfl (fun _ => by rfl) (fun _ => by kernel_rfl) (free_ok hT pid.toNat (by omega)) ?_
  rintro v H' M' ⟨rfl, rfl, rfl⟩
  rw [hq]
  (repeat (first | first | refine run_zfa rfl (fun _ => by rfl) (fun _ => by rfl) ?_ | refine run_faz rfl (fun _ => by rfl) (fun _ => by rfl) ?_ | refine run_fa rfl (fun _ => by rfl) (fun _ => by rfl) ?_ | refine run_p (fun _ => rfl) rfl ?_ | refine run_n rfl (fun _ => rfl) ?_ | refine run_y (fun _ => rfl) rfl (fun _ => rfl) ?_ | refine run_seq ?_ | refine run_region ?_ | refine run_ops_nil ?_ | refine run_block ?_ | refine run_skip ?_ | refine run_inBlock ?_ | refine run_exit rfl ?_))
  refine run_if (fun _ => by rfl) (fun hc2 => ?_) (fun hc2 => ?_)
  · omega
  (repeat (first | first | refine run_zfa rfl (fun _ => by rfl) (fun _ => by rfl) ?_ | refine run_faz rfl (fun _ => by rfl) (fun _ => by rfl) ?_ | refine run_fa rfl (fun _ => by rfl) (fun _ => by rfl) ?_ | refine run_p (fun _ => rfl) rfl ?_ | refine run_n rfl (fun _ => rfl) ?_ | refine run_y (fun _ => rfl) rfl (fun _ => rfl) ?_ | refine run_seq ?_ | refine run_region ?_ | refine run_ops_nil ?_ | refine run_block ?_ | refine run_skip ?_ | refine run_inBlock ?_ | refine run_exit rfl ?_))
  refine run_tail 11 (by kernel_rfl) (by kernel_rfl) (l2 := ?l2) ?hq ?h
  case hq =>
    (repeat (first | first | refine ql_zfa rfl (fun _ => by rfl) (fun _ => by rfl) ?_ | refine ql_faz rfl (fun _ => by rfl) (fun _ => by rfl) ?_ | refine ql_fa rfl (fun _ => by rfl) (fun _ => by rfl) ?_ | refine ql_p (fun _ => rfl) rfl ?_ | refine ql_n rfl (fun _ => rfl) ?_ | refine ql_y (fun _ => rfl) rfl (fun _ => rfl) ?_))
    first | refine ql_zix rfl (fun _ => by rfl) (fun _ => by rfl) (fun _ => by rfl) (by omega) (by omega) ?_ | refine ql_ix rfl (fun _ => by rfl) (fun _ => by rfl) (fun _ => by rfl) (by omega) (by omega) ?_
    refine ql_ld _ _ _ rfl (fun _ => by rfl) (fun _ => by rfl) (.inl (hT)) (by exact T.get_fd pid.toNat fd.toNat (by omega) (by omega) (by omega)) ?_
    rw [hn]
    (repeat (first | first | refine ql_zfa rfl (fun _ => by rfl) (fun _ => by rfl) ?_ | refine ql_faz rfl (fun _ => by rfl) (fun _ => by rfl) ?_ | refine ql_fa rfl (fun _ => by rfl) (fun _ => by rfl) ?_ | refine ql_p (fun _ => rfl) rfl ?_ | refine ql_n rfl (fun _ => rfl) ?_ | refine ql_y (fun _ => rfl) rfl (fun _ => rfl) ?_))
    first | refine ql_zix rfl (fun _ => by rfl) (fun _ => by rfl) (fun _ => by rfl) (by omega) (by omega) ?_ | refine ql_ix rfl (fun _ => by rfl) (fun _ => by rfl) (fun _ => by rfl) (by omega) (by omega) ?_
    exact .nil
  case h =>
  simp only [Int.toNat_natCast]
  refine tl_stA _ _ _ _ (tab 227 (T.setFd pid.toNat q ((T.no pid fd : Int) + 1)).cell) (fun _ => by rfl) (fun _ => by rfl) (fun _ => by rfl) hT (by rfl) (by rw [tab_size]; omega) (by rfl) (by exact T.put_fd pid.toNat q (by omega) (by omega) hq8) (fun M2 hT k2 => ?_)
  refine tl_nil ?_
  (repeat (first | first | refine run_zfa rfl (fun _ => by rfl) (fun _ => by rfl) ?_ | refine run_faz rfl (fun _ => by rfl) (fun _ => by rfl) ?_ | refine run_fa rfl (fun _ => by rfl) (fun _ => by rfl) ?_ | refine run_p (fun _ => rfl) rfl ?_ | refine run_n rfl (fun _ => rfl) ?_ | refine run_y (fun _ => rfl) rfl (fun _ => rfl) ?_ | refine run_seq ?_ | refine run_region ?_ | refine run_ops_nil ?_ | refine run_block ?_ | refine run_skip ?_ | refine run_inBlock ?_ | refine run_exit rfl ?_))
  refine run_ld _ _ _ rfl (fun _ => by rfl) (fun _ => by rfl) (.inl (hT)) (by exact (T.setFd pid.toNat q ((T.no pid fd : Int) + 1)).get_us (T.no pid fd) (by omega) h16) ?_
  (repeat (first | first | refine run_zfa rfl (fun _ => by rfl) (fun _ => by rfl) ?_ | refine run_faz rfl (fun _ => by rfl) (fun _ => by rfl) ?_ | refine run_fa rfl (fun _ => by rfl) (fun _ => by rfl) ?_ | refine run_p (fun _ => rfl) rfl ?_ | refine run_n rfl (fun _ => rfl) ?_ | refine run_y (fun _ => rfl) rfl (fun _ => rfl) ?_ | refine run_seq ?_ | refine run_region ?_ | refine run_ops_nil ?_ | refine run_block ?_ | refine run_skip ?_ | refine run_inBlock ?_ | refine run_exit rfl ?_))
  rw [show (T.setFd pid.toNat q ((T.no pid fd : Int) + 1)).us (T.no pid fd) = T.us (T.no pid fd) from rfl, e1]
  refine run_stA _ _ _ _ (tab 227 (T.dupT pid.toNat q (T.no pid fd)).cell) (fun _ => by rfl) (fun _ => by rfl) (fun _ => by rfl) hT (by rfl) (by first | (rw [tab_size]; omega) | (simp; done) | decide | exact Nat.le_of_ble_eq_true rfl) (by rfl) (by exact (T.setFd pid.toNat q ((T.no pid fd : Int) + 1)).put_us (T.no pid fd) (by omega)) (fun M3 hT k3 => ?_)
  (repeat (first | first | refine run_zfa rfl (fun _ => by rfl) (fun _ => by rfl) ?_ | refine run_faz rfl (fun _ => by rfl) (fun _ => by rfl) ?_ | refine run_fa rfl (fun _ => by rfl) (fun _ => by rfl) ?_ | refine run_p (fun _ => rfl) rfl ?_ | refine run_n rfl (fun _ => rfl) ?_ | refine run_y (fun _ => rfl) rfl (fun _ => rfl) ?_ | refine run_seq ?_ | refine run_region ?_ | refine run_ops_nil ?_ | refine run_block ?_ | refine run_skip ?_ | refine run_inBlock ?_ | refine run_exit rfl ?_))
  exact run_retc Try.func16 (fun _ => by kernel_rfl) (⟨rfl, rfl, hT, ((Ch.refl _ _).put' k2 in1).put' k3 in1⟩)
end Go.Proofs.Ytimaipclgmcekaa
