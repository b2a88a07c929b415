/- ProcShared, walked. -/
import Derived.Test.YtimaipclgmcekaaProcJ
namespace Go.Proofs.Ytimaipclgmcekaa
open Go.Cam
set_option maxRecDepth 100000
theorem _root_.Go.Cam.Ch.mono' {M0 M M1 : Heap} {bs : List Nat} (a : Ch [] M0 M) (h : Ch bs M M1) (hb : ∀ c, c ∈ bs → ∀ o, M0 c ≠ some o) : Ch [] M0 M1 := fun c o hc ho => h c o (fun e => hb c e o ho) (a c o hc ho)
set_option maxHeartbeats 8000000 in
theorem shared_ok {H M : Heap} (dups forks at' : Int) (d0 : -9223372036854775808 ≤ dups) (d1 : dups < 9223372036854775808) (f0 : -9223372036854775808 ≤ forks) (f1 : forks < 9223372036854775808)
    (a0 : -9223372036854775808 ≤ at') (a1 : at' < 9223372036854775808) :
    ACalls Try.prog 5 #[.int .i64 dups, .int .i64 forks, .int .i64 at'] H M (fun v H' M' => v = .bool true ∧ H' = H ∧ Ch [] M M') := by
  have kd := kindI_bd (n := dups) (m := 7) (by decide)
  have kf := kindI_bd (n := forks) (m := 7) (by decide)
  refine enter (args := [_, _, _]) Try.func5 rfl rfl (by show (3 : Nat) ≤ 172; decide) ?_
  (repeat (first | first | refine run_zfa rfl (fun _ => by rfl) (fun _ => by rfl) ?_ | refine run_faz rfl (fun _ => by rfl) (fun _ => by rfl) ?_ | refine run_fa rfl (fun _ => by rfl) (fun _ => by rfl) ?_ | refine run_p (fun _ => rfl) rfl ?_ | refine run_n rfl (fun _ => rfl) ?_ | refine run_y (fun _ => rfl) rfl (fun _ => rfl) ?_ | refine run_seq ?_ | refine run_region ?_ | refine run_ops_nil ?_ | refine run_block ?_ | refine run_skip ?_ | refine run_inBlock ?_ | refine run_exit rfl ?_))
  refine run_call rfl (fun _ => by rfl) (fun _ => by kernel_rfl) (shown_ok) ?_
  rintro v H1 M1 ⟨rfl, rfl, c0⟩
  (repeat (first | first | refine run_zfa rfl (fun _ => by rfl) (fun _ => by rfl) ?_ | refine run_faz rfl (fun _ => by rfl) (fun _ => by rfl) ?_ | refine run_fa rfl (fun _ => by rfl) (fun _ => by rfl) ?_ | refine run_p (fun _ => rfl) rfl ?_ | refine run_n rfl (fun _ => rfl) ?_ | refine run_y (fun _ => rfl) rfl (fun _ => rfl) ?_ | refine run_seq ?_ | refine run_region ?_ | refine run_ops_nil ?_ | refine run_block ?_ | refine run_skip ?_ | refine run_inBlock ?_ | refine run_exit rfl ?_))
  refine run_call rfl (fun _ => by rfl) (fun _ => by kernel_rfl) (new_ok) ?_
  rintro v H2 M2 ⟨b, rfl, rfl, hT, k1⟩
  have nb := New.none c0 k1 (by simp)
  have c2 := c0.new' k1
  clear k1 c0
  (repeat (first | first | refine run_zfa rfl (fun _ => by rfl) (fun _ => by rfl) ?_ | refine run_faz rfl (fun _ => by rfl) (fun _ => by rfl) ?_ | refine run_fa rfl (fun _ => by rfl) (fun _ => by rfl) ?_ | refine run_p (fun _ => rfl) rfl ?_ | refine run_n rfl (fun _ => rfl) ?_ | refine run_y (fun _ => rfl) rfl (fun _ => rfl) ?_ | refine run_seq ?_ | refine run_region ?_ | refine run_ops_nil ?_ | refine run_block ?_ | refine run_skip ?_ | refine run_inBlock ?_ | refine run_exit rfl ?_))
  refine run_cond _ (fun _ => by rfl) (fun hc => ?_) (fun hc => ?_)
  · cases hc
  (repeat (first | first | refine run_zfa rfl (fun _ => by rfl) (fun _ => by rfl) ?_ | refine run_faz rfl (fun _ => by rfl) (fun _ => by rfl) ?_ | refine run_fa rfl (fun _ => by rfl) (fun _ => by rfl) ?_ | refine run_p (fun _ => rfl) rfl ?_ | refine run_n rfl (fun _ => rfl) ?_ | refine run_y (fun _ => rfl) rfl (fun _ => rfl) ?_ | refine run_seq ?_ | refine run_region ?_ | refine run_ops_nil ?_ | refine run_block ?_ | refine run_skip ?_ | refine run_inBlock ?_ | refine run_exit rfl ?_))
  refine run_bd (X5.vals) rfl (fun _ => by rfl) (fun _ => by kernel_rfl) ?_
  (repeat (first | first | refine run_zfa rfl (fun _ => by rfl) (fun _ => by rfl) ?_ | refine run_faz rfl (fun _ => by rfl) (fun _ => by rfl) ?_ | refine run_fa rfl (fun _ => by rfl) (fun _ => by rfl) ?_ | refine run_p (fun _ => rfl) rfl ?_ | refine run_n rfl (fun _ => rfl) ?_ | refine run_y (fun _ => rfl) rfl (fun _ => rfl) ?_ | refine run_seq ?_ | refine run_region ?_ | refine run_ops_nil ?_ | refine run_block ?_ | refine run_skip ?_ | refine run_inBlock ?_ | refine run_exit rfl ?_))
  refine run_call rfl (fun _ => by rfl) (fun _ => by kernel_rfl) (opn_yes hT 1 X5 (by rfl) 0 (by rfl) (by omega)) ?_
  rintro v H3 M3 ⟨rfl, c3, hr⟩
  obtain ⟨rfl, hT⟩ : v = .tuple #[.int .i64 0, .int .i64 0] ∧ M3 b = some (S0.openT 1 X5 0 0).obj := hr
  (repeat (first | first | refine run_zfa rfl (fun _ => by rfl) (fun _ => by rfl) ?_ | refine run_faz rfl (fun _ => by rfl) (fun _ => by rfl) ?_ | refine run_fa rfl (fun _ => by rfl) (fun _ => by rfl) ?_ | refine run_p (fun _ => rfl) rfl ?_ | refine run_n rfl (fun _ => rfl) ?_ | refine run_y (fun _ => rfl) rfl (fun _ => rfl) ?_ | refine run_seq ?_ | refine run_region ?_ | refine run_ops_nil ?_ | refine run_block ?_ | refine run_skip ?_ | refine run_inBlock ?_ | refine run_exit rfl ?_))
  refine run_bd (X6.vals) rfl (fun _ => by rfl) (fun _ => by kernel_rfl) ?_
  (repeat (first | first | refine run_zfa rfl (fun _ => by rfl) (fun _ => by rfl) ?_ | refine run_faz rfl (fun _ => by rfl) (fun _ => by rfl) ?_ | refine run_fa rfl (fun _ => by rfl) (fun _ => by rfl) ?_ | refine run_p (fun _ => rfl) rfl ?_ | refine run_n rfl (fun _ => rfl) ?_ | refine run_y (fun _ => rfl) rfl (fun _ => rfl) ?_ | refine run_seq ?_ | refine run_region ?_ | refine run_ops_nil ?_ | refine run_block ?_ | refine run_skip ?_ | refine run_inBlock ?_ | refine run_exit rfl ?_))
  refine run_call rfl (fun _ => by rfl) (fun _ => by kernel_rfl) (opn_yes hT 1 X6 (by rfl) 1 (by rfl) (by omega)) ?_
  rintro v H3 M4 ⟨rfl, c4, hr⟩
  obtain ⟨rfl, hT⟩ : v = .tuple #[.int .i64 1, .int .i64 0] ∧ M4 b = some U0.obj := hr
  have hch : Ch [b] M2 M4 := c3.trans c4
  clear c3 c4
  (repeat (first | first | refine run_zfa rfl (fun _ => by rfl) (fun _ => by rfl) ?_ | refine run_faz rfl (fun _ => by rfl) (fun _ => by rfl) ?_ | refine run_fa rfl (fun _ => by rfl) (fun _ => by rfl) ?_ | refine run_p (fun _ => rfl) rfl ?_ | refine run_n rfl (fun _ => rfl) ?_ | refine run_y (fun _ => rfl) rfl (fun _ => rfl) ?_ | refine run_seq ?_ | refine run_region ?_ | refine run_ops_nil ?_ | refine run_block ?_ | refine run_skip ?_ | refine run_inBlock ?_ | refine run_exit rfl ?_))
  refine run_cond _ (fun _ => by rfl) (fun hc => ?_) (fun hc => ?_)
  · cases hc
  (repeat (first | first | refine run_zfa rfl (fun _ => by rfl) (fun _ => by rfl) ?_ | refine run_faz rfl (fun _ => by rfl) (fun _ => by rfl) ?_ | refine run_fa rfl (fun _ => by rfl) (fun _ => by rfl) ?_ | refine run_p (fun _ => rfl) rfl ?_ | refine run_n rfl (fun _ => rfl) ?_ | refine run_y (fun _ => rfl) rfl (fun _ => rfl) ?_ | refine run_seq ?_ | refine run_region ?_ | refine run_ops_nil ?_ | refine run_block ?_ | refine run_skip ?_ | refine run_inBlock ?_ | refine run_exit rfl ?_))
  refine run_bs (#[Value.int .i64 0]) rfl (fun _ => by rfl) (by decide) (by decide) (fun _ => by kernel_rfl) (fun r3 M5 hY k5 => ?_)
  have hF : Mn M2 [b] 3 1 M5 (.slice (some ⟨r3, 0, none⟩) 1 1) (rowF 0) := Mn.made hY k5 hch (fun c hc => by rw [List.mem_singleton.1 hc]; exact ⟨_, hT⟩) (by rfl)
  replace hch := hch.new' k5
  replace hT := (k5 _ _ hT).1
  clear k5 hY
  (repeat (first | first | refine run_zfa rfl (fun _ => by rfl) (fun _ => by rfl) ?_ | refine run_faz rfl (fun _ => by rfl) (fun _ => by rfl) ?_ | refine run_fa rfl (fun _ => by rfl) (fun _ => by rfl) ?_ | refine run_p (fun _ => rfl) rfl ?_ | refine run_n rfl (fun _ => rfl) ?_ | refine run_y (fun _ => rfl) rfl (fun _ => rfl) ?_ | refine run_seq ?_ | refine run_region ?_ | refine run_ops_nil ?_ | refine run_block ?_ | refine run_skip ?_ | refine run_inBlock ?_ | refine run_exit rfl ?_))
  refine run_loopI (fun y : Nat × Value => [(1, .int .i64 forks), (2, .int .i64 at'), (0, .int .i64 dups), (8, .pointer (some ⟨b, 0, none⟩)), (9, .int .i64 0), (11, .int .i64 1), (13, y.2), (14, .int .i64 y.1)])
    (fun y H1 M1 => (y.1 : Int) ≤ kindI dups 7 ∧ H1 = H3 ∧ (∃ T : Tb, M1 b = some T.obj ∧ Sh T y.1 0) ∧ Mn M2 [b] 3 1 M1 y.2 (rowF y.1) ∧ Ch [b] M2 M1) (fun y => 10 - y.1) (0, .slice (some ⟨r3, 0, none⟩) 1 1) (by intro j; repeat (first | exact trivial | refine ⟨rfl, ?_⟩))
    ⟨by dsimp only; omega, rfl, ⟨U0, hT, shU⟩, hF, hch⟩ ?_
  clear hT hF hch
  rintro ⟨i, fv⟩ H5 M5 ⟨hi, rfl, ⟨T, hT, hS⟩, hF, hch⟩ next
  dsimp only at hi hS hF
  (repeat (first | first | refine run_zfa rfl (fun _ => by rfl) (fun _ => by rfl) ?_ | refine run_faz rfl (fun _ => by rfl) (fun _ => by rfl) ?_ | refine run_fa rfl (fun _ => by rfl) (fun _ => by rfl) ?_ | refine run_p (fun _ => rfl) rfl ?_ | refine run_n rfl (fun _ => rfl) ?_ | refine run_y (fun _ => rfl) rfl (fun _ => rfl) ?_ | refine run_seq ?_ | refine run_region ?_ | refine run_ops_nil ?_ | refine run_block ?_ | refine run_skip ?_ | refine run_inBlock ?_ | refine run_exit rfl ?_))
  refine run_call rfl (fun _ => by rfl) (fun _ => by kernel_rfl) (kind_ok dups 7 d0 d1 (by decide)) ?_
  rintro v H6 M6 ⟨rfl, rfl, rfl⟩
  (repeat (first | first | refine run_zfa rfl (fun _ => by rfl) (fun _ => by rfl) ?_ | refine run_faz rfl (fun _ => by rfl) (fun _ => by rfl) ?_ | refine run_fa rfl (fun _ => by rfl) (fun _ => by rfl) ?_ | refine run_p (fun _ => rfl) rfl ?_ | refine run_n rfl (fun _ => rfl) ?_ | refine run_y (fun _ => rfl) rfl (fun _ => rfl) ?_ | refine run_seq ?_ | refine run_region ?_ | refine run_ops_nil ?_ | refine run_block ?_ | refine run_skip ?_ | refine run_inBlock ?_ | refine run_exit rfl ?_))
  refine run_if (fun _ => by rfl) (fun hc => ?_) (fun hc => ?_)
  · (repeat (first | first | refine run_zfa rfl (fun _ => by rfl) (fun _ => by rfl) ?_ | refine run_faz rfl (fun _ => by rfl) (fun _ => by rfl) ?_ | refine run_fa rfl (fun _ => by rfl) (fun _ => by rfl) ?_ | refine run_p (fun _ => rfl) rfl ?_ | refine run_n rfl (fun _ => rfl) ?_ | refine run_y (fun _ => rfl) rfl (fun _ => rfl) ?_ | refine run_seq ?_ | refine run_region ?_ | refine run_ops_nil ?_ | refine run_block ?_ | refine run_skip ?_ | refine run_inBlock ?_ | refine run_exit rfl ?_))
    refine run_call rfl (fun _ => by rfl) (fun _ => by kernel_rfl) (dup_yes hT 1 0 hS.inv.bd (hS.err (p := 1) (f := 0) (by omega) (by omega) (by omega) (by omega)) (i + 2) (hS.free (by omega)) (by omega)) ?_
    rw [show T.no 1 0 = 0 from hS.no (p := 1) (f := 0) (by omega) (.inl rfl)]
    rintro v H7 M7 ⟨rfl, rfl, hT7, c7⟩
    replace hF := hF.ch c7 (fun _ h => h)
    replace hch := hch.trans c7
    clear c7 hT
    (repeat (first | first | refine run_zfa rfl (fun _ => by rfl) (fun _ => by rfl) ?_ | refine run_faz rfl (fun _ => by rfl) (fun _ => by rfl) ?_ | refine run_fa rfl (fun _ => by rfl) (fun _ => by rfl) ?_ | refine run_p (fun _ => rfl) rfl ?_ | refine run_n rfl (fun _ => rfl) ?_ | refine run_y (fun _ => rfl) rfl (fun _ => rfl) ?_ | refine run_seq ?_ | refine run_region ?_ | refine run_ops_nil ?_ | refine run_block ?_ | refine run_skip ?_ | refine run_inBlock ?_ | refine run_exit rfl ?_))
    refine run_cond _ (fun _ => by rfl) (fun hc2 => ?_) (fun hc2 => ?_)
    · cases hc2
    (repeat (first | first | refine run_zfa rfl (fun _ => by rfl) (fun _ => by rfl) ?_ | refine run_faz rfl (fun _ => by rfl) (fun _ => by rfl) ?_ | refine run_fa rfl (fun _ => by rfl) (fun _ => by rfl) ?_ | refine run_p (fun _ => rfl) rfl ?_ | refine run_n rfl (fun _ => rfl) ?_ | refine run_y (fun _ => rfl) rfl (fun _ => rfl) ?_ | refine run_seq ?_ | refine run_region ?_ | refine run_ops_nil ?_ | refine run_block ?_ | refine run_skip ?_ | refine run_inBlock ?_ | refine run_exit rfl ?_))
    refine run_bs (#[Value.int .i64 ((i + 2 : Nat) : Int)]) rfl (fun _ => by rfl) (by decide) (by decide) (fun _ => by kernel_rfl) (fun r8 M8 hY k8 => ?_)
    replace hT7 := (k8 _ _ hT7).1
    replace hF := hF.new k8
    replace hch := hch.new' k8
    clear k8
    refine run_app ([Value.int .i64 ((i + 2 : Nat) : Int)]) rfl (fun _ => by rfl) (fun _ => by rfl) (fun _ => by rfl) hF.own (.inl (hY)) (by exact rfl) (by first | decide | exact Nat.le_refl _ | simp) (by rfl) (by rfl) (by rw [rowF_len]; omega) (fun u' M9 ho ha => ?_)
    obtain ⟨hF', hch', hb'⟩ := hF.app hch (fun c hc => by rw [List.mem_singleton.1 hc]; exact ⟨_, hT7⟩) ho ha
    replace hT7 := hb' b in1 _ hT7
    (repeat (first | first | refine run_zfa rfl (fun _ => by rfl) (fun _ => by rfl) ?_ | refine run_faz rfl (fun _ => by rfl) (fun _ => by rfl) ?_ | refine run_fa rfl (fun _ => by rfl) (fun _ => by rfl) ?_ | refine run_p (fun _ => rfl) rfl ?_ | refine run_n rfl (fun _ => rfl) ?_ | refine run_y (fun _ => rfl) rfl (fun _ => rfl) ?_ | refine run_seq ?_ | refine run_region ?_ | refine run_ops_nil ?_ | refine run_block ?_ | refine run_skip ?_ | refine run_inBlock ?_ | refine run_exit rfl ?_))
    rw [wrap_nat (by omega)]
    exact run_keep _ (by intro j; repeat (first | exact trivial | refine ⟨rfl, ?_⟩)) (next (i + 1, u') _ _ ⟨by dsimp only; omega, rfl, ⟨_, hT7, hS.dup (by omega)⟩, by dsimp only; rw [rowF_snoc]; exact hF', hch'⟩ (by dsimp only; omega))
  clear next
  have hi6 : i ≤ 6 := by omega
  obtain ⟨bf, capf, cf, rfl, hcf, hcapf, hfb, htf, hbf, hbf0⟩ := hF.at (i + 1) (rowF_len i) (by omega) (by omega)
  have nbf : bf ≠ b := fun e => hbf (by rw [e]; exact in1)
  clear hF
  (repeat (first | first | refine run_zfa rfl (fun _ => by rfl) (fun _ => by rfl) ?_ | refine run_faz rfl (fun _ => by rfl) (fun _ => by rfl) ?_ | refine run_fa rfl (fun _ => by rfl) (fun _ => by rfl) ?_ | refine run_p (fun _ => rfl) rfl ?_ | refine run_n rfl (fun _ => rfl) ?_ | refine run_y (fun _ => rfl) rfl (fun _ => rfl) ?_ | refine run_seq ?_ | refine run_region ?_ | refine run_ops_nil ?_ | refine run_block ?_ | refine run_skip ?_ | refine run_inBlock ?_ | refine run_exit rfl ?_))
  refine run_bs (#[Value.int .i64 1]) rfl (fun _ => by rfl) (by decide) (by decide) (fun _ => by kernel_rfl) (fun r3 M5 hY k5 => ?_)
  have hch2 : Ch [b, bf] M2 M6 := hch.mono fun c hc => by rw [List.mem_singleton.1 hc]; simp
  have hP : Mn M2 [b, bf] 3 1 M5 (.slice (some ⟨r3, 0, none⟩) 1 1) (rowP 0) := Mn.made hY k5 hch2 (fun c hc => by
    rcases List.mem_cons.1 hc with rfl | hc
    · exact ⟨_, hT⟩
    · rw [List.mem_singleton.1 hc]; exact ⟨_, hfb⟩) (by rfl)
  replace hch := hch2.new' k5
  replace hT := (k5 _ _ hT).1; replace hfb := (k5 _ _ hfb).1
  clear k5 hY hch2
  (repeat (first | first | refine run_zfa rfl (fun _ => by rfl) (fun _ => by rfl) ?_ | refine run_faz rfl (fun _ => by rfl) (fun _ => by rfl) ?_ | refine run_fa rfl (fun _ => by rfl) (fun _ => by rfl) ?_ | refine run_p (fun _ => rfl) rfl ?_ | refine run_n rfl (fun _ => rfl) ?_ | refine run_y (fun _ => rfl) rfl (fun _ => rfl) ?_ | refine run_seq ?_ | refine run_region ?_ | refine run_ops_nil ?_ | refine run_block ?_ | refine run_skip ?_ | refine run_inBlock ?_ | refine run_exit rfl ?_))
  refine run_loopI (fun y : Nat × Value => [(1, .int .i64 forks), (2, .int .i64 at'), (8, .pointer (some ⟨b, 0, none⟩)), (11, .int .i64 1), (13, .slice (some ⟨bf, 0, none⟩) (i + 1) capf), (17, y.2), (18, .int .i64 y.1)])
    (fun y H1 M1 => (y.1 : Int) ≤ kindI forks 7 ∧ H1 = H6 ∧ (∃ T : Tb, M1 b = some T.obj ∧ Sh T i y.1) ∧ M1 bf = some (.cells cf 3 (0, 0)) ∧ Mn M2 [b, bf] 3 1 M1 y.2 (rowP y.1) ∧ Ch [b, bf] M2 M1) (fun y => 10 - y.1) (0, .slice (some ⟨r3, 0, none⟩) 1 1) (by intro j; repeat (first | exact trivial | refine ⟨rfl, ?_⟩))
    ⟨by dsimp only; omega, rfl, ⟨T, hT, hS⟩, hfb, hP, hch⟩ ?_
  clear hT hS hP hch hfb
  rintro ⟨j, pv⟩ H5 M5 ⟨hj, rfl, ⟨T, hT, hS⟩, hfb, hP, hch⟩ next
  dsimp only at hj hS hP
  (repeat (first | first | refine run_zfa rfl (fun _ => by rfl) (fun _ => by rfl) ?_ | refine run_faz rfl (fun _ => by rfl) (fun _ => by rfl) ?_ | refine run_fa rfl (fun _ => by rfl) (fun _ => by rfl) ?_ | refine run_p (fun _ => rfl) rfl ?_ | refine run_n rfl (fun _ => rfl) ?_ | refine run_y (fun _ => rfl) rfl (fun _ => rfl) ?_ | refine run_seq ?_ | refine run_region ?_ | refine run_ops_nil ?_ | refine run_block ?_ | refine run_skip ?_ | refine run_inBlock ?_ | refine run_exit rfl ?_))
  refine run_call rfl (fun _ => by rfl) (fun _ => by kernel_rfl) (kind_ok forks 7 f0 f1 (by decide)) ?_
  rintro v H6 M6 ⟨rfl, rfl, rfl⟩
  (repeat (first | first | refine run_zfa rfl (fun _ => by rfl) (fun _ => by rfl) ?_ | refine run_faz rfl (fun _ => by rfl) (fun _ => by rfl) ?_ | refine run_fa rfl (fun _ => by rfl) (fun _ => by rfl) ?_ | refine run_p (fun _ => rfl) rfl ?_ | refine run_n rfl (fun _ => rfl) ?_ | refine run_y (fun _ => rfl) rfl (fun _ => rfl) ?_ | refine run_seq ?_ | refine run_region ?_ | refine run_ops_nil ?_ | refine run_block ?_ | refine run_skip ?_ | refine run_inBlock ?_ | refine run_exit rfl ?_))
  refine run_if (fun _ => by rfl) (fun hc2 => ?_) (fun hc2 => ?_)
  · (repeat (first | first | refine run_zfa rfl (fun _ => by rfl) (fun _ => by rfl) ?_ | refine run_faz rfl (fun _ => by rfl) (fun _ => by rfl) ?_ | refine run_fa rfl (fun _ => by rfl) (fun _ => by rfl) ?_ | refine run_p (fun _ => rfl) rfl ?_ | refine run_n rfl (fun _ => rfl) ?_ | refine run_y (fun _ => rfl) rfl (fun _ => rfl) ?_ | refine run_seq ?_ | refine run_region ?_ | refine run_ops_nil ?_ | refine run_block ?_ | refine run_skip ?_ | refine run_inBlock ?_ | refine run_exit rfl ?_))
    refine run_call rfl (fun _ => by rfl) (fun _ => by kernel_rfl) (fork_ok hT 1 (Tb.runs_eq (p := 1) (by omega) (by omega) (by rw [hS.st, shSt, if_pos (by omega)])) hS.inv.bd) ?_
    rw [hS.slot (by omega)]
    rintro v H7 M7 ⟨rfl, c7, rfl, hT7⟩
    replace hP := hP.ch c7 (fun _ h => by rw [List.mem_singleton.1 h]; simp)
    replace hfb := c7 _ _ (fun h => nbf (List.mem_singleton.1 h)) hfb
    replace hch := hch.trans (c7.mono fun c hc => by rw [List.mem_singleton.1 hc]; simp)
    clear c7 hT
    (repeat (first | first | refine run_zfa rfl (fun _ => by rfl) (fun _ => by rfl) ?_ | refine run_faz rfl (fun _ => by rfl) (fun _ => by rfl) ?_ | refine run_fa rfl (fun _ => by rfl) (fun _ => by rfl) ?_ | refine run_p (fun _ => rfl) rfl ?_ | refine run_n rfl (fun _ => rfl) ?_ | refine run_y (fun _ => rfl) rfl (fun _ => rfl) ?_ | refine run_seq ?_ | refine run_region ?_ | refine run_ops_nil ?_ | refine run_block ?_ | refine run_skip ?_ | refine run_inBlock ?_ | refine run_exit rfl ?_))
    refine run_cond _ (fun _ => by rfl) (fun hc2 => ?_) (fun hc2 => ?_)
    · cases hc2
    (repeat (first | first | refine run_zfa rfl (fun _ => by rfl) (fun _ => by rfl) ?_ | refine run_faz rfl (fun _ => by rfl) (fun _ => by rfl) ?_ | refine run_fa rfl (fun _ => by rfl) (fun _ => by rfl) ?_ | refine run_p (fun _ => rfl) rfl ?_ | refine run_n rfl (fun _ => rfl) ?_ | refine run_y (fun _ => rfl) rfl (fun _ => rfl) ?_ | refine run_seq ?_ | refine run_region ?_ | refine run_ops_nil ?_ | refine run_block ?_ | refine run_skip ?_ | refine run_inBlock ?_ | refine run_exit rfl ?_))
    refine run_bs (#[Value.int .i64 ((j + 2 : Nat) : Int)]) rfl (fun _ => by rfl) (by decide) (by decide) (fun _ => by kernel_rfl) (fun r8 M8 hY k8 => ?_)
    replace hT7 := (k8 _ _ hT7).1; replace hfb := (k8 _ _ hfb).1
    replace hP := hP.new k8
    replace hch := hch.new' k8
    clear k8
    refine run_app ([Value.int .i64 ((j + 2 : Nat) : Int)]) rfl (fun _ => by rfl) (fun _ => by rfl) (fun _ => by rfl) hP.own (.inl (hY)) (by exact rfl) (by first | decide | exact Nat.le_refl _ | simp) (by rfl) (by rfl) (by rw [rowP_len]; omega) (fun u' M9 ho ha => ?_)
    obtain ⟨hP', hch', hb'⟩ := hP.app hch (fun c hc => by
      rcases List.mem_cons.1 hc with rfl | hc
      · exact ⟨_, hT7⟩
      · rw [List.mem_singleton.1 hc]; exact ⟨_, hfb⟩) ho ha
    replace hT7 := hb' b (by simp) _ hT7
    replace hfb := hb' bf (by simp) _ hfb
    (repeat (first | first | refine run_zfa rfl (fun _ => by rfl) (fun _ => by rfl) ?_ | refine run_faz rfl (fun _ => by rfl) (fun _ => by rfl) ?_ | refine run_fa rfl (fun _ => by rfl) (fun _ => by rfl) ?_ | refine run_p (fun _ => rfl) rfl ?_ | refine run_n rfl (fun _ => rfl) ?_ | refine run_y (fun _ => rfl) rfl (fun _ => rfl) ?_ | refine run_seq ?_ | refine run_region ?_ | refine run_ops_nil ?_ | refine run_block ?_ | refine run_skip ?_ | refine run_inBlock ?_ | refine run_exit rfl ?_))
    rw [wrap_nat (by omega)]
    exact run_keep _ (by intro j; repeat (first | exact trivial | refine ⟨rfl, ?_⟩)) (next (j + 1, u') _ _ ⟨by dsimp only; omega, rfl, ⟨_, hT7, hS.fork (by omega)⟩, hfb, by dsimp only; rw [rowP_snoc]; exact hP', hch'⟩ (by dsimp only; omega))
  clear next
  have hj6 : j ≤ 6 := by omega
  obtain ⟨bp, capp, cp, rfl, hcp, hcapp, hpb, htp, hbp, hbp0⟩ := hP.at (j + 1) (rowP_len j) (by omega) (by omega)
  have nbp : bp ≠ b := fun e => hbp (by rw [e]; simp)
  have nfp : bp ≠ bf := fun e => hbp (by rw [e]; simp)
  clear hP
  (repeat (first | first | refine run_zfa rfl (fun _ => by rfl) (fun _ => by rfl) ?_ | refine run_faz rfl (fun _ => by rfl) (fun _ => by rfl) ?_ | refine run_fa rfl (fun _ => by rfl) (fun _ => by rfl) ?_ | refine run_p (fun _ => rfl) rfl ?_ | refine run_n rfl (fun _ => rfl) ?_ | refine run_y (fun _ => rfl) rfl (fun _ => rfl) ?_ | refine run_seq ?_ | refine run_region ?_ | refine run_ops_nil ?_ | refine run_block ?_ | refine run_skip ?_ | refine run_inBlock ?_ | refine run_exit rfl ?_))
  refine run_len rfl (fun _ => by rfl) (fun _ => by rfl) ?_
  (repeat (first | first | refine run_zfa rfl (fun _ => by rfl) (fun _ => by rfl) ?_ | refine run_faz rfl (fun _ => by rfl) (fun _ => by rfl) ?_ | refine run_fa rfl (fun _ => by rfl) (fun _ => by rfl) ?_ | refine run_p (fun _ => rfl) rfl ?_ | refine run_n rfl (fun _ => rfl) ?_ | refine run_y (fun _ => rfl) rfl (fun _ => rfl) ?_ | refine run_seq ?_ | refine run_region ?_ | refine run_ops_nil ?_ | refine run_block ?_ | refine run_skip ?_ | refine run_inBlock ?_ | refine run_exit rfl ?_))
  refine run_len rfl (fun _ => by rfl) (fun _ => by rfl) ?_
  (repeat (first | first | refine run_zfa rfl (fun _ => by rfl) (fun _ => by rfl) ?_ | refine run_faz rfl (fun _ => by rfl) (fun _ => by rfl) ?_ | refine run_fa rfl (fun _ => by rfl) (fun _ => by rfl) ?_ | refine run_p (fun _ => rfl) rfl ?_ | refine run_n rfl (fun _ => rfl) ?_ | refine run_y (fun _ => rfl) rfl (fun _ => rfl) ?_ | refine run_seq ?_ | refine run_region ?_ | refine run_ops_nil ?_ | refine run_block ?_ | refine run_skip ?_ | refine run_inBlock ?_ | refine run_exit rfl ?_))
  have hmul : IntKind.i64.wrap (((i + 1 : Nat) : Int) * ((j + 1 : Nat) : Int)) = ((i + 1 : Nat) : Int) * ((j + 1 : Nat) : Int) := by
    have h1 : ((i + 1 : Nat) : Int) * ((j + 1 : Nat) : Int) = (((i + 1) * (j + 1) : Nat) : Int) := by rw [Int.natCast_mul]
    have h2 : (i + 1) * (j + 1) ≤ 7 * 7 := Nat.mul_le_mul (by omega) (by omega)
    rw [h1, wrap_id (by omega) (by omega)]
  rw [hmul]
  have hpos : 0 < ((i + 1 : Nat) : Int) * ((j + 1 : Nat) : Int) := Int.mul_pos (by omega) (by omega)
  have hn := kindI_bd (n := at') hpos
  refine run_call rfl (fun _ => by rfl) (fun _ => by kernel_rfl) (kind_ok at' (((i + 1 : Nat) : Int) * ((j + 1 : Nat) : Int)) a0 a1 (by omega)) ?_
  rintro v H7 M7 ⟨rfl, rfl, rfl⟩
  generalize hng : kindI at' (((i + 1 : Nat) : Int) * ((j + 1 : Nat) : Int)) = n at *
  obtain ⟨n, rfl⟩ : ∃ m : Nat, n = m := ⟨n.toNat, by omega⟩
  have hnat : n < (i + 1) * (j + 1) := by
    have h1 : ((i + 1 : Nat) : Int) * ((j + 1 : Nat) : Int) = (((i + 1) * (j + 1) : Nat) : Int) := by rw [Int.natCast_mul]
    omega
  have hpp : n / (i + 1) < j + 1 := Nat.div_lt_of_lt_mul hnat
  have hkk : n % (i + 1) < i + 1 := Nat.mod_lt _ (by omega)
  have hq : IntKind.i64.wrap (((n : Nat) : Int).tdiv ((i + 1 : Nat) : Int)) = ((n / (i + 1) : Nat) : Int) := by
    rw [← Int.ofNat_tdiv]; generalize n / (i + 1) = q at hpp ⊢; exact wrap_id (by omega) (by omega)
  have hm : ((n : Nat) : Int).tmod ((i + 1 : Nat) : Int) = ((n % (i + 1) : Nat) : Int) := Int.ofNat_tmod n (i + 1)
  generalize n / (i + 1) = pp at *
  generalize n % (i + 1) = kk at *
  (repeat (first | first | refine run_zfa rfl (fun _ => by rfl) (fun _ => by rfl) ?_ | refine run_faz rfl (fun _ => by rfl) (fun _ => by rfl) ?_ | refine run_fa rfl (fun _ => by rfl) (fun _ => by rfl) ?_ | refine run_p (fun _ => rfl) rfl ?_ | refine run_n rfl (fun _ => rfl) ?_ | refine run_y (fun _ => rfl) rfl (fun _ => rfl) ?_ | refine run_seq ?_ | refine run_region ?_ | refine run_ops_nil ?_ | refine run_block ?_ | refine run_skip ?_ | refine run_inBlock ?_ | refine run_exit rfl ?_))
  refine run_bd (X9.vals) rfl (fun _ => by rfl) (fun _ => by kernel_rfl) ?_
  refine run_newA (.cells Opn.zero.vals 41 (0, 0)) rfl (fun _ => by rfl) (fun _ => by kernel_rfl) (fun r22 M8 h22 k8 => ?_)
  have n22 := (k8 _ _ hT).2
  have nf22 := (k8 _ _ hfb).2
  have np22 := (k8 _ _ hpb).2
  replace hT := (k8 _ _ hT).1; replace hfb := (k8 _ _ hfb).1; replace hpb := (k8 _ _ hpb).1
  have g22 := New.none hch k8 (by simp; exact ⟨n22.symm, nf22.symm⟩)
  replace hch := hch.new' k8
  clear k8
  refine run_stA _ _ _ _ (X9.vals) (fun _ => by rfl) (fun _ => by rfl) (fun _ => by rfl) h22 (by kernel_rfl) (by first | decide | exact Nat.le_refl _) (by kernel_rfl) (by kernel_rfl) (fun M9 h22 k9 => ?_)
  replace hT := k9 _ _ n22 hT; replace hfb := k9 _ _ nf22 hfb; replace hpb := k9 _ _ np22 hpb
  replace hch := hch.box' k9 g22
  clear k9
  (repeat (first | first | refine run_zfa rfl (fun _ => by rfl) (fun _ => by rfl) ?_ | refine run_faz rfl (fun _ => by rfl) (fun _ => by rfl) ?_ | refine run_fa rfl (fun _ => by rfl) (fun _ => by rfl) ?_ | refine run_p (fun _ => rfl) rfl ?_ | refine run_n rfl (fun _ => rfl) ?_ | refine run_y (fun _ => rfl) rfl (fun _ => rfl) ?_ | refine run_seq ?_ | refine run_region ?_ | refine run_ops_nil ?_ | refine run_block ?_ | refine run_skip ?_ | refine run_inBlock ?_ | refine run_exit rfl ?_))
  have hfd : fdNo kk ≤ i + 1 ∧ (fdNo kk = 0 ∨ (2 ≤ fdNo kk ∧ fdNo kk ≤ i + 1)) := by unfold fdNo; split <;> omega
  have he := hS.err (p := pp + 1) (f := fdNo kk) (by omega) (by omega) hfd.1 hi6
  have hno := hS.no (p := pp + 1) (f := fdNo kk) (by omega) hfd.2
  generalize hZ : T.setOp 0 X9 = Z
  have hset : ∀ M', M' b = some T.obj → ACalls Try.prog 18 #[.pointer (some ⟨b, 0, none⟩), .int .i64 ((pp + 1 : Nat) : Int), .int .i64 (fdNo kk), .agg X9.vals] H7 M' (fun v H' M2 => v = .int .i64 0 ∧ H' = H7 ∧ M2 b = some Z.obj ∧ Ch [b] M' M2) := fun M' h => by
    have := set_yes (H := H7) h ((pp + 1 : Nat) : Int) (fdNo kk) X9 hS.inv.bd he
    rw [hno, hZ] at this; exact this
  refine run_draw (l2 := ?l2) (fun S H' M' => H' = H7 ∧ M' b = some (bif S 16 then Z else T).obj ∧ Ch [b] M9 M') (by kernel_rfl) (by kernel_rfl) ⟨rfl, hT, Ch.refl _ _⟩ ?hq ?h
  case hq =>
    (repeat (first | first | refine qc_zfa rfl (fun _ => by rfl) (fun _ => by rfl) (fun _ _ _ h => h) ?_ | refine qc_faz rfl (fun _ => by rfl) (fun _ => by rfl) (fun _ _ _ h => h) ?_ | refine qc_fa rfl (fun _ => by rfl) (fun _ => by rfl) (fun _ _ _ h => h) ?_ | refine qc_p (fun _ => rfl) rfl (fun _ _ _ h => h) ?_ | refine qc_n rfl (fun _ => rfl) (fun _ _ _ h => h) ?_ | refine qc_y (fun _ => rfl) rfl (fun _ => rfl) (fun _ _ _ h => h) ?_))
    refine qc_len rfl (fun _ => by rfl) (fun _ => by rfl) (fun _ _ _ h => h) ?_
    refine qc_quo rfl (fun _ => by rfl) (fun _ => by rfl) (fun _ => by rfl) (by omega) (fun _ _ _ h => h) ?_
    rw [hq]
    refine qc_ixs rfl (fun _ => by rfl) (fun _ => by rfl) (fun _ => by rfl) (by omega) (by omega) (fun _ _ _ h => h) ?_
    simp only [Int.toNat_natCast]
    refine qc_ld _ _ _ rfl (fun _ => by rfl) (fun _ => by rfl) (fun S H M hI => ⟨_, _, _, .inl (hI.2.2 _ _ (fun h => nbp (List.mem_singleton.1 h)) hpb), by rw [Nat.zero_add, Nat.mul_one, take_get htp (by omega)]; exact rowP_get hpp⟩) (fun _ _ _ h => h) ?_
    (repeat (first | first | refine qc_zfa rfl (fun _ => by rfl) (fun _ => by rfl) (fun _ _ _ h => h) ?_ | refine qc_faz rfl (fun _ => by rfl) (fun _ => by rfl) (fun _ _ _ h => h) ?_ | refine qc_fa rfl (fun _ => by rfl) (fun _ => by rfl) (fun _ _ _ h => h) ?_ | refine qc_p (fun _ => rfl) rfl (fun _ _ _ h => h) ?_ | refine qc_n rfl (fun _ => rfl) (fun _ _ _ h => h) ?_ | refine qc_y (fun _ => rfl) rfl (fun _ => rfl) (fun _ _ _ h => h) ?_))
    refine qc_len rfl (fun _ => by rfl) (fun _ => by rfl) (fun _ _ _ h => h) ?_
    refine qc_rem rfl (fun _ => by rfl) (fun _ => by rfl) (fun _ => by rfl) (by omega) (fun _ _ _ h => h) ?_
    rw [hm]
    refine qc_ixs rfl (fun _ => by rfl) (fun _ => by rfl) (fun _ => by rfl) (by omega) (by omega) (fun _ _ _ h => h) ?_
    simp only [Int.toNat_natCast]
    refine qc_ld _ _ _ rfl (fun _ => by rfl) (fun _ => by rfl) (fun S H M hI => ⟨_, _, _, .inl (hI.2.2 _ _ (fun h => nbf (List.mem_singleton.1 h)) hfb), by rw [Nat.zero_add, Nat.mul_one, take_get htf (by omega)]; exact rowF_get hkk⟩) (fun _ _ _ h => h) ?_
    refine qc_ldN _ _ _ _ rfl (fun _ => by rfl) (fun _ => by rfl) (fun S H M hI => ⟨_, _, _, .inl (hI.2.2 _ _ (fun h => n22 (List.mem_singleton.1 h).symm) h22), (by first | decide | exact Nat.le_refl _), extract_whole rfl⟩) (fun _ _ _ h => h) ?_
    refine qc_call (.int .i64 0) rfl (fun _ => by rfl) (fun _ => by kernel_rfl) (fun S H M hS hI => by
      obtain ⟨rfl, hb, hc⟩ := hI
      rw [hS] at hb
      exact (hset _ hb).mono fun v H' M2 ⟨e1, e2, e3, e4⟩ => ⟨e1, e2, e3, hc.trans e4⟩) ?_
    (repeat (first | first | refine qc_zfa rfl (fun _ => by rfl) (fun _ => by rfl) (fun _ _ _ h => h) ?_ | refine qc_faz rfl (fun _ => by rfl) (fun _ => by rfl) (fun _ _ _ h => h) ?_ | refine qc_fa rfl (fun _ => by rfl) (fun _ => by rfl) (fun _ _ _ h => h) ?_ | refine qc_p (fun _ => rfl) rfl (fun _ _ _ h => h) ?_ | refine qc_n rfl (fun _ => rfl) (fun _ _ _ h => h) ?_ | refine qc_y (fun _ => rfl) rfl (fun _ => rfl) (fun _ _ _ h => h) ?_))
    exact .nil
  case h =>
  rintro H8 M10 ⟨rfl, hT10, c10⟩
  replace hT10 : M10 b = some Z.obj := hT10
  replace hfb := c10 _ _ (fun h => nbf (List.mem_singleton.1 h)) hfb
  replace hpb := c10 _ _ (fun h => nbp (List.mem_singleton.1 h)) hpb
  replace h22 := c10 _ _ (fun h => n22 (List.mem_singleton.1 h).symm) h22
  have hend : Ch [] M M10 := (c2.mono' (hch.trans (c10.mono fun c hc => by rw [List.mem_singleton.1 hc]; simp)) (fun c hc => by
    rcases List.mem_cons.1 hc with rfl | hc
    · exact nb
    · rw [List.mem_singleton.1 hc]; intro o ho; exact hbf0 o (c2 _ _ (by simp) ho)))
  have hZb : Z.Bd := by rw [← hZ]; exact hS.setop.bd
  have hget : ∀ M' p k, M' b = some Z.obj → p < j + 1 → k < i + 1 → ACalls Try.prog 19 #[.pointer (some ⟨b, 0, none⟩), .int .i64 ((p + 1 : Nat) : Int), .int .i64 (fdNo k)] H8 M' (fun v H' M2 => v = .tuple #[.agg X9.vals, .int .i64 0] ∧ H' = H8 ∧ Ch [] M' M2) := fun M' p k h hp hk => by
    have hfd : fdNo k ≤ i + 1 ∧ (fdNo k = 0 ∨ (2 ≤ fdNo k ∧ fdNo k ≤ i + 1)) := by unfold fdNo; split <;> omega
    have he : Z.err ((p + 1 : Nat) : Int) (fdNo k) = 0 := by rw [← hZ]; exact hS.err (p := p + 1) (f := fdNo k) (by omega) (by omega) hfd.1 hi6
    have hno : Z.no ((p + 1 : Nat) : Int) (fdNo k) = 0 := by rw [← hZ]; exact hS.no (p := p + 1) (f := fdNo k) (by omega) hfd.2
    have := get_yes (H := H8) h ((p + 1 : Nat) : Int) (fdNo k) hZb he
    rw [hno] at this
    have h0 : Z.op 0 = X9 := by rw [← hZ]; rfl
    rw [h0] at this; exact this
  have hget1 : ∀ M' p, M' b = some Z.obj → p < j + 1 → ACalls Try.prog 19 #[.pointer (some ⟨b, 0, none⟩), .int .i64 ((p + 1 : Nat) : Int), .int .i64 1] H8 M' (fun v H' M2 => v = .tuple #[.agg X6.vals, .int .i64 0] ∧ H' = H8 ∧ Ch [] M' M2) := fun M' p h hp => by
    have he : Z.err ((p + 1 : Nat) : Int) (1 : Nat) = 0 := by rw [← hZ]; exact hS.err (p := p + 1) (f := 1) (by omega) (by omega) (by omega) hi6
    have hno : Z.no ((p + 1 : Nat) : Int) (1 : Nat) = 1 := by rw [← hZ]; exact hS.no1 (p := p + 1) (by omega)
    have := get_yes (H := H8) h ((p + 1 : Nat) : Int) (1 : Nat) hZb he
    rw [hno] at this
    have h0 : Z.op 1 = X6 := by rw [← hZ]; exact hS.o1
    rw [h0] at this; exact this
  have hhold : Z.holds X9 16 0 0 = 1 := by rw [← hZ]; exact hS.holds
  clear hset he hno hfd hq hm hnat hn hng hpos hmul hbf0 hbp0 hch c10 g22 c2 hZ hS hZb hT
  (repeat (first | first | refine run_zfa rfl (fun _ => by rfl) (fun _ => by rfl) ?_ | refine run_faz rfl (fun _ => by rfl) (fun _ => by rfl) ?_ | refine run_fa rfl (fun _ => by rfl) (fun _ => by rfl) ?_ | refine run_p (fun _ => rfl) rfl ?_ | refine run_n rfl (fun _ => rfl) ?_ | refine run_y (fun _ => rfl) rfl (fun _ => rfl) ?_ | refine run_seq ?_ | refine run_region ?_ | refine run_ops_nil ?_ | refine run_block ?_ | refine run_skip ?_ | refine run_inBlock ?_ | refine run_exit rfl ?_))
  refine run_cond _ (fun _ => by rfl) (fun hc => ?_) (fun hc => ?_)
  · cases hc
  (repeat (first | first | refine run_zfa rfl (fun _ => by rfl) (fun _ => by rfl) ?_ | refine run_faz rfl (fun _ => by rfl) (fun _ => by rfl) ?_ | refine run_fa rfl (fun _ => by rfl) (fun _ => by rfl) ?_ | refine run_p (fun _ => rfl) rfl ?_ | refine run_n rfl (fun _ => rfl) ?_ | refine run_y (fun _ => rfl) rfl (fun _ => rfl) ?_ | refine run_seq ?_ | refine run_region ?_ | refine run_ops_nil ?_ | refine run_block ?_ | refine run_skip ?_ | refine run_inBlock ?_ | refine run_exit rfl ?_))
  refine run_loopI (fun p : Nat => [(8, .pointer (some ⟨b, 0, none⟩)), (11, .int .i64 1), (13, .slice (some ⟨bf, 0, none⟩) (i + 1) capf), (17, .slice (some ⟨bp, 0, none⟩) (j + 1) capp), (22, .pointer (some ⟨r22, 0, none⟩)), (23, .int .i64 p)])
    (fun p H1 M1 => p ≤ j + 1 ∧ H1 = H8 ∧ Ch [] M10 M1) (fun p => 10 - p) 0 (by intro j; repeat (first | exact trivial | refine ⟨rfl, ?_⟩)) ⟨by omega, rfl, Ch.refl _ _⟩ ?_
  rintro p H9 M11 ⟨hp, rfl, c11⟩ next
  (repeat (first | first | refine run_zfa rfl (fun _ => by rfl) (fun _ => by rfl) ?_ | refine run_faz rfl (fun _ => by rfl) (fun _ => by rfl) ?_ | refine run_fa rfl (fun _ => by rfl) (fun _ => by rfl) ?_ | refine run_p (fun _ => rfl) rfl ?_ | refine run_n rfl (fun _ => rfl) ?_ | refine run_y (fun _ => rfl) rfl (fun _ => rfl) ?_ | refine run_seq ?_ | refine run_region ?_ | refine run_ops_nil ?_ | refine run_block ?_ | refine run_skip ?_ | refine run_inBlock ?_ | refine run_exit rfl ?_))
  refine run_len rfl (fun _ => by rfl) (fun _ => by rfl) ?_
  (repeat (first | first | refine run_zfa rfl (fun _ => by rfl) (fun _ => by rfl) ?_ | refine run_faz rfl (fun _ => by rfl) (fun _ => by rfl) ?_ | refine run_fa rfl (fun _ => by rfl) (fun _ => by rfl) ?_ | refine run_p (fun _ => rfl) rfl ?_ | refine run_n rfl (fun _ => rfl) ?_ | refine run_y (fun _ => rfl) rfl (fun _ => rfl) ?_ | refine run_seq ?_ | refine run_region ?_ | refine run_ops_nil ?_ | refine run_block ?_ | refine run_skip ?_ | refine run_inBlock ?_ | refine run_exit rfl ?_))
  refine run_if (fun _ => by rfl) (fun hc3 => ?_) (fun hc3 => ?_)
  · have hp' : p < j + 1 := by omega
    (repeat (first | first | refine run_zfa rfl (fun _ => by rfl) (fun _ => by rfl) ?_ | refine run_faz rfl (fun _ => by rfl) (fun _ => by rfl) ?_ | refine run_fa rfl (fun _ => by rfl) (fun _ => by rfl) ?_ | refine run_p (fun _ => rfl) rfl ?_ | refine run_n rfl (fun _ => rfl) ?_ | refine run_y (fun _ => rfl) rfl (fun _ => rfl) ?_ | refine run_seq ?_ | refine run_region ?_ | refine run_ops_nil ?_ | refine run_block ?_ | refine run_skip ?_ | refine run_inBlock ?_ | refine run_exit rfl ?_))
    refine run_loopI (fun k : Nat => [(8, .pointer (some ⟨b, 0, none⟩)), (11, .int .i64 1), (13, .slice (some ⟨bf, 0, none⟩) (i + 1) capf), (17, .slice (some ⟨bp, 0, none⟩) (j + 1) capp), (22, .pointer (some ⟨r22, 0, none⟩)), (23, .int .i64 p), (24, .int .i64 k)])
      (fun k H1 M1 => k ≤ i + 1 ∧ H1 = H9 ∧ Ch [] M10 M1) (fun k => 10 - k) 0 (by intro j; repeat (first | exact trivial | refine ⟨rfl, ?_⟩)) ⟨by omega, rfl, c11⟩ ?_
    clear c11
    rintro k H10 M11 ⟨hk, rfl, c11⟩ next4
    (repeat (first | first | refine run_zfa rfl (fun _ => by rfl) (fun _ => by rfl) ?_ | refine run_faz rfl (fun _ => by rfl) (fun _ => by rfl) ?_ | refine run_fa rfl (fun _ => by rfl) (fun _ => by rfl) ?_ | refine run_p (fun _ => rfl) rfl ?_ | refine run_n rfl (fun _ => rfl) ?_ | refine run_y (fun _ => rfl) rfl (fun _ => rfl) ?_ | refine run_seq ?_ | refine run_region ?_ | refine run_ops_nil ?_ | refine run_block ?_ | refine run_skip ?_ | refine run_inBlock ?_ | refine run_exit rfl ?_))
    refine run_len rfl (fun _ => by rfl) (fun _ => by rfl) ?_
    (repeat (first | first | refine run_zfa rfl (fun _ => by rfl) (fun _ => by rfl) ?_ | refine run_faz rfl (fun _ => by rfl) (fun _ => by rfl) ?_ | refine run_fa rfl (fun _ => by rfl) (fun _ => by rfl) ?_ | refine run_p (fun _ => rfl) rfl ?_ | refine run_n rfl (fun _ => rfl) ?_ | refine run_y (fun _ => rfl) rfl (fun _ => rfl) ?_ | refine run_seq ?_ | refine run_region ?_ | refine run_ops_nil ?_ | refine run_block ?_ | refine run_skip ?_ | refine run_inBlock ?_ | refine run_exit rfl ?_))
    refine run_if (fun _ => by rfl) (fun hc4 => ?_) (fun hc4 => ?_)
    · have hk' : k < i + 1 := by omega
      (repeat (first | first | refine run_zfa rfl (fun _ => by rfl) (fun _ => by rfl) ?_ | refine run_faz rfl (fun _ => by rfl) (fun _ => by rfl) ?_ | refine run_fa rfl (fun _ => by rfl) (fun _ => by rfl) ?_ | refine run_p (fun _ => rfl) rfl ?_ | refine run_n rfl (fun _ => rfl) ?_ | refine run_y (fun _ => rfl) rfl (fun _ => rfl) ?_ | refine run_seq ?_ | refine run_region ?_ | refine run_ops_nil ?_ | refine run_block ?_ | refine run_skip ?_ | refine run_inBlock ?_ | refine run_exit rfl ?_))
      refine run_drawA (l2 := ?l2A) (lm := ?lmA) (13) (fun r S H' M' => H' = H10 ∧ Ch [] M10 M' ∧ (S 13 = true → M' r = some (.cells (bif S 14 then X9.vals else Opn.zero.vals) 41 (0, 0)) ∧ ∀ o, M10 r ≠ some o)) (.cells Opn.zero.vals 41 (0, 0)) (by kernel_rfl) (by kernel_rfl) (by kernel_rfl) rfl rfl rfl ?hwA ?hxA ?h0A ?hqA ?hnewA ?hrA ?hA
      case h0A => exact ⟨0, rfl, c11, fun h => by cases h⟩
      case hqA =>
        intro r
        (repeat (first | first | refine qc_zfa rfl (fun _ => by rfl) (fun _ => by rfl) (fun _ _ _ h => h) ?_ | refine qc_faz rfl (fun _ => by rfl) (fun _ => by rfl) (fun _ _ _ h => h) ?_ | refine qc_fa rfl (fun _ => by rfl) (fun _ => by rfl) (fun _ _ _ h => h) ?_ | refine qc_p (fun _ => rfl) rfl (fun _ _ _ h => h) ?_ | refine qc_n rfl (fun _ => rfl) (fun _ _ _ h => h) ?_ | refine qc_y (fun _ => rfl) rfl (fun _ => rfl) (fun _ _ _ h => h) ?_))
        refine qc_ixs rfl (fun _ => by rfl) (fun _ => by rfl) (fun _ => by rfl) (by omega) (by omega) (fun _ _ _ h => h) ?_
        simp only [Int.toNat_natCast]
        refine qc_ld _ _ _ rfl (fun _ => by rfl) (fun _ => by rfl) (fun S H M hI => ⟨_, _, _, .inl (hI.2.1 _ _ (by simp) hpb), by rw [Nat.zero_add, Nat.mul_one, take_get htp (by omega)]; exact rowP_get hp'⟩) (fun _ _ _ h => h) ?_
        (repeat (first | first | refine qc_zfa rfl (fun _ => by rfl) (fun _ => by rfl) (fun _ _ _ h => h) ?_ | refine qc_faz rfl (fun _ => by rfl) (fun _ => by rfl) (fun _ _ _ h => h) ?_ | refine qc_fa rfl (fun _ => by rfl) (fun _ => by rfl) (fun _ _ _ h => h) ?_ | refine qc_p (fun _ => rfl) rfl (fun _ _ _ h => h) ?_ | refine qc_n rfl (fun _ => rfl) (fun _ _ _ h => h) ?_ | refine qc_y (fun _ => rfl) rfl (fun _ => rfl) (fun _ _ _ h => h) ?_))
        refine qc_ixs rfl (fun _ => by rfl) (fun _ => by rfl) (fun _ => by rfl) (by omega) (by omega) (fun _ _ _ h => h) ?_
        simp only [Int.toNat_natCast]
        refine qc_ld _ _ _ rfl (fun _ => by rfl) (fun _ => by rfl) (fun S H M hI => ⟨_, _, _, .inl (hI.2.1 _ _ (by simp) hfb), by rw [Nat.zero_add, Nat.mul_one, take_get htf (by omega)]; exact rowF_get hk'⟩) (fun _ _ _ h => h) ?_
        refine qc_call (.tuple #[.agg X9.vals, .int .i64 0]) rfl (fun _ => by rfl) (fun _ => by kernel_rfl) (fun S H M hS hI => by
          obtain ⟨rfl, hc, h13⟩ := hI
          exact (hget _ p k (hc _ _ (by simp) hT10) hp' hk').mono fun v H' M2 ⟨e1, e2, e3⟩ => ⟨e1, e2, hc.trans e3, fun h => ⟨e3 _ _ (by simp) (h13 h).1, (h13 h).2⟩⟩) ?_
        (repeat (first | first | refine qc_zfa rfl (fun _ => by rfl) (fun _ => by rfl) (fun _ _ _ h => h) ?_ | refine qc_faz rfl (fun _ => by rfl) (fun _ => by rfl) (fun _ _ _ h => h) ?_ | refine qc_fa rfl (fun _ => by rfl) (fun _ => by rfl) (fun _ _ _ h => h) ?_ | refine qc_p (fun _ => rfl) rfl (fun _ _ _ h => h) ?_ | refine qc_n rfl (fun _ => rfl) (fun _ _ _ h => h) ?_ | refine qc_y (fun _ => rfl) rfl (fun _ => rfl) (fun _ _ _ h => h) ?_))
        exact .nil
      case hwA => exact fun _ => by rfl
      case hxA => exact fun _ => by kernel_rfl
      case hnewA =>
        rintro r S H' M' hS hlt ⟨rfl, hc, _⟩ r' M2 hr hk
        exact ⟨rfl, hc.new' hk, fun _ => ⟨by show M2 r' = some (.cells (bif S 14 then _ else _) 41 (0, 0)); rw [hlt 14 (by omega)]; exact hr, New.none hc hk (by simp)⟩⟩
      case hrA =>
        intro r
        refine qc_st _ _ _ _ (fun _ => by rfl) (fun _ => by rfl) (fun _ => by rfl) (by rfl) (by rfl) (fun S H' M' hD hS hI => ?_) ?_
        · obtain ⟨e, hc, h13⟩ := hI
          have h := h13 (hD ⟨13, .data⟩ (by simp) rfl)
          rw [hS] at h
          replace h : M' r = some (.cells Opn.zero.vals 41 (0, 0)) ∧ _ := h
          exact ⟨_, _, h.1, Nat.le_of_ble_eq_true rfl, e, hc.box h.2 _, fun _ => ⟨upd_same _ _ _, h.2⟩⟩
        (repeat (first | first | refine qc_zfa rfl (fun _ => by rfl) (fun _ => by rfl) (fun _ _ _ h => h) ?_ | refine qc_faz rfl (fun _ => by rfl) (fun _ => by rfl) (fun _ _ _ h => h) ?_ | refine qc_fa rfl (fun _ => by rfl) (fun _ => by rfl) (fun _ _ _ h => h) ?_ | refine qc_p (fun _ => rfl) rfl (fun _ _ _ h => h) ?_ | refine qc_n rfl (fun _ => rfl) (fun _ _ _ h => h) ?_ | refine qc_y (fun _ => rfl) rfl (fun _ => rfl) (fun _ _ _ h => h) ?_))
        exact .nil
      case hA =>
      rintro r H11 M12 ⟨rfl, c12, h13⟩
      obtain ⟨h25, g25⟩ := h13 rfl
      replace h25 : M12 r = some (.cells X9.vals 41 (0, 0)) := h25
      (repeat (first | first | refine run_zfa rfl (fun _ => by rfl) (fun _ => by rfl) ?_ | refine run_faz rfl (fun _ => by rfl) (fun _ => by rfl) ?_ | refine run_fa rfl (fun _ => by rfl) (fun _ => by rfl) ?_ | refine run_p (fun _ => rfl) rfl ?_ | refine run_n rfl (fun _ => rfl) ?_ | refine run_y (fun _ => rfl) rfl (fun _ => rfl) ?_ | refine run_seq ?_ | refine run_region ?_ | refine run_ops_nil ?_ | refine run_block ?_ | refine run_skip ?_ | refine run_inBlock ?_ | refine run_exit rfl ?_))
      refine run_ldN _ _ _ _ rfl (fun _ => by rfl) (fun _ => by rfl) (.inl (h25)) (by first | decide | exact Nat.le_refl _) (extract_whole rfl) ?_
      refine run_ldN _ _ _ _ rfl (fun _ => by rfl) (fun _ => by rfl) (.inl (c12 _ _ (by simp) h22)) (by first | decide | exact Nat.le_refl _) (extract_whole rfl) ?_
      refine run_nes (eq41r X9) rfl (fun _ => by rfl) (fun _ => by rfl) (fun _ => by rfl) ?_
      (repeat (first | first | refine run_zfa rfl (fun _ => by rfl) (fun _ => by rfl) ?_ | refine run_faz rfl (fun _ => by rfl) (fun _ => by rfl) ?_ | refine run_fa rfl (fun _ => by rfl) (fun _ => by rfl) ?_ | refine run_p (fun _ => rfl) rfl ?_ | refine run_n rfl (fun _ => rfl) ?_ | refine run_y (fun _ => rfl) rfl (fun _ => rfl) ?_ | refine run_seq ?_ | refine run_region ?_ | refine run_ops_nil ?_ | refine run_block ?_ | refine run_skip ?_ | refine run_inBlock ?_ | refine run_exit rfl ?_))
      refine run_cond _ (fun _ => by rfl) (fun hc => ?_) (fun hc => ?_)
      · cases hc
      (repeat (first | first | refine run_zfa rfl (fun _ => by rfl) (fun _ => by rfl) ?_ | refine run_faz rfl (fun _ => by rfl) (fun _ => by rfl) ?_ | refine run_fa rfl (fun _ => by rfl) (fun _ => by rfl) ?_ | refine run_p (fun _ => rfl) rfl ?_ | refine run_n rfl (fun _ => rfl) ?_ | refine run_y (fun _ => rfl) rfl (fun _ => rfl) ?_ | refine run_seq ?_ | refine run_region ?_ | refine run_ops_nil ?_ | refine run_block ?_ | refine run_skip ?_ | refine run_inBlock ?_ | refine run_exit rfl ?_))
      rw [wrap_nat (by omega)]
      exact run_keep _ (by intro j; repeat (first | exact trivial | refine ⟨rfl, ?_⟩)) (next4 (k + 1) _ _ ⟨by omega, rfl, c12⟩ (by omega))
    · clear next4
      (repeat (first | first | refine run_zfa rfl (fun _ => by rfl) (fun _ => by rfl) ?_ | refine run_faz rfl (fun _ => by rfl) (fun _ => by rfl) ?_ | refine run_fa rfl (fun _ => by rfl) (fun _ => by rfl) ?_ | refine run_p (fun _ => rfl) rfl ?_ | refine run_n rfl (fun _ => rfl) ?_ | refine run_y (fun _ => rfl) rfl (fun _ => rfl) ?_ | refine run_seq ?_ | refine run_region ?_ | refine run_ops_nil ?_ | refine run_block ?_ | refine run_skip ?_ | refine run_inBlock ?_ | refine run_exit rfl ?_))
      refine run_ixs rfl (fun _ => by rfl) (fun _ => by rfl) (fun _ => by rfl) (by omega) (by omega) ?_
      simp only [Int.toNat_natCast]
      refine run_ld _ _ _ rfl (fun _ => by rfl) (fun _ => by rfl) (.inl (c11 _ _ (by simp) hpb)) (by exact by rw [Nat.zero_add, Nat.mul_one, take_get htp (by omega)]; exact rowP_get hp') ?_
      (repeat (first | first | refine run_zfa rfl (fun _ => by rfl) (fun _ => by rfl) ?_ | refine run_faz rfl (fun _ => by rfl) (fun _ => by rfl) ?_ | refine run_fa rfl (fun _ => by rfl) (fun _ => by rfl) ?_ | refine run_p (fun _ => rfl) rfl ?_ | refine run_n rfl (fun _ => rfl) ?_ | refine run_y (fun _ => rfl) rfl (fun _ => rfl) ?_ | refine run_seq ?_ | refine run_region ?_ | refine run_ops_nil ?_ | refine run_block ?_ | refine run_skip ?_ | refine run_inBlock ?_ | refine run_exit rfl ?_))
      refine run_call rfl (fun _ => by rfl) (fun _ => by kernel_rfl) (hget1 _ p (c11 _ _ (by simp) hT10) hp') ?_
      rintro v H11 M12 ⟨rfl, rfl, c12⟩
      replace c11 := c11.trans c12
      clear c12
      (repeat (first | first | refine run_zfa rfl (fun _ => by rfl) (fun _ => by rfl) ?_ | refine run_faz rfl (fun _ => by rfl) (fun _ => by rfl) ?_ | refine run_fa rfl (fun _ => by rfl) (fun _ => by rfl) ?_ | refine run_p (fun _ => rfl) rfl ?_ | refine run_n rfl (fun _ => rfl) ?_ | refine run_y (fun _ => rfl) rfl (fun _ => rfl) ?_ | refine run_seq ?_ | refine run_region ?_ | refine run_ops_nil ?_ | refine run_block ?_ | refine run_skip ?_ | refine run_inBlock ?_ | refine run_exit rfl ?_))
      refine run_newA (.cells Opn.zero.vals 41 (0, 0)) rfl (fun _ => by rfl) (fun _ => by kernel_rfl) (fun r27 M13 h27 k13 => ?_)
      have g27 := New.none c11 k13 (by simp)
      replace c11 := c11.new' k13
      clear k13
      refine run_stA _ _ _ _ (X6.vals) (fun _ => by rfl) (fun _ => by rfl) (fun _ => by rfl) h27 (by kernel_rfl) (by first | decide | exact Nat.le_refl _) (by kernel_rfl) (by kernel_rfl) (fun M14 h27 k14 => ?_)
      replace c11 := c11.box' k14 g27
      clear k14
      (repeat (first | first | refine run_zfa rfl (fun _ => by rfl) (fun _ => by rfl) ?_ | refine run_faz rfl (fun _ => by rfl) (fun _ => by rfl) ?_ | refine run_fa rfl (fun _ => by rfl) (fun _ => by rfl) ?_ | refine run_p (fun _ => rfl) rfl ?_ | refine run_n rfl (fun _ => rfl) ?_ | refine run_y (fun _ => rfl) rfl (fun _ => rfl) ?_ | refine run_seq ?_ | refine run_region ?_ | refine run_ops_nil ?_ | refine run_block ?_ | refine run_skip ?_ | refine run_inBlock ?_ | refine run_exit rfl ?_))
      refine run_ldN _ _ _ _ rfl (fun _ => by rfl) (fun _ => by rfl) (.inl (h27)) (by first | decide | exact Nat.le_refl _) (extract_whole rfl) ?_
      refine run_bd (X6.vals) rfl (fun _ => by rfl) (fun _ => by kernel_rfl) ?_
      refine run_nes (eq41r X6) rfl (fun _ => by rfl) (fun _ => by rfl) (fun _ => by rfl) ?_
      (repeat (first | first | refine run_zfa rfl (fun _ => by rfl) (fun _ => by rfl) ?_ | refine run_faz rfl (fun _ => by rfl) (fun _ => by rfl) ?_ | refine run_fa rfl (fun _ => by rfl) (fun _ => by rfl) ?_ | refine run_p (fun _ => rfl) rfl ?_ | refine run_n rfl (fun _ => rfl) ?_ | refine run_y (fun _ => rfl) rfl (fun _ => rfl) ?_ | refine run_seq ?_ | refine run_region ?_ | refine run_ops_nil ?_ | refine run_block ?_ | refine run_skip ?_ | refine run_inBlock ?_ | refine run_exit rfl ?_))
      refine run_cond _ (fun _ => by rfl) (fun hc => ?_) (fun hc => ?_)
      · cases hc
      (repeat (first | first | refine run_zfa rfl (fun _ => by rfl) (fun _ => by rfl) ?_ | refine run_faz rfl (fun _ => by rfl) (fun _ => by rfl) ?_ | refine run_fa rfl (fun _ => by rfl) (fun _ => by rfl) ?_ | refine run_p (fun _ => rfl) rfl ?_ | refine run_n rfl (fun _ => rfl) ?_ | refine run_y (fun _ => rfl) rfl (fun _ => rfl) ?_ | refine run_seq ?_ | refine run_region ?_ | refine run_ops_nil ?_ | refine run_block ?_ | refine run_skip ?_ | refine run_inBlock ?_ | refine run_exit rfl ?_))
      rw [wrap_nat (by omega)]
      exact run_keep _ (by intro j; repeat (first | exact trivial | refine ⟨rfl, ?_⟩)) (next (p + 1) _ _ ⟨by omega, rfl, c11⟩ (by omega))
  · (repeat (first | first | refine run_zfa rfl (fun _ => by rfl) (fun _ => by rfl) ?_ | refine run_faz rfl (fun _ => by rfl) (fun _ => by rfl) ?_ | refine run_fa rfl (fun _ => by rfl) (fun _ => by rfl) ?_ | refine run_p (fun _ => rfl) rfl ?_ | refine run_n rfl (fun _ => rfl) ?_ | refine run_y (fun _ => rfl) rfl (fun _ => rfl) ?_ | refine run_seq ?_ | refine run_region ?_ | refine run_ops_nil ?_ | refine run_block ?_ | refine run_skip ?_ | refine run_inBlock ?_ | refine run_exit rfl ?_))
    refine run_ldN _ _ _ _ rfl (fun _ => by rfl) (fun _ => by rfl) (.inl (c11 _ _ (by simp) h22)) (by first | decide | exact Nat.le_refl _) (extract_whole rfl) ?_
    refine run_call rfl (fun _ => by rfl) (fun _ => by kernel_rfl) (holds_ok (c11 _ _ (by simp) hT10) X9) ?_
    rw [hhold]
    rintro v H11 M12 ⟨rfl, rfl, c12⟩
    (repeat (first | first | refine run_zfa rfl (fun _ => by rfl) (fun _ => by rfl) ?_ | refine run_faz rfl (fun _ => by rfl) (fun _ => by rfl) ?_ | refine run_fa rfl (fun _ => by rfl) (fun _ => by rfl) ?_ | refine run_p (fun _ => rfl) rfl ?_ | refine run_n rfl (fun _ => rfl) ?_ | refine run_y (fun _ => rfl) rfl (fun _ => rfl) ?_ | refine run_seq ?_ | refine run_region ?_ | refine run_ops_nil ?_ | refine run_block ?_ | refine run_skip ?_ | refine run_inBlock ?_ | refine run_exit rfl ?_))
    exact run_retc Try.func5 (fun _ => by kernel_rfl) (⟨rfl, rfl, hend.trans (c11.trans c12)⟩)
end Go.Proofs.Ytimaipclgmcekaa
