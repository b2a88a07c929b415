/- The document's examples. -/
import Derived.Test.YtimaipclgmcekaaProcT
import Derived.Test.YtimaipclgmcekaaCamI
namespace Go.Proofs.Ytimaipclgmcekaa
open Go.Cam
set_option maxRecDepth 100000
theorem eq41r (x : Opn) : EQ Try.prog 41 (.agg x.vals) (.agg x.vals) true := by have := eq41 x x; rwa [same_refl] at this
/-- a slice of one's own that has elements -/
theorem Own.at {M : Heap} {e sz : Nat} {v : Value} {xs : List Value} (h : Own M e sz v xs) (n : Nat) (hn : xs.length = n * sz) (h0 : 0 < n) (hz : 0 < sz) :
    ∃ b cap cs, v = .slice (some ⟨b, 0, none⟩) n cap ∧ cs.size = cap * sz ∧ n ≤ cap ∧ M b = some (.cells cs e (0, 0)) ∧ cs.toList.take (n * sz) = xs := by
  rcases h with ⟨_, rfl⟩ | ⟨b, len, cap, cs, rfl, h1, h2, h3, h4, h5⟩
  · have := Nat.mul_pos h0 hz; simp at hn; omega
  · have : len = n := Nat.eq_of_mul_eq_mul_right hz (h1 ▸ hn)
    subst this
    exact ⟨b, cap, cs, rfl, h2, h3, h4, by rw [← hn]; exact h5⟩
theorem take_ext {cs : Array Value} {ys : List Value} (h : cs.toList.take ys.length = ys) : cs.extract 0 (0 + ys.length) = ys.toArray := by
  apply Array.ext'
  rw [Array.toList_extract, List.extract_eq_take_drop]
  simp only [Nat.zero_add, Nat.sub_zero, List.drop_zero]
  exact h
theorem _root_.Go.Cam.Ch.trans' {M0 M M1 : Heap} {b : Nat} (a : Ch [] M0 M) (h : Ch [b] M M1) (hb : ∀ o, M0 b ≠ some o) : Ch [] M0 M1 := fun c o hc ho => h c o (fun e => hb o (by rw [← List.mem_singleton.1 e]; exact ho)) (a c o hc ho)
def sX : Opn := ⟨1, ⟨#[97]⟩, 5, 0, 0, 0, false⟩
def S0 : Tb := Tb.zero.setSt 1 1
def S1 : Tb := S0.openT 1 sX 0 0
def S2 : Tb := S1.forkT 1 2
def S3 : Tb := S2.letT 1 0 0
def S4 : Tb := S3.exitT 2 7
def S5 : Tb := S4.waitT 2
theorem I0 : Inv S0 := Inv.start
theorem I1 : Inv S1 := I0.openT sX (by decide) (by decide) (by decide) rfl rfl rfl
theorem I2 : Inv S2 := I1.forkT (by decide) (by decide) rfl
theorem I3 : Inv S3 := I2.letT (by decide) (by rfl)
theorem I4 : Inv S4 := I3.exitT 7 (by decide) (by decide)
theorem gone3 : S3.gone 2 = [sX] := by kernel_rfl
set_option maxHeartbeats 4000000 in
theorem shown_ok {H M : Heap} : ACalls Try.prog 7 #[] H M (fun v H' M' => v = .bool true ∧ H' = H ∧ Ch [] M M') := by
  refine enter (args := []) Try.func7 rfl rfl (by show (0 : Nat) ≤ 119; decide) ?_
  (repeat (first | first | refine run_zfa rfl (fun _ => by rfl) (fun _ => by rfl) ?_ | refine run_faz rfl (fun _ => by rfl) (fun _ => by rfl) ?_ | refine run_fa rfl (fun _ => by rfl) (fun _ => by rfl) ?_ | refine run_p (fun _ => rfl) rfl ?_ | refine run_n rfl (fun _ => rfl) ?_ | refine run_y (fun _ => rfl) rfl (fun _ => rfl) ?_ | refine run_seq ?_ | refine run_region ?_ | refine run_ops_nil ?_ | refine run_block ?_ | refine run_skip ?_ | refine run_inBlock ?_ | refine run_exit rfl ?_))
  refine run_call rfl (fun _ => by rfl) (fun _ => by kernel_rfl) (new_ok) ?_
  rintro v H1 M1 ⟨b, rfl, rfl, hT, k1⟩
  have hch : Ch [] M M1 := (Ch.refl _ _).new' k1
  have nb := New.none (Ch.refl [] _) k1 (by simp)
  clear k1
  (repeat (first | first | refine run_zfa rfl (fun _ => by rfl) (fun _ => by rfl) ?_ | refine run_faz rfl (fun _ => by rfl) (fun _ => by rfl) ?_ | refine run_fa rfl (fun _ => by rfl) (fun _ => by rfl) ?_ | refine run_p (fun _ => rfl) rfl ?_ | refine run_n rfl (fun _ => rfl) ?_ | refine run_y (fun _ => rfl) rfl (fun _ => rfl) ?_ | refine run_seq ?_ | refine run_region ?_ | refine run_ops_nil ?_ | refine run_block ?_ | refine run_skip ?_ | refine run_inBlock ?_ | refine run_exit rfl ?_))
  refine run_cond _ (fun _ => by rfl) (fun hc => ?_) (fun hc => ?_)
  · cases hc
  (repeat (first | first | refine run_zfa rfl (fun _ => by rfl) (fun _ => by rfl) ?_ | refine run_faz rfl (fun _ => by rfl) (fun _ => by rfl) ?_ | refine run_fa rfl (fun _ => by rfl) (fun _ => by rfl) ?_ | refine run_p (fun _ => rfl) rfl ?_ | refine run_n rfl (fun _ => rfl) ?_ | refine run_y (fun _ => rfl) rfl (fun _ => rfl) ?_ | refine run_seq ?_ | refine run_region ?_ | refine run_ops_nil ?_ | refine run_block ?_ | refine run_skip ?_ | refine run_inBlock ?_ | refine run_exit rfl ?_))
  refine run_bd (sX.vals) rfl (fun _ => by rfl) (fun _ => by kernel_rfl) ?_
  refine run_newA (.cells Opn.zero.vals 41 (0, 0)) rfl (fun _ => by rfl) (fun _ => by kernel_rfl) (fun r2 M2 h2 k2 => ?_)
  have n2 := (k2 _ _ hT).2
  replace hT := (k2 _ _ hT).1
  have g2 := New.none hch k2 (by simp)
  replace hch := hch.new' k2
  clear k2
  refine run_stA _ _ _ _ (sX.vals) (fun _ => by rfl) (fun _ => by rfl) (fun _ => by rfl) h2 (by kernel_rfl) (by first | decide | exact Nat.le_refl _) (by kernel_rfl) (by kernel_rfl) (fun M3 h2 k3 => ?_)
  replace hT := k3 _ _ n2 hT
  replace hch := hch.box' k3 g2
  clear k3
  (repeat (first | first | refine run_zfa rfl (fun _ => by rfl) (fun _ => by rfl) ?_ | refine run_faz rfl (fun _ => by rfl) (fun _ => by rfl) ?_ | refine run_fa rfl (fun _ => by rfl) (fun _ => by rfl) ?_ | refine run_p (fun _ => rfl) rfl ?_ | refine run_n rfl (fun _ => rfl) ?_ | refine run_y (fun _ => rfl) rfl (fun _ => rfl) ?_ | refine run_seq ?_ | refine run_region ?_ | refine run_ops_nil ?_ | refine run_block ?_ | refine run_skip ?_ | refine run_inBlock ?_ | refine run_exit rfl ?_))
  refine run_ldN _ _ _ _ rfl (fun _ => by rfl) (fun _ => by rfl) (.inl (h2)) (by first | decide | exact Nat.le_refl _) (extract_whole rfl) ?_
  refine run_call rfl (fun _ => by rfl) (fun _ => by kernel_rfl) (opn_yes hT 1 sX (by rfl) 0 (by rfl) (by omega)) ?_
  rintro v H2 M4 ⟨rfl, c4, hr⟩
  obtain ⟨rfl, hT⟩ : v = .tuple #[.int .i64 0, .int .i64 0] ∧ M4 b = some S1.obj := hr
  replace h2 := c4 _ _ (by simpa using n2.symm) h2
  replace hch := hch.trans' c4 nb
  clear c4
  (repeat (first | first | refine run_zfa rfl (fun _ => by rfl) (fun _ => by rfl) ?_ | refine run_faz rfl (fun _ => by rfl) (fun _ => by rfl) ?_ | refine run_fa rfl (fun _ => by rfl) (fun _ => by rfl) ?_ | refine run_p (fun _ => rfl) rfl ?_ | refine run_n rfl (fun _ => rfl) ?_ | refine run_y (fun _ => rfl) rfl (fun _ => rfl) ?_ | refine run_seq ?_ | refine run_region ?_ | refine run_ops_nil ?_ | refine run_block ?_ | refine run_skip ?_ | refine run_inBlock ?_ | refine run_exit rfl ?_))
  refine run_call rfl (fun _ => by rfl) (fun _ => by kernel_rfl) (fork_ok hT 1 (by rfl) I1.bd) ?_
  rintro v H2 M4 ⟨rfl, c4, hr⟩
  obtain ⟨rfl, hT⟩ : v = .tuple #[.int .i64 2, .int .i64 0] ∧ M4 b = some S2.obj := hr
  replace h2 := c4 _ _ (by simpa using n2.symm) h2
  replace hch := hch.trans' c4 nb
  clear c4
  (repeat (first | first | refine run_zfa rfl (fun _ => by rfl) (fun _ => by rfl) ?_ | refine run_faz rfl (fun _ => by rfl) (fun _ => by rfl) ?_ | refine run_fa rfl (fun _ => by rfl) (fun _ => by rfl) ?_ | refine run_p (fun _ => rfl) rfl ?_ | refine run_n rfl (fun _ => rfl) ?_ | refine run_y (fun _ => rfl) rfl (fun _ => rfl) ?_ | refine run_seq ?_ | refine run_region ?_ | refine run_ops_nil ?_ | refine run_block ?_ | refine run_skip ?_ | refine run_inBlock ?_ | refine run_exit rfl ?_))
  refine run_call rfl (fun _ => by rfl) (fun _ => by kernel_rfl) (close_yes hT 1 0 I2.bd (by rfl)) ?_
  rintro v H2 M4 ⟨rfl, rfl, hT, c4⟩
  replace hT : M4 b = some S3.obj := hT
  replace h2 := c4 _ _ (by simpa using n2.symm) h2
  replace hch := hch.trans' c4 nb
  clear c4
  (repeat (first | first | refine run_zfa rfl (fun _ => by rfl) (fun _ => by rfl) ?_ | refine run_faz rfl (fun _ => by rfl) (fun _ => by rfl) ?_ | refine run_fa rfl (fun _ => by rfl) (fun _ => by rfl) ?_ | refine run_p (fun _ => rfl) rfl ?_ | refine run_n rfl (fun _ => rfl) ?_ | refine run_y (fun _ => rfl) rfl (fun _ => rfl) ?_ | refine run_seq ?_ | refine run_region ?_ | refine run_ops_nil ?_ | refine run_block ?_ | refine run_skip ?_ | refine run_inBlock ?_ | refine run_exit rfl ?_))
  refine run_newA (.cells Opn.zero.vals 41 (0, 0)) rfl (fun _ => by rfl) (fun _ => by kernel_rfl) (fun r7 M5 h7 k5 => ?_)
  have n7 := (k5 _ _ hT).2
  have n27 := (k5 _ _ h2).2
  replace hT := (k5 _ _ hT).1; replace h2 := (k5 _ _ h2).1
  have g7 := New.none hch k5 (by simp)
  replace hch := hch.new' k5
  clear k5
  refine run_stA _ _ _ _ (sX.vals) (fun _ => by rfl) (fun _ => by rfl) (fun _ => by rfl) h7 (by kernel_rfl) (by first | decide | exact Nat.le_refl _) (by kernel_rfl) (by kernel_rfl) (fun M6 h7 k6 => ?_)
  replace hT := k6 _ _ n7 hT; replace h2 := k6 _ _ n27 h2
  replace hch := hch.box' k6 g7
  clear k6
  (repeat (first | first | refine run_zfa rfl (fun _ => by rfl) (fun _ => by rfl) ?_ | refine run_faz rfl (fun _ => by rfl) (fun _ => by rfl) ?_ | refine run_fa rfl (fun _ => by rfl) (fun _ => by rfl) ?_ | refine run_p (fun _ => rfl) rfl ?_ | refine run_n rfl (fun _ => rfl) ?_ | refine run_y (fun _ => rfl) rfl (fun _ => rfl) ?_ | refine run_seq ?_ | refine run_region ?_ | refine run_ops_nil ?_ | refine run_block ?_ | refine run_skip ?_ | refine run_inBlock ?_ | refine run_exit rfl ?_))
  refine run_call rfl (fun _ => by rfl) (fun _ => by kernel_rfl) (get_yes hT 2 0 I3.bd (by rfl)) ?_
  rintro v H2 M7 ⟨rfl, rfl, c4⟩
  replace hT := c4 _ _ (by simp) hT
  replace h2 := c4 _ _ (by simp) h2
  replace h7 := c4 _ _ (by simp) h7
  replace hch := hch.trans c4
  clear c4
  (repeat (first | first | refine run_zfa rfl (fun _ => by rfl) (fun _ => by rfl) ?_ | refine run_faz rfl (fun _ => by rfl) (fun _ => by rfl) ?_ | refine run_fa rfl (fun _ => by rfl) (fun _ => by rfl) ?_ | refine run_p (fun _ => rfl) rfl ?_ | refine run_n rfl (fun _ => rfl) ?_ | refine run_y (fun _ => rfl) rfl (fun _ => rfl) ?_ | refine run_seq ?_ | refine run_region ?_ | refine run_ops_nil ?_ | refine run_block ?_ | refine run_skip ?_ | refine run_inBlock ?_ | refine run_exit rfl ?_))
  refine run_newA (.cells Opn.zero.vals 41 (0, 0)) rfl (fun _ => by rfl) (fun _ => by kernel_rfl) (fun r10 M8 h10 k8 => ?_)
  have n10 := (k8 _ _ hT).2
  have n210 := (k8 _ _ h2).2
  have n710 := (k8 _ _ h7).2
  replace hT := (k8 _ _ hT).1; replace h2 := (k8 _ _ h2).1; replace h7 := (k8 _ _ h7).1
  have g10 := New.none hch k8 (by simp)
  replace hch := hch.new' k8
  clear k8
  refine run_stA _ _ _ _ (sX.vals) (fun _ => by rfl) (fun _ => by rfl) (fun _ => by rfl) h10 (by kernel_rfl) (by first | decide | exact Nat.le_refl _) (by kernel_rfl) (by kernel_rfl) (fun M9 h10 k9 => ?_)
  replace hT := k9 _ _ n10 hT; replace h2 := k9 _ _ n210 h2; replace h7 := k9 _ _ n710 h7
  replace hch := hch.box' k9 g10
  clear k9
  (repeat (first | first | refine run_zfa rfl (fun _ => by rfl) (fun _ => by rfl) ?_ | refine run_faz rfl (fun _ => by rfl) (fun _ => by rfl) ?_ | refine run_fa rfl (fun _ => by rfl) (fun _ => by rfl) ?_ | refine run_p (fun _ => rfl) rfl ?_ | refine run_n rfl (fun _ => rfl) ?_ | refine run_y (fun _ => rfl) rfl (fun _ => rfl) ?_ | refine run_seq ?_ | refine run_region ?_ | refine run_ops_nil ?_ | refine run_block ?_ | refine run_skip ?_ | refine run_inBlock ?_ | refine run_exit rfl ?_))
  refine run_call rfl (fun _ => by rfl) (fun _ => by kernel_rfl) (exit_ok hT 2 7 (by rfl) (by decide) I3.bd) ?_
  rintro v H2 M10 ⟨u, rfl, rfl, hm, hT, c4⟩
  replace hT : M10 b = some S4.obj := hT
  replace h2 := c4 _ _ (by simpa using n2.symm) h2
  replace h7 := c4 _ _ (by simpa using n7.symm) h7
  replace h10 := c4 _ _ (by simpa using n10.symm) h10
  replace hch := hch.trans' c4 nb
  clear c4
  rw [gone3] at hm
  (repeat (first | first | refine run_zfa rfl (fun _ => by rfl) (fun _ => by rfl) ?_ | refine run_faz rfl (fun _ => by rfl) (fun _ => by rfl) ?_ | refine run_fa rfl (fun _ => by rfl) (fun _ => by rfl) ?_ | refine run_p (fun _ => rfl) rfl ?_ | refine run_n rfl (fun _ => rfl) ?_ | refine run_y (fun _ => rfl) rfl (fun _ => rfl) ?_ | refine run_seq ?_ | refine run_region ?_ | refine run_ops_nil ?_ | refine run_block ?_ | refine run_skip ?_ | refine run_inBlock ?_ | refine run_exit rfl ?_))
  refine run_call rfl (fun _ => by rfl) (fun _ => by kernel_rfl) (wait_ok hT 1 (by rfl)) ?_
  rintro v H2 M11 ⟨rfl, c4, hr⟩
  obtain ⟨rfl, hT⟩ : v = .tuple #[.int .i64 2, .int .i64 7, .bool false, .int .i64 0] ∧ M11 b = some S5.obj := hr
  replace h2 := c4 _ _ (by simpa using n2.symm) h2
  replace h7 := c4 _ _ (by simpa using n7.symm) h7
  replace h10 := c4 _ _ (by simpa using n10.symm) h10
  replace hm := hm.ch c4
  replace hch := hch.trans' c4 nb
  clear c4
  (repeat (first | first | refine run_zfa rfl (fun _ => by rfl) (fun _ => by rfl) ?_ | refine run_faz rfl (fun _ => by rfl) (fun _ => by rfl) ?_ | refine run_fa rfl (fun _ => by rfl) (fun _ => by rfl) ?_ | refine run_p (fun _ => rfl) rfl ?_ | refine run_n rfl (fun _ => rfl) ?_ | refine run_y (fun _ => rfl) rfl (fun _ => rfl) ?_ | refine run_seq ?_ | refine run_region ?_ | refine run_ops_nil ?_ | refine run_block ?_ | refine run_skip ?_ | refine run_inBlock ?_ | refine run_exit rfl ?_))
  refine run_call rfl (fun _ => by rfl) (fun _ => by kernel_rfl) (wait_ok hT 1 (by rfl)) ?_
  rintro v H2 M12 ⟨rfl, c4, hr⟩
  obtain ⟨rfl, hT⟩ : v = .tuple #[.int .i64 0, .int .i64 0, .bool false, .int .i64 23] ∧ M12 b = some S5.obj := hr
  replace h2 := c4 _ _ (by simpa using n2.symm) h2
  replace h7 := c4 _ _ (by simpa using n7.symm) h7
  replace h10 := c4 _ _ (by simpa using n10.symm) h10
  replace hm := hm.ch c4
  replace hch := hch.trans' c4 nb
  clear c4
  obtain ⟨bu, cap, cs, rfl, hcs, hcap, hu, htk⟩ := Own.at hm.1 1 rfl (by omega) (by omega)
  have hex : cs.extract 0 (0 + 7) = sX.vals := take_ext (ys := sX.vals.toList) htk
  (repeat (first | first | refine run_zfa rfl (fun _ => by rfl) (fun _ => by rfl) ?_ | refine run_faz rfl (fun _ => by rfl) (fun _ => by rfl) ?_ | refine run_fa rfl (fun _ => by rfl) (fun _ => by rfl) ?_ | refine run_p (fun _ => rfl) rfl ?_ | refine run_n rfl (fun _ => rfl) ?_ | refine run_y (fun _ => rfl) rfl (fun _ => rfl) ?_ | refine run_seq ?_ | refine run_region ?_ | refine run_ops_nil ?_ | refine run_block ?_ | refine run_skip ?_ | refine run_inBlock ?_ | refine run_exit rfl ?_))
  refine run_quiet (l2 := ?l2) (by kernel_rfl) (by kernel_rfl) ?hq ?h
  case hq =>
    (repeat (first | first | refine ql_zfa rfl (fun _ => by rfl) (fun _ => by rfl) ?_ | refine ql_faz rfl (fun _ => by rfl) (fun _ => by rfl) ?_ | refine ql_fa rfl (fun _ => by rfl) (fun _ => by rfl) ?_ | refine ql_p (fun _ => rfl) rfl ?_ | refine ql_n rfl (fun _ => rfl) ?_ | refine ql_y (fun _ => rfl) rfl (fun _ => rfl) ?_))
    refine ql_ldN _ _ _ _ rfl (fun _ => by rfl) (fun _ => by rfl) (.inl (h7)) (by first | decide | exact Nat.le_refl _) (extract_whole rfl) ?_
    refine ql_ldN _ _ _ _ rfl (fun _ => by rfl) (fun _ => by rfl) (.inl (h2)) (by first | decide | exact Nat.le_refl _) (extract_whole rfl) ?_
    refine ql_eqs (eq41r sX) rfl (fun _ => by rfl) (fun _ => by rfl) (fun _ => by rfl) ?_
    (repeat (first | first | refine ql_zfa rfl (fun _ => by rfl) (fun _ => by rfl) ?_ | refine ql_faz rfl (fun _ => by rfl) (fun _ => by rfl) ?_ | refine ql_fa rfl (fun _ => by rfl) (fun _ => by rfl) ?_ | refine ql_p (fun _ => rfl) rfl ?_ | refine ql_n rfl (fun _ => rfl) ?_ | refine ql_y (fun _ => rfl) rfl (fun _ => rfl) ?_))
    refine ql_ldN _ _ _ _ rfl (fun _ => by rfl) (fun _ => by rfl) (.inl (h10)) (by first | decide | exact Nat.le_refl _) (extract_whole rfl) ?_
    refine ql_ldN _ _ _ _ rfl (fun _ => by rfl) (fun _ => by rfl) (.inl (h2)) (by first | decide | exact Nat.le_refl _) (extract_whole rfl) ?_
    refine ql_eqs (eq41r sX) rfl (fun _ => by rfl) (fun _ => by rfl) (fun _ => by rfl) ?_
    (repeat (first | first | refine ql_zfa rfl (fun _ => by rfl) (fun _ => by rfl) ?_ | refine ql_faz rfl (fun _ => by rfl) (fun _ => by rfl) ?_ | refine ql_fa rfl (fun _ => by rfl) (fun _ => by rfl) ?_ | refine ql_p (fun _ => rfl) rfl ?_ | refine ql_n rfl (fun _ => rfl) ?_ | refine ql_y (fun _ => rfl) rfl (fun _ => rfl) ?_))
    refine ql_len rfl (fun _ => by rfl) (fun _ => by rfl) ?_
    (repeat (first | first | refine ql_zfa rfl (fun _ => by rfl) (fun _ => by rfl) ?_ | refine ql_faz rfl (fun _ => by rfl) (fun _ => by rfl) ?_ | refine ql_fa rfl (fun _ => by rfl) (fun _ => by rfl) ?_ | refine ql_p (fun _ => rfl) rfl ?_ | refine ql_n rfl (fun _ => rfl) ?_ | refine ql_y (fun _ => rfl) rfl (fun _ => rfl) ?_))
    refine ql_ldN _ _ _ sX.vals rfl (fun _ => by rfl) (fun _ => by rfl) (.inl hu) (by rw [hcs]; omega) hex ?_
    refine ql_ldN _ _ _ _ rfl (fun _ => by rfl) (fun _ => by rfl) (.inl (h2)) (by first | decide | exact Nat.le_refl _) (extract_whole rfl) ?_
    refine ql_eqs (eq41r sX) rfl (fun _ => by rfl) (fun _ => by rfl) (fun _ => by rfl) ?_
    (repeat (first | first | refine ql_zfa rfl (fun _ => by rfl) (fun _ => by rfl) ?_ | refine ql_faz rfl (fun _ => by rfl) (fun _ => by rfl) ?_ | refine ql_fa rfl (fun _ => by rfl) (fun _ => by rfl) ?_ | refine ql_p (fun _ => rfl) rfl ?_ | refine ql_n rfl (fun _ => rfl) ?_ | refine ql_y (fun _ => rfl) rfl (fun _ => rfl) ?_))
    exact .nil
  case h =>
  exact run_retc Try.func7 (fun _ => by kernel_rfl) (⟨rfl, rfl, hch⟩)
end Go.Proofs.Ytimaipclgmcekaa
