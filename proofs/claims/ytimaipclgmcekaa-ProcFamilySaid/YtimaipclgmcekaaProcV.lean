/- ProcFamily, walked. -/
import Derived.Test.YtimaipclgmcekaaProcU
import Derived.Test.YtimaipclgmcekaaCamP
namespace Go.Proofs.Ytimaipclgmcekaa
open Go.Cam
set_option maxRecDepth 100000
theorem runs2 {T : Tb} {p : Nat} (h : T.st p = 2) : T.runs p = false := by
  unfold Tb.runs; rw [Int.toNat_natCast, h]; simp
def seenC (i o : Nat) : Value := .bool (decide (2 ≤ o ∧ o ≤ i))
instance : ZA Try.prog 34 (tab 9 (seenC 1)) := ⟨.agg (tab 9 (seenC 1)), by kernel_rfl, rfl⟩
theorem seen_put (i : Nat) (h : 1 ≤ i) : setL (tab 9 (seenC i)) ((i + 1) * 1) [.bool true] = tab 9 (seenC (i + 1)) :=
  setL_tab1 (by simp [seenC]; omega) fun q _ hq => by
    unfold seenC
    congr 1
    simp only [decide_eq_decide]
    omega
set_option maxHeartbeats 8000000 in
theorem family_ok {H M : Heap} (lv ov : Value) (ls os : List Int) (hl : Ints H lv ls) (ho : Ints H ov os) :
    ACalls Try.prog 3 #[lv, ov] H M (fun v H' M' => v = .bool true ∧ H' = H ∧ Ch [] M M') := by
  obtain ⟨lb, lc, rfl, hlc, hlr⟩ := hl
  obtain ⟨obb, oc, rfl, hoc, hor⟩ := ho
  refine enter (args := [_, _]) Try.func3 rfl rfl (by show (2 : Nat) ≤ 196; decide) ?_
  (repeat (first | first | refine run_zfa rfl (fun _ => by rfl) (fun _ => by rfl) ?_ | refine run_faz rfl (fun _ => by rfl) (fun _ => by rfl) ?_ | refine run_fa rfl (fun _ => by rfl) (fun _ => by rfl) ?_ | refine run_p (fun _ => rfl) rfl ?_ | refine run_n rfl (fun _ => rfl) ?_ | refine run_y (fun _ => rfl) rfl (fun _ => rfl) ?_ | refine run_seq ?_ | refine run_region ?_ | refine run_ops_nil ?_ | refine run_block ?_ | refine run_skip ?_ | refine run_inBlock ?_ | refine run_exit rfl ?_))
  refine run_call rfl (fun _ => by rfl) (fun _ => by kernel_rfl) (shown_ok) ?_
  rintro v H1 M1 ⟨rfl, rfl, c0⟩
  (repeat (first | first | refine run_zfa rfl (fun _ => by rfl) (fun _ => by rfl) ?_ | refine run_faz rfl (fun _ => by rfl) (fun _ => by rfl) ?_ | refine run_fa rfl (fun _ => by rfl) (fun _ => by rfl) ?_ | refine run_p (fun _ => rfl) rfl ?_ | refine run_n rfl (fun _ => rfl) ?_ | refine run_y (fun _ => rfl) rfl (fun _ => rfl) ?_ | refine run_seq ?_ | refine run_region ?_ | refine run_ops_nil ?_ | refine run_block ?_ | refine run_skip ?_ | refine run_inBlock ?_ | refine run_exit rfl ?_))
  refine run_call rfl (fun _ => by rfl) (fun _ => by kernel_rfl) (new_ok) ?_
  rintro v H2 M2 ⟨b, rfl, rfl, hT, k1⟩
  have nb := New.none c0 k1 (by simp)
  have c2 := c0.new' k1
  clear k1 c0
  (repeat (first | first | refine run_zfa rfl (fun _ => by rfl) (fun _ => by rfl) ?_ | refine run_faz rfl (fun _ => by rfl) (fun _ => by rfl) ?_ | refine run_fa rfl (fun _ => by rfl) (fun _ => by rfl) ?_ | refine run_p (fun _ => rfl) rfl ?_ | refine run_n rfl (fun _ => rfl) ?_ | refine run_y (fun _ => rfl) rfl (fun _ => rfl) ?_ | refine run_seq ?_ | refine run_region ?_ | refine run_ops_nil ?_ | refine run_block ?_ | refine run_skip ?_ | refine run_inBlock ?_ | refine run_exit rfl ?_))
  refine run_cond _ (fun _ => by rfl) (fun hc => ?_) (fun hc => ?_)
  · cases hc
  (repeat (first | first | refine run_zfa rfl (fun _ => by rfl) (fun _ => by rfl) ?_ | refine run_faz rfl (fun _ => by rfl) (fun _ => by rfl) ?_ | refine run_fa rfl (fun _ => by rfl) (fun _ => by rfl) ?_ | refine run_p (fun _ => rfl) rfl ?_ | refine run_n rfl (fun _ => rfl) ?_ | refine run_y (fun _ => rfl) rfl (fun _ => rfl) ?_ | refine run_seq ?_ | refine run_region ?_ | refine run_ops_nil ?_ | refine run_block ?_ | refine run_skip ?_ | refine run_inBlock ?_ | refine run_exit rfl ?_))
  refine run_bs (#[Value.int .i64 1]) rfl (fun _ => by rfl) (by decide) (by decide) (fun _ => by kernel_rfl) (fun r3 M5 hY k5 => ?_)
  have hA : Mn M2 [b] 3 1 M5 (.slice (some ⟨r3, 0, none⟩) 1 1) (nums (seg 1 1)) := Mn.made hY k5 (Ch.refl _ _) (fun c hc => by rw [List.mem_singleton.1 hc]; exact ⟨_, hT⟩) (by rfl)
  have hch : Ch [b] M2 M5 := (Ch.refl _ _).new' k5
  replace hT := (k5 _ _ hT).1
  clear k5 hY
  (repeat (first | first | refine run_zfa rfl (fun _ => by rfl) (fun _ => by rfl) ?_ | refine run_faz rfl (fun _ => by rfl) (fun _ => by rfl) ?_ | refine run_fa rfl (fun _ => by rfl) (fun _ => by rfl) ?_ | refine run_p (fun _ => rfl) rfl ?_ | refine run_n rfl (fun _ => rfl) ?_ | refine run_y (fun _ => rfl) rfl (fun _ => rfl) ?_ | refine run_seq ?_ | refine run_region ?_ | refine run_ops_nil ?_ | refine run_block ?_ | refine run_skip ?_ | refine run_inBlock ?_ | refine run_exit rfl ?_))
  refine run_loopI (fun y : Nat × Value => [(0, .slice lb ls.length lc), (1, .slice obb os.length oc), (6, .pointer (some ⟨b, 0, none⟩)), (7, y.2), (8, .int .i64 y.1)])
    (fun y H1 M1 => y.1 ≤ 7 ∧ H1 = H2 ∧ (∃ T : Tb, M1 b = some T.obj ∧ Fam T (y.1 + 1) (seg 2 y.1)) ∧ Mn M2 [b] 3 1 M1 y.2 (nums (seg 1 (y.1 + 1))) ∧ Ch [b] M2 M1) (fun y => 10 - y.1) (0, .slice (some ⟨r3, 0, none⟩) 1 1) (by intro j; repeat (first | exact trivial | refine ⟨rfl, ?_⟩))
    ⟨by dsimp only; omega, rfl, ⟨S0, hT, Fam.start⟩, hA, hch⟩ ?_
  clear hT hA hch
  rintro ⟨i, av⟩ H5 M5 ⟨hi, rfl, ⟨T, hT, hF⟩, hA, hch⟩ next
  dsimp only at hi hF hA
  obtain ⟨ba, capa, ca, rfl, hca, hcapa, hab, hta, hba, hba0⟩ := hA.at (i + 1) (by rw [nums_len, seg_len]) (by omega) (by omega)
  have nba : ba ≠ b := fun e => hba (by rw [e]; exact in1)
  (repeat (first | first | refine run_zfa rfl (fun _ => by rfl) (fun _ => by rfl) ?_ | refine run_faz rfl (fun _ => by rfl) (fun _ => by rfl) ?_ | refine run_fa rfl (fun _ => by rfl) (fun _ => by rfl) ?_ | refine run_p (fun _ => rfl) rfl ?_ | refine run_n rfl (fun _ => rfl) ?_ | refine run_y (fun _ => rfl) rfl (fun _ => rfl) ?_ | refine run_seq ?_ | refine run_region ?_ | refine run_ops_nil ?_ | refine run_block ?_ | refine run_skip ?_ | refine run_inBlock ?_ | refine run_exit rfl ?_))
  refine run_len rfl (fun _ => by rfl) (fun _ => by rfl) ?_
  refine run_cut 5 (fun q : Bool => [(0, .slice lb ls.length lc), (1, .slice obb os.length oc), (6, .pointer (some ⟨b, 0, none⟩)), (7, .slice (some ⟨ba, 0, none⟩) (i + 1) capa), (8, .int .i64 i), (44, .bool q)]) (fun q => q = decide (i < ls.length ∧ i < 7)) (fun q hq => ?_) (fun K => ?_)
  · subst hq
    (repeat (first | first | refine run_zfa rfl (fun _ => by rfl) (fun _ => by rfl) ?_ | refine run_faz rfl (fun _ => by rfl) (fun _ => by rfl) ?_ | refine run_fa rfl (fun _ => by rfl) (fun _ => by rfl) ?_ | refine run_p (fun _ => rfl) rfl ?_ | refine run_n rfl (fun _ => rfl) ?_ | refine run_y (fun _ => rfl) rfl (fun _ => rfl) ?_ | refine run_seq ?_ | refine run_region ?_ | refine run_ops_nil ?_ | refine run_block ?_ | refine run_skip ?_ | refine run_inBlock ?_ | refine run_exit rfl ?_))
    refine run_if (fun _ => by rfl) (fun hc => ?_) (fun hc => ?_)
    · obtain ⟨hil, hi7⟩ := hc
      obtain ⟨lb', lo, lcs, lty, lfr, rfl, hH, hcell⟩ := hlc i hil
      have hr := hlr _ (List.getElem_mem hil)
      have hk := kindI_bd (n := ls[i]) (m := ((i + 1 : Nat) : Int)) (by omega)
      (repeat (first | first | refine run_zfa rfl (fun _ => by rfl) (fun _ => by rfl) ?_ | refine run_faz rfl (fun _ => by rfl) (fun _ => by rfl) ?_ | refine run_fa rfl (fun _ => by rfl) (fun _ => by rfl) ?_ | refine run_p (fun _ => rfl) rfl ?_ | refine run_n rfl (fun _ => rfl) ?_ | refine run_y (fun _ => rfl) rfl (fun _ => rfl) ?_ | refine run_seq ?_ | refine run_region ?_ | refine run_ops_nil ?_ | refine run_block ?_ | refine run_skip ?_ | refine run_inBlock ?_ | refine run_exit rfl ?_))
      refine run_ixs rfl (fun _ => by rfl) (fun _ => by rfl) (fun _ => by rfl) (by omega) (by omega) ?_
      simp only [Int.toNat_natCast, Nat.mul_one]
      refine run_ld _ _ _ rfl (fun _ => by rfl) (fun _ => by rfl) (.inr hH) (by exact hcell) ?_
      (repeat (first | first | refine run_zfa rfl (fun _ => by rfl) (fun _ => by rfl) ?_ | refine run_faz rfl (fun _ => by rfl) (fun _ => by rfl) ?_ | refine run_fa rfl (fun _ => by rfl) (fun _ => by rfl) ?_ | refine run_p (fun _ => rfl) rfl ?_ | refine run_n rfl (fun _ => rfl) ?_ | refine run_y (fun _ => rfl) rfl (fun _ => rfl) ?_ | refine run_seq ?_ | refine run_region ?_ | refine run_ops_nil ?_ | refine run_block ?_ | refine run_skip ?_ | refine run_inBlock ?_ | refine run_exit rfl ?_))
      refine run_len rfl (fun _ => by rfl) (fun _ => by rfl) ?_
      refine run_call rfl (fun _ => by rfl) (fun _ => by kernel_rfl) (kind_ok ls[i] ((i + 1 : Nat) : Int) hr.1 hr.2 (by omega)) ?_
      rintro v H7 M7 ⟨rfl, rfl, rfl⟩
      generalize hng : kindI ls[i] ((i + 1 : Nat) : Int) = q at *
      obtain ⟨q, rfl⟩ : ∃ m : Nat, q = m := ⟨q.toNat, by omega⟩
      (repeat (first | first | refine run_zfa rfl (fun _ => by rfl) (fun _ => by rfl) ?_ | refine run_faz rfl (fun _ => by rfl) (fun _ => by rfl) ?_ | refine run_fa rfl (fun _ => by rfl) (fun _ => by rfl) ?_ | refine run_p (fun _ => rfl) rfl ?_ | refine run_n rfl (fun _ => rfl) ?_ | refine run_y (fun _ => rfl) rfl (fun _ => rfl) ?_ | refine run_seq ?_ | refine run_region ?_ | refine run_ops_nil ?_ | refine run_block ?_ | refine run_skip ?_ | refine run_inBlock ?_ | refine run_exit rfl ?_))
      refine run_ixs rfl (fun _ => by rfl) (fun _ => by rfl) (fun _ => by rfl) (by omega) (by omega) ?_
      simp only [Int.toNat_natCast, Nat.zero_add, Nat.mul_one]
      refine run_ld _ _ _ rfl (fun _ => by rfl) (fun _ => by rfl) (.inl (hab)) (by exact by rw [take_get hta (by omega), nums_get (by rw [seg_len]; omega)]) ?_
      have hsg : (seg 1 (i + 1))[q]'(by rw [seg_len]; omega) = q + 1 := by simp [seg]
      rw [hsg]
      have hqr : q + 1 = 1 ∨ q + 1 ∈ seg 2 i := by
        by_cases e : q = 0
        · exact .inl (by omega)
        · exact .inr (seg_mem.2 (by omega))
      (repeat (first | first | refine run_zfa rfl (fun _ => by rfl) (fun _ => by rfl) ?_ | refine run_faz rfl (fun _ => by rfl) (fun _ => by rfl) ?_ | refine run_fa rfl (fun _ => by rfl) (fun _ => by rfl) ?_ | refine run_p (fun _ => rfl) rfl ?_ | refine run_n rfl (fun _ => rfl) ?_ | refine run_y (fun _ => rfl) rfl (fun _ => rfl) ?_ | refine run_seq ?_ | refine run_region ?_ | refine run_ops_nil ?_ | refine run_block ?_ | refine run_skip ?_ | refine run_inBlock ?_ | refine run_exit rfl ?_))
      refine run_call rfl (fun _ => by rfl) (fun _ => by kernel_rfl) (fork_ok hT ((q + 1 : Nat) : Int) (hF.run hqr) hF.inv.bd) ?_
      rw [hF.slot, if_pos (by omega)]
      rintro v H7 M8 ⟨rfl, c7, rfl, hT7⟩
      replace hA := hA.ch c7 (fun _ h => h)
      replace hch := hch.trans c7
      have hw : IntKind.i64.wrap ((i : Int) + 2) = ((i + 1 + 1 : Nat) : Int) := by rw [wrap_id (by omega) (by omega)]; omega
      (repeat (first | first | refine run_zfa rfl (fun _ => by rfl) (fun _ => by rfl) ?_ | refine run_faz rfl (fun _ => by rfl) (fun _ => by rfl) ?_ | refine run_fa rfl (fun _ => by rfl) (fun _ => by rfl) ?_ | refine run_p (fun _ => rfl) rfl ?_ | refine run_n rfl (fun _ => rfl) ?_ | refine run_y (fun _ => rfl) rfl (fun _ => rfl) ?_ | refine run_seq ?_ | refine run_region ?_ | refine run_ops_nil ?_ | refine run_block ?_ | refine run_skip ?_ | refine run_inBlock ?_ | refine run_exit rfl ?_))
      rw [hw]
      refine run_cond _ (fun _ => by rfl) (fun hc2 => ?_) (fun hc2 => ?_)
      · simp at hc2
      (repeat (first | first | refine run_zfa rfl (fun _ => by rfl) (fun _ => by rfl) ?_ | refine run_faz rfl (fun _ => by rfl) (fun _ => by rfl) ?_ | refine run_fa rfl (fun _ => by rfl) (fun _ => by rfl) ?_ | refine run_p (fun _ => rfl) rfl ?_ | refine run_n rfl (fun _ => rfl) ?_ | refine run_y (fun _ => rfl) rfl (fun _ => rfl) ?_ | refine run_seq ?_ | refine run_region ?_ | refine run_ops_nil ?_ | refine run_block ?_ | refine run_skip ?_ | refine run_inBlock ?_ | refine run_exit rfl ?_))
      refine run_bs (#[Value.int .i64 ((i + 1 + 1 : Nat) : Int)]) rfl (fun _ => by rfl) (by decide) (by decide) (fun _ => by kernel_rfl) (fun r8 M9 hY k8 => ?_)
      replace hT7 := (k8 _ _ hT7).1
      replace hA := hA.new k8
      replace hch := hch.new' k8
      clear k8
      refine run_app ([Value.int .i64 ((i + 1 + 1 : Nat) : Int)]) rfl (fun _ => by rfl) (fun _ => by rfl) (fun _ => by rfl) hA.own (.inl (hY)) (by exact rfl) (by first | decide | exact Nat.le_refl _ | simp) (by rfl) (by rfl) (by rw [nums_len, seg_len]; omega) (fun u' M10 ho ha => ?_)
      obtain ⟨hA', hch', hb'⟩ := hA.app hch (fun c hc => by rw [List.mem_singleton.1 hc]; exact ⟨_, hT7⟩) ho ha
      replace hT7 := hb' b in1 _ hT7
      (repeat (first | first | refine run_zfa rfl (fun _ => by rfl) (fun _ => by rfl) ?_ | refine run_faz rfl (fun _ => by rfl) (fun _ => by rfl) ?_ | refine run_fa rfl (fun _ => by rfl) (fun _ => by rfl) ?_ | refine run_p (fun _ => rfl) rfl ?_ | refine run_n rfl (fun _ => rfl) ?_ | refine run_y (fun _ => rfl) rfl (fun _ => rfl) ?_ | refine run_seq ?_ | refine run_region ?_ | refine run_ops_nil ?_ | refine run_block ?_ | refine run_skip ?_ | refine run_inBlock ?_ | refine run_exit rfl ?_))
      rw [wrap_nat (by omega)]
      exact run_keep _ (by intro j; repeat (first | exact trivial | refine ⟨rfl, ?_⟩)) (next (i + 1, u') _ _ ⟨by dsimp only; omega, rfl, ⟨_, hT7, hF.fork (m := i + 1) (by omega) (by omega)⟩, by dsimp only; rw [seg_snoc, nums_snoc]; exact hA', hch'⟩ (by dsimp only; omega))
    · clear next
      have hm8 := hF.m8
      apply run_join (fun y : Nat × Value => [(1, .slice obb os.length oc), (6, .pointer (some ⟨b, 0, none⟩)), (7, y.2)]) (fun y H1 M1 => 2 ≤ y.1 ∧ y.1 ≤ 8 ∧ H1 = H5 ∧ (∃ T : Tb, M1 b = some T.obj ∧ Fam T y.1 (seg 2 (y.1 - 1))) ∧ Mn M2 [b] 3 1 M1 y.2 (nums (seg 1 y.1)) ∧ Ch [b] M2 M1)
      case h =>
        intro K
        (repeat (first | first | refine run_zfa rfl (fun _ => by rfl) (fun _ => by rfl) ?_ | refine run_faz rfl (fun _ => by rfl) (fun _ => by rfl) ?_ | refine run_fa rfl (fun _ => by rfl) (fun _ => by rfl) ?_ | refine run_p (fun _ => rfl) rfl ?_ | refine run_n rfl (fun _ => rfl) ?_ | refine run_y (fun _ => rfl) rfl (fun _ => rfl) ?_ | refine run_seq ?_ | refine run_region ?_ | refine run_ops_nil ?_ | refine run_block ?_ | refine run_skip ?_ | refine run_inBlock ?_ | refine run_exit rfl ?_))
        refine run_call rfl (fun _ => by rfl) (fun _ => by kernel_rfl) (fork_ok hT 1 (hF.run (.inl rfl)) hF.inv.bd) ?_
        rw [hF.slot]
        by_cases hm : i + 1 < 8
        · rw [if_pos hm]
          rintro v H7 M8 ⟨eH, c7, rfl, hT7⟩
          rw [eH]
          clear eH
          replace hA := hA.ch c7 (fun _ h => h)
          replace hch := hch.trans c7
          (repeat (first | first | refine run_zfa rfl (fun _ => by rfl) (fun _ => by rfl) ?_ | refine run_faz rfl (fun _ => by rfl) (fun _ => by rfl) ?_ | refine run_fa rfl (fun _ => by rfl) (fun _ => by rfl) ?_ | refine run_p (fun _ => rfl) rfl ?_ | refine run_n rfl (fun _ => rfl) ?_ | refine run_y (fun _ => rfl) rfl (fun _ => rfl) ?_ | refine run_seq ?_ | refine run_region ?_ | refine run_ops_nil ?_ | refine run_block ?_ | refine run_skip ?_ | refine run_inBlock ?_ | refine run_exit rfl ?_))
          refine run_len rfl (fun _ => by rfl) (fun _ => by rfl) ?_
          (repeat (first | first | refine run_zfa rfl (fun _ => by rfl) (fun _ => by rfl) ?_ | refine run_faz rfl (fun _ => by rfl) (fun _ => by rfl) ?_ | refine run_fa rfl (fun _ => by rfl) (fun _ => by rfl) ?_ | refine run_p (fun _ => rfl) rfl ?_ | refine run_n rfl (fun _ => rfl) ?_ | refine run_y (fun _ => rfl) rfl (fun _ => rfl) ?_ | refine run_seq ?_ | refine run_region ?_ | refine run_ops_nil ?_ | refine run_block ?_ | refine run_skip ?_ | refine run_inBlock ?_ | refine run_exit rfl ?_))
          refine run_cond _ (fun _ => by rfl) (fun hc2 => ?_) (fun hc2 => ?_)
          · simp at hc2; omega
          (repeat (first | first | refine run_zfa rfl (fun _ => by rfl) (fun _ => by rfl) ?_ | refine run_faz rfl (fun _ => by rfl) (fun _ => by rfl) ?_ | refine run_fa rfl (fun _ => by rfl) (fun _ => by rfl) ?_ | refine run_p (fun _ => rfl) rfl ?_ | refine run_n rfl (fun _ => rfl) ?_ | refine run_y (fun _ => rfl) rfl (fun _ => rfl) ?_ | refine run_seq ?_ | refine run_region ?_ | refine run_ops_nil ?_ | refine run_block ?_ | refine run_skip ?_ | refine run_inBlock ?_ | refine run_exit rfl ?_))
          refine run_cond _ (fun _ => by rfl) (fun hc3 => ?_) (fun hc3 => ?_)
          · (repeat (first | first | refine run_zfa rfl (fun _ => by rfl) (fun _ => by rfl) ?_ | refine run_faz rfl (fun _ => by rfl) (fun _ => by rfl) ?_ | refine run_fa rfl (fun _ => by rfl) (fun _ => by rfl) ?_ | refine run_p (fun _ => rfl) rfl ?_ | refine run_n rfl (fun _ => rfl) ?_ | refine run_y (fun _ => rfl) rfl (fun _ => rfl) ?_ | refine run_seq ?_ | refine run_region ?_ | refine run_ops_nil ?_ | refine run_block ?_ | refine run_skip ?_ | refine run_inBlock ?_ | refine run_exit rfl ?_))
            refine run_len rfl (fun _ => by rfl) (fun _ => by rfl) ?_
            (repeat (first | first | refine run_zfa rfl (fun _ => by rfl) (fun _ => by rfl) ?_ | refine run_faz rfl (fun _ => by rfl) (fun _ => by rfl) ?_ | refine run_fa rfl (fun _ => by rfl) (fun _ => by rfl) ?_ | refine run_p (fun _ => rfl) rfl ?_ | refine run_n rfl (fun _ => rfl) ?_ | refine run_y (fun _ => rfl) rfl (fun _ => rfl) ?_ | refine run_seq ?_ | refine run_region ?_ | refine run_ops_nil ?_ | refine run_block ?_ | refine run_skip ?_ | refine run_inBlock ?_ | refine run_exit rfl ?_))
            rw [wrap_nat (by omega)]
            refine run_bs (#[Value.int .i64 ((i + 1 + 1 : Nat) : Int)]) rfl (fun _ => by rfl) (by decide) (by decide) (fun _ => by kernel_rfl) (fun r8 M9 hY k8 => ?_)
            replace hT7 := (k8 _ _ hT7).1
            replace hA := hA.new k8
            replace hch := hch.new' k8
            clear k8
            refine run_app ([Value.int .i64 ((i + 1 + 1 : Nat) : Int)]) rfl (fun _ => by rfl) (fun _ => by rfl) (fun _ => by rfl) hA.own (.inl (hY)) (by exact rfl) (by first | decide | exact Nat.le_refl _ | simp) (by rfl) (by rfl) (by rw [nums_len, seg_len]; omega) (fun u' M10 ho ha => ?_)
            obtain ⟨hA', hch', hb'⟩ := hA.app hch (fun c hc => by rw [List.mem_singleton.1 hc]; exact ⟨_, hT7⟩) ho ha
            replace hT7 := hb' b in1 _ hT7
            (repeat (first | first | refine run_zfa rfl (fun _ => by rfl) (fun _ => by rfl) ?_ | refine run_faz rfl (fun _ => by rfl) (fun _ => by rfl) ?_ | refine run_fa rfl (fun _ => by rfl) (fun _ => by rfl) ?_ | refine run_p (fun _ => rfl) rfl ?_ | refine run_n rfl (fun _ => rfl) ?_ | refine run_y (fun _ => rfl) rfl (fun _ => rfl) ?_ | refine run_seq ?_ | refine run_region ?_ | refine run_ops_nil ?_ | refine run_block ?_ | refine run_skip ?_ | refine run_inBlock ?_ | refine run_exit rfl ?_))
            exact run_keep [_, _, _] (by intro j; repeat (first | exact trivial | refine ⟨rfl, ?_⟩)) (K (i + 2, u') _ _ ⟨by dsimp only; omega, by dsimp only; omega, rfl, ⟨_, hT7, hF.fork (m := i + 1) (p := 1) (by omega) (by omega)⟩, by dsimp only; rw [show i + 2 = (i + 1) + 1 by omega, seg_snoc, nums_snoc]; exact hA', hch'⟩)
          · cases hc3
        · have hi7 : i = 7 := by omega
          rw [if_neg hm]
          rintro v H7 M8 ⟨eH, c7, rfl, hT7⟩
          rw [eH]
          clear eH
          replace hA := hA.ch c7 (fun _ h => h)
          replace hch := hch.trans c7
          (repeat (first | first | refine run_zfa rfl (fun _ => by rfl) (fun _ => by rfl) ?_ | refine run_faz rfl (fun _ => by rfl) (fun _ => by rfl) ?_ | refine run_fa rfl (fun _ => by rfl) (fun _ => by rfl) ?_ | refine run_p (fun _ => rfl) rfl ?_ | refine run_n rfl (fun _ => rfl) ?_ | refine run_y (fun _ => rfl) rfl (fun _ => rfl) ?_ | refine run_seq ?_ | refine run_region ?_ | refine run_ops_nil ?_ | refine run_block ?_ | refine run_skip ?_ | refine run_inBlock ?_ | refine run_exit rfl ?_))
          refine run_len rfl (fun _ => by rfl) (fun _ => by rfl) ?_
          (repeat (first | first | refine run_zfa rfl (fun _ => by rfl) (fun _ => by rfl) ?_ | refine run_faz rfl (fun _ => by rfl) (fun _ => by rfl) ?_ | refine run_fa rfl (fun _ => by rfl) (fun _ => by rfl) ?_ | refine run_p (fun _ => rfl) rfl ?_ | refine run_n rfl (fun _ => rfl) ?_ | refine run_y (fun _ => rfl) rfl (fun _ => rfl) ?_ | refine run_seq ?_ | refine run_region ?_ | refine run_ops_nil ?_ | refine run_block ?_ | refine run_skip ?_ | refine run_inBlock ?_ | refine run_exit rfl ?_))
          refine run_cond _ (fun _ => by rfl) (fun hc2 => ?_) (fun hc2 => ?_)
          · simp at hc2; omega
          (repeat (first | first | refine run_zfa rfl (fun _ => by rfl) (fun _ => by rfl) ?_ | refine run_faz rfl (fun _ => by rfl) (fun _ => by rfl) ?_ | refine run_fa rfl (fun _ => by rfl) (fun _ => by rfl) ?_ | refine run_p (fun _ => rfl) rfl ?_ | refine run_n rfl (fun _ => rfl) ?_ | refine run_y (fun _ => rfl) rfl (fun _ => rfl) ?_ | refine run_seq ?_ | refine run_region ?_ | refine run_ops_nil ?_ | refine run_block ?_ | refine run_skip ?_ | refine run_inBlock ?_ | refine run_exit rfl ?_))
          refine run_cond _ (fun _ => by rfl) (fun hc3 => ?_) (fun hc3 => ?_)
          · cases hc3
          · (repeat (first | first | refine run_zfa rfl (fun _ => by rfl) (fun _ => by rfl) ?_ | refine run_faz rfl (fun _ => by rfl) (fun _ => by rfl) ?_ | refine run_fa rfl (fun _ => by rfl) (fun _ => by rfl) ?_ | refine run_p (fun _ => rfl) rfl ?_ | refine run_n rfl (fun _ => rfl) ?_ | refine run_y (fun _ => rfl) rfl (fun _ => rfl) ?_ | refine run_seq ?_ | refine run_region ?_ | refine run_ops_nil ?_ | refine run_block ?_ | refine run_skip ?_ | refine run_inBlock ?_ | refine run_exit rfl ?_))
            exact run_keep [_, _, _] (by intro j; repeat (first | exact trivial | refine ⟨rfl, ?_⟩)) (K (i + 1, _) _ _ ⟨by dsimp only; omega, by dsimp only; omega, rfl, ⟨_, hT7, hF⟩, hA, hch⟩)
      case K =>
      clear hT hF hA hch hc hm8 hi hab hta hca hcapa hba hba0 nba hlc hlr
      rintro ⟨m, av⟩ H6 M6 ⟨hm2, hm8, rfl, ⟨T, hT, hF⟩, hA, hch⟩
      dsimp only at hm2 hm8 hF hA
      obtain ⟨ba, capa, ca, rfl, hca, hcapa, hab, hta, hba, hba0⟩ := hA.at m (by rw [nums_len, seg_len]) (by omega) (by omega)
      clear hA
      refine run_bs0 rfl (fun _ => by rfl) (fun r9 M7 h9 k9 => ?_)
      have hS := Mn.nil (sz := 1) h9 k9 hch (fun c hc => by rw [List.mem_singleton.1 hc]; exact ⟨_, hT⟩)
      replace hT := (k9 _ _ hT).1; replace hab := (k9 _ _ hab).1
      replace hch := hch.new' k9
      clear k9
      (repeat (first | first | refine run_zfa rfl (fun _ => by rfl) (fun _ => by rfl) ?_ | refine run_faz rfl (fun _ => by rfl) (fun _ => by rfl) ?_ | refine run_fa rfl (fun _ => by rfl) (fun _ => by rfl) ?_ | refine run_p (fun _ => rfl) rfl ?_ | refine run_n rfl (fun _ => rfl) ?_ | refine run_y (fun _ => rfl) rfl (fun _ => rfl) ?_ | refine run_seq ?_ | refine run_region ?_ | refine run_ops_nil ?_ | refine run_block ?_ | refine run_skip ?_ | refine run_inBlock ?_ | refine run_exit rfl ?_))
      refine run_slc 1 m rfl (fun _ => by rfl) (fun _ => by rfl) (fun _ => by first | rfl | exact ⟨_, rfl⟩) (fun _ => by first | rfl | exact ⟨_, rfl⟩) (by omega) (by omega) (by omega) (fun off' ho1 ho2 => ?_)
      rw [ho1 (by omega)]
      have hys : ca.extract (0 + 1 * 1) (0 + 1 * 1 + (m - 1) * 1) = (nums (seg 2 (m - 1))).toArray := by
        have e1 : seg 1 m = 1 :: seg 2 (m - 1) := by
          have := seg_cons 1 (m - 1)
          rwa [show m - 1 + 1 = m by omega] at this
        rw [extract_part (N := m * 1) (a := 0 + 1 * 1) (m := (m - 1) * 1) hta (by omega), e1]
        congr 1
        show ((nums (seg 2 (m - 1)))).take ((m - 1) * 1) = _
        exact List.take_of_length_le (by rw [nums_len, seg_len]; omega)
      refine run_app (nums (seg 2 (m - 1))) rfl (fun _ => by rfl) (fun _ => by rfl) (fun _ => by rfl) hS.own (.inl hab) (by exact hys) (by omega) (by rw [nums_len, seg_len]) (nums_one _) (by simp; omega) (fun tv M8 ho ha => ?_)
      obtain ⟨hD, hch, hb'⟩ := hS.app hch (fun c hc => by rw [List.mem_singleton.1 hc]; exact ⟨_, hT⟩) ho ha
      replace hT := hb' b in1 _ hT
      rw [List.nil_append] at hD
      clear hb' ho ha hS h9 hab hys ho1 ho2
      (repeat (first | first | refine run_zfa rfl (fun _ => by rfl) (fun _ => by rfl) ?_ | refine run_faz rfl (fun _ => by rfl) (fun _ => by rfl) ?_ | refine run_fa rfl (fun _ => by rfl) (fun _ => by rfl) ?_ | refine run_p (fun _ => rfl) rfl ?_ | refine run_n rfl (fun _ => rfl) ?_ | refine run_y (fun _ => rfl) rfl (fun _ => rfl) ?_ | refine run_seq ?_ | refine run_region ?_ | refine run_ops_nil ?_ | refine run_block ?_ | refine run_skip ?_ | refine run_inBlock ?_ | refine run_exit rfl ?_))
      refine run_loopI (fun y : Nat × List Nat × Value => [(1, .slice obb os.length oc), (6, .pointer (some ⟨b, 0, none⟩)), (7, .slice (some ⟨ba, 0, none⟩) m capa), (13, y.2.2), (14, .int .i64 y.1)])
        (fun y H1 M1 => y.1 + y.2.1.length = m - 1 ∧ H1 = H6 ∧ (∃ T : Tb, M1 b = some T.obj ∧ Fam T m y.2.1) ∧ Mn M2 [b] 3 1 M1 y.2.2 (nums y.2.1) ∧ Ch [b] M2 M1) (fun y => y.2.1.length) (0, seg 2 (m - 1), tv) (by intro j; repeat (first | exact trivial | refine ⟨rfl, ?_⟩))
        ⟨by dsimp only; rw [seg_len]; omega, rfl, ⟨T, hT, hF⟩, hD, hch⟩ ?_
      clear hT hD hch hF
      rintro ⟨i2, xs, tv⟩ H7 M7 ⟨hix, rfl, ⟨T, hT, hF⟩, hD, hch⟩ next
      dsimp only at hix hF hD
      obtain ⟨tb0, tcap0, rfl⟩ := hD.own.len xs.length (nums_len xs) (by omega)
      (repeat (first | first | refine run_zfa rfl (fun _ => by rfl) (fun _ => by rfl) ?_ | refine run_faz rfl (fun _ => by rfl) (fun _ => by rfl) ?_ | refine run_fa rfl (fun _ => by rfl) (fun _ => by rfl) ?_ | refine run_p (fun _ => rfl) rfl ?_ | refine run_n rfl (fun _ => rfl) ?_ | refine run_y (fun _ => rfl) rfl (fun _ => rfl) ?_ | refine run_seq ?_ | refine run_region ?_ | refine run_ops_nil ?_ | refine run_block ?_ | refine run_skip ?_ | refine run_inBlock ?_ | refine run_exit rfl ?_))
      refine run_len rfl (fun _ => by rfl) (fun _ => by rfl) ?_
      (repeat (first | first | refine run_zfa rfl (fun _ => by rfl) (fun _ => by rfl) ?_ | refine run_faz rfl (fun _ => by rfl) (fun _ => by rfl) ?_ | refine run_fa rfl (fun _ => by rfl) (fun _ => by rfl) ?_ | refine run_p (fun _ => rfl) rfl ?_ | refine run_n rfl (fun _ => rfl) ?_ | refine run_y (fun _ => rfl) rfl (fun _ => rfl) ?_ | refine run_seq ?_ | refine run_region ?_ | refine run_ops_nil ?_ | refine run_block ?_ | refine run_skip ?_ | refine run_inBlock ?_ | refine run_exit rfl ?_))
      refine run_if (fun _ => by rfl) (fun hc => ?_) (fun hc => ?_)
      · have hx0 : 0 < xs.length := by omega
        obtain ⟨bt, capt, ct, hte, hct, hcapt, htb, htt, hbt, hbt0⟩ := hD.at xs.length (nums_len xs) hx0 (by omega)
        simp only [Value.slice.injEq, true_and] at hte
        obtain ⟨rfl, rfl⟩ := hte
        have nbt : bt ≠ b := fun e => hbt (by rw [e]; exact in1)
        (repeat (first | first | refine run_zfa rfl (fun _ => by rfl) (fun _ => by rfl) ?_ | refine run_faz rfl (fun _ => by rfl) (fun _ => by rfl) ?_ | refine run_fa rfl (fun _ => by rfl) (fun _ => by rfl) ?_ | refine run_p (fun _ => rfl) rfl ?_ | refine run_n rfl (fun _ => rfl) ?_ | refine run_y (fun _ => rfl) rfl (fun _ => rfl) ?_ | refine run_seq ?_ | refine run_region ?_ | refine run_ops_nil ?_ | refine run_block ?_ | refine run_skip ?_ | refine run_inBlock ?_ | refine run_exit rfl ?_))
        apply run_join (fun a : Nat => [(1, .slice obb os.length oc), (6, .pointer (some ⟨b, 0, none⟩)), (7, .slice (some ⟨ba, 0, none⟩) m capa), (13, .slice (some ⟨bt, 0, none⟩) xs.length tcap0), (14, .int .i64 i2), (15, .int .i64 a)]) (fun a H1 M1 => a < xs.length ∧ H1 = H7 ∧ M1 = M7)
        case h =>
          intro K
          (repeat (first | first | refine run_zfa rfl (fun _ => by rfl) (fun _ => by rfl) ?_ | refine run_faz rfl (fun _ => by rfl) (fun _ => by rfl) ?_ | refine run_fa rfl (fun _ => by rfl) (fun _ => by rfl) ?_ | refine run_p (fun _ => rfl) rfl ?_ | refine run_n rfl (fun _ => rfl) ?_ | refine run_y (fun _ => rfl) rfl (fun _ => rfl) ?_ | refine run_seq ?_ | refine run_region ?_ | refine run_ops_nil ?_ | refine run_block ?_ | refine run_skip ?_ | refine run_inBlock ?_ | refine run_exit rfl ?_))
          refine run_len rfl (fun _ => by rfl) (fun _ => by rfl) ?_
          (repeat (first | first | refine run_zfa rfl (fun _ => by rfl) (fun _ => by rfl) ?_ | refine run_faz rfl (fun _ => by rfl) (fun _ => by rfl) ?_ | refine run_fa rfl (fun _ => by rfl) (fun _ => by rfl) ?_ | refine run_p (fun _ => rfl) rfl ?_ | refine run_n rfl (fun _ => rfl) ?_ | refine run_y (fun _ => rfl) rfl (fun _ => rfl) ?_ | refine run_seq ?_ | refine run_region ?_ | refine run_ops_nil ?_ | refine run_block ?_ | refine run_skip ?_ | refine run_inBlock ?_ | refine run_exit rfl ?_))
          refine run_if (fun _ => by rfl) (fun hc2 => ?_) (fun hc2 => ?_)
          · obtain ⟨lb', lo, lcs, lty, lfr, ebb, hH, hcell⟩ := hoc i2 (by omega)
            have hr := hor _ (List.getElem_mem (l := os) (n := i2) (by omega))
            have hk := kindI_bd (n := os[i2]'(by omega)) (m := ((xs.length : Nat) : Int)) (by omega)
            rw [ebb]
            (repeat (first | first | refine run_zfa rfl (fun _ => by rfl) (fun _ => by rfl) ?_ | refine run_faz rfl (fun _ => by rfl) (fun _ => by rfl) ?_ | refine run_fa rfl (fun _ => by rfl) (fun _ => by rfl) ?_ | refine run_p (fun _ => rfl) rfl ?_ | refine run_n rfl (fun _ => rfl) ?_ | refine run_y (fun _ => rfl) rfl (fun _ => rfl) ?_ | refine run_seq ?_ | refine run_region ?_ | refine run_ops_nil ?_ | refine run_block ?_ | refine run_skip ?_ | refine run_inBlock ?_ | refine run_exit rfl ?_))
            refine run_ixs rfl (fun _ => by rfl) (fun _ => by rfl) (fun _ => by rfl) (by omega) (by omega) ?_
            simp only [Int.toNat_natCast, Nat.mul_one]
            refine run_ld _ _ _ rfl (fun _ => by rfl) (fun _ => by rfl) (.inr hH) (by exact hcell) ?_
            (repeat (first | first | refine run_zfa rfl (fun _ => by rfl) (fun _ => by rfl) ?_ | refine run_faz rfl (fun _ => by rfl) (fun _ => by rfl) ?_ | refine run_fa rfl (fun _ => by rfl) (fun _ => by rfl) ?_ | refine run_p (fun _ => rfl) rfl ?_ | refine run_n rfl (fun _ => rfl) ?_ | refine run_y (fun _ => rfl) rfl (fun _ => rfl) ?_ | refine run_seq ?_ | refine run_region ?_ | refine run_ops_nil ?_ | refine run_block ?_ | refine run_skip ?_ | refine run_inBlock ?_ | refine run_exit rfl ?_))
            refine run_len rfl (fun _ => by rfl) (fun _ => by rfl) ?_
            refine run_call rfl (fun _ => by rfl) (fun _ => by kernel_rfl) (kind_ok _ ((xs.length : Nat) : Int) hr.1 hr.2 (by omega)) ?_
            rintro v H8 M8 ⟨rfl, e1, e2⟩
            rw [e1, e2]
            generalize kindI (os[i2]'(by omega)) ((xs.length : Nat) : Int) = qq at hk ⊢
            obtain ⟨q, rfl⟩ : ∃ q : Nat, qq = q := ⟨qq.toNat, by omega⟩
            rw [← ebb]
            (repeat (first | first | refine run_zfa rfl (fun _ => by rfl) (fun _ => by rfl) ?_ | refine run_faz rfl (fun _ => by rfl) (fun _ => by rfl) ?_ | refine run_fa rfl (fun _ => by rfl) (fun _ => by rfl) ?_ | refine run_p (fun _ => rfl) rfl ?_ | refine run_n rfl (fun _ => rfl) ?_ | refine run_y (fun _ => rfl) rfl (fun _ => rfl) ?_ | refine run_seq ?_ | refine run_region ?_ | refine run_ops_nil ?_ | refine run_block ?_ | refine run_skip ?_ | refine run_inBlock ?_ | refine run_exit rfl ?_))
            exact run_keep [_, _, _, _, _, _] (by intro j; repeat (first | exact trivial | refine ⟨rfl, ?_⟩)) (K q _ _ ⟨by omega, rfl, rfl⟩)
          · (repeat (first | first | refine run_zfa rfl (fun _ => by rfl) (fun _ => by rfl) ?_ | refine run_faz rfl (fun _ => by rfl) (fun _ => by rfl) ?_ | refine run_fa rfl (fun _ => by rfl) (fun _ => by rfl) ?_ | refine run_p (fun _ => rfl) rfl ?_ | refine run_n rfl (fun _ => rfl) ?_ | refine run_y (fun _ => rfl) rfl (fun _ => rfl) ?_ | refine run_seq ?_ | refine run_region ?_ | refine run_ops_nil ?_ | refine run_block ?_ | refine run_skip ?_ | refine run_inBlock ?_ | refine run_exit rfl ?_))
            exact run_keep [_, _, _, _, _, _] (by intro j; repeat (first | exact trivial | refine ⟨rfl, ?_⟩)) (K 0 _ _ ⟨hx0, rfl, rfl⟩)
        case K =>
        rintro a H8 M8 ⟨ha, rfl, rfl⟩
        have hxa := hF.mem _ (List.getElem_mem ha)
        have hm8' := hF.m8
        have hx1 : ((xs[a] : Nat) : Int) ≠ 1 := by omega
        have hcell : ct[0 + a * 1]? = some (.int .i64 (xs[a] : Int)) := by rw [Nat.zero_add, Nat.mul_one, take_get htt (by omega), nums_get ha]
        have hw : IntKind.i64.wrap (100 + (xs[a] : Int)) = 100 + (xs[a] : Int) := wrap_id (by omega) (by omega)
        (repeat (first | first | refine run_zfa rfl (fun _ => by rfl) (fun _ => by rfl) ?_ | refine run_faz rfl (fun _ => by rfl) (fun _ => by rfl) ?_ | refine run_fa rfl (fun _ => by rfl) (fun _ => by rfl) ?_ | refine run_p (fun _ => rfl) rfl ?_ | refine run_n rfl (fun _ => rfl) ?_ | refine run_y (fun _ => rfl) rfl (fun _ => rfl) ?_ | refine run_seq ?_ | refine run_region ?_ | refine run_ops_nil ?_ | refine run_block ?_ | refine run_skip ?_ | refine run_inBlock ?_ | refine run_exit rfl ?_))
        refine run_steps (upd nil bt (.cells ct 3 (0, 0))) ([(true,0),(true,1),(true,2),(true,3),(true,4),(true,5),(true,6),(true,7),(true,8),(true,9),(false,10),(true,11),(true,12),(true,13),(true,14),(true,15)]) (by kernel_rfl) (by kernel_rfl) (by rfl) (by kernel_rfl) ?_
        refine ow_takes (Keeps.one htb) [0, 1, 2, 3, 4, 5, 6, 7, 8, 9] _ (l2 := ?l25) ?hq25 ?h25
        case hq25 =>
          (repeat (first | first | refine ql_zfa rfl (fun _ => by rfl) (fun _ => by rfl) ?_ | refine ql_faz rfl (fun _ => by rfl) (fun _ => by rfl) ?_ | refine ql_fa rfl (fun _ => by rfl) (fun _ => by rfl) ?_ | refine ql_p (fun _ => rfl) rfl ?_ | refine ql_n rfl (fun _ => rfl) ?_ | refine ql_y (fun _ => rfl) rfl (fun _ => rfl) ?_))
          refine ql_ixs rfl (fun _ => by rfl) (fun _ => by rfl) (fun _ => by rfl) (by omega) (by omega) ?_
          simp only [Int.toNat_natCast]
          refine ql_ld _ _ _ rfl (fun _ => by rfl) (fun _ => by rfl) (.inl (upd_same _ _ _)) (by exact hcell) ?_
          (repeat (first | first | refine ql_zfa rfl (fun _ => by rfl) (fun _ => by rfl) ?_ | refine ql_faz rfl (fun _ => by rfl) (fun _ => by rfl) ?_ | refine ql_fa rfl (fun _ => by rfl) (fun _ => by rfl) ?_ | refine ql_p (fun _ => rfl) rfl ?_ | refine ql_n rfl (fun _ => rfl) ?_ | refine ql_y (fun _ => rfl) rfl (fun _ => rfl) ?_))
          refine ql_ixs rfl (fun _ => by rfl) (fun _ => by rfl) (fun _ => by rfl) (by omega) (by omega) ?_
          simp only [Int.toNat_natCast]
          refine ql_ld _ _ _ rfl (fun _ => by rfl) (fun _ => by rfl) (.inl (upd_same _ _ _)) (by exact hcell) ?_
          (repeat (first | first | refine ql_zfa rfl (fun _ => by rfl) (fun _ => by rfl) ?_ | refine ql_faz rfl (fun _ => by rfl) (fun _ => by rfl) ?_ | refine ql_fa rfl (fun _ => by rfl) (fun _ => by rfl) ?_ | refine ql_p (fun _ => rfl) rfl ?_ | refine ql_n rfl (fun _ => rfl) ?_ | refine ql_y (fun _ => rfl) rfl (fun _ => rfl) ?_))
          rw [hw]
          exact .nil
        case h25 =>
        refine ow_only 10 ?_
        refine tl_call rfl (fun _ => by rfl) (fun _ => by kernel_rfl) (exit_ok hT (xs[a] : Int) (100 + (xs[a] : Int)) (hF.run (.inr (List.getElem_mem ha))) hx1 hF.inv.bd) ?_
        rintro v H9 M9 ⟨u, rfl, eH, _, hT9, c9⟩
        have hkeep : Keeps (upd Cam.nil bt (.cells ct 3 (0, 0))) M9 := fun c o hc => by
          by_cases e : c = bt
          · subst e; rw [upd_same] at hc; cases hc; exact c9 _ _ (fun h => nbt (List.mem_singleton.1 h)) htb
          · rw [upd_ne e] at hc; cases hc
        refine tl_nil ⟨eH, hkeep, ?_⟩
        refine ow_takes hkeep [11, 12, 13, 14, 15] _ (l2 := ?l26) ?hq26 ?h26
        case hq26 =>
          (repeat (first | first | refine ql_zfa rfl (fun _ => by rfl) (fun _ => by rfl) ?_ | refine ql_faz rfl (fun _ => by rfl) (fun _ => by rfl) ?_ | refine ql_fa rfl (fun _ => by rfl) (fun _ => by rfl) ?_ | refine ql_p (fun _ => rfl) rfl ?_ | refine ql_n rfl (fun _ => rfl) ?_ | refine ql_y (fun _ => rfl) rfl (fun _ => rfl) ?_))
          exact .nil
        case h26 =>
        refine ow_done ?_
        have hFx := hF.exit ha
        have htb9 := hkeep bt _ (upd_same _ _ _)
        replace hD := hD.ch c9 (fun _ h => h)
        replace hch := hch.trans c9
        have hrun : (T.exitT (xs[a] : Int) (100 + (xs[a] : Int))).runs (xs[a] : Int) = false := runs2 (by rw [(exitT_flds hF.inv (x := xs[a]) _ (by omega)).1, if_pos rfl])
        clear hkeep c9 hT htb
        (repeat (first | first | refine run_zfa rfl (fun _ => by rfl) (fun _ => by rfl) ?_ | refine run_faz rfl (fun _ => by rfl) (fun _ => by rfl) ?_ | refine run_fa rfl (fun _ => by rfl) (fun _ => by rfl) ?_ | refine run_p (fun _ => rfl) rfl ?_ | refine run_n rfl (fun _ => rfl) ?_ | refine run_y (fun _ => rfl) rfl (fun _ => rfl) ?_ | refine run_seq ?_ | refine run_region ?_ | refine run_ops_nil ?_ | refine run_block ?_ | refine run_skip ?_ | refine run_inBlock ?_ | refine run_exit rfl ?_))
        refine run_ixs rfl (fun _ => by rfl) (fun _ => by rfl) (fun _ => by rfl) (by omega) (by omega) ?_
        simp only [Int.toNat_natCast]
        refine run_ld _ _ _ rfl (fun _ => by rfl) (fun _ => by rfl) (.inl (htb9)) (by exact hcell) ?_
        refine run_call rfl (fun _ => by rfl) (fun _ => by kernel_rfl) (runs_ok hT9 (xs[a] : Int)) ?_
        rw [hrun]
        rintro v H10 M10 ⟨rfl, rfl, rfl⟩
        (repeat (first | first | refine run_zfa rfl (fun _ => by rfl) (fun _ => by rfl) ?_ | refine run_faz rfl (fun _ => by rfl) (fun _ => by rfl) ?_ | refine run_fa rfl (fun _ => by rfl) (fun _ => by rfl) ?_ | refine run_p (fun _ => rfl) rfl ?_ | refine run_n rfl (fun _ => rfl) ?_ | refine run_y (fun _ => rfl) rfl (fun _ => rfl) ?_ | refine run_seq ?_ | refine run_region ?_ | refine run_ops_nil ?_ | refine run_block ?_ | refine run_skip ?_ | refine run_inBlock ?_ | refine run_exit rfl ?_))
        refine run_cond _ (fun _ => by rfl) (fun hc5 => ?_) (fun hc5 => ?_)
        · cases hc5
        (repeat (first | first | refine run_zfa rfl (fun _ => by rfl) (fun _ => by rfl) ?_ | refine run_faz rfl (fun _ => by rfl) (fun _ => by rfl) ?_ | refine run_fa rfl (fun _ => by rfl) (fun _ => by rfl) ?_ | refine run_p (fun _ => rfl) rfl ?_ | refine run_n rfl (fun _ => rfl) ?_ | refine run_y (fun _ => rfl) rfl (fun _ => rfl) ?_ | refine run_seq ?_ | refine run_region ?_ | refine run_ops_nil ?_ | refine run_block ?_ | refine run_skip ?_ | refine run_inBlock ?_ | refine run_exit rfl ?_))
        have hw2 : IntKind.i64.wrap ((a : Int) + 1) = ((a + 1 : Nat) : Int) := wrap_nat (by omega)
        obtain ⟨o2, ho2⟩ : ∃ o2, (if tcap0 = a + 1 then 0 else 0 + (a + 1) * 1) = o2 := ⟨_, rfl⟩
        have ho2' : (a + 1 < xs.length → o2 = a + 1) ∧ o2 ≤ a + 1 := by rw [← ho2]; split <;> omega
        have hy1 : ct.extract 0 (0 + (a - 0) * 1) = (nums (xs.take a)).toArray := by
          have := extract_part (N := xs.length * 1) (a := 0) (m := (a - 0) * 1) htt (by omega)
          rw [this]; congr 1; simp [nums, List.map_take]
        have hy2 : ct.extract o2 (o2 + (xs.length - (a + 1)) * 1) = (nums (xs.drop (a + 1))).toArray := by
          by_cases hlt : a + 1 < xs.length
          · rw [ho2'.1 hlt, extract_part (N := xs.length * 1) (a := a + 1) (m := (xs.length - (a + 1)) * 1) htt (by omega)]
            congr 1
            rw [List.take_of_length_le (by rw [List.length_drop, nums_len]; omega)]
            simp [nums, List.map_drop]
          · have e0 : xs.length - (a + 1) = 0 := by omega
            rw [e0, List.drop_eq_nil_of_le (by omega)]
            simp [nums]
            exact Nat.min_le_left _ _
        refine run_steps (Cam.nil) ([(true,1),(true,2),(true,3),(true,5),(true,6),(true,7),(true,8),(false,0),(false,4),(false,9),(true,10)]) (by kernel_rfl) (by kernel_rfl) (by rfl) (by kernel_rfl) ?_
        refine ow_takes (Keeps.nil _) [1, 2, 3, 5, 6, 7, 8] _ (l2 := ?l28) ?hq28 ?h28
        case hq28 =>
          (repeat (first | first | refine ql_zfa rfl (fun _ => by rfl) (fun _ => by rfl) ?_ | refine ql_faz rfl (fun _ => by rfl) (fun _ => by rfl) ?_ | refine ql_fa rfl (fun _ => by rfl) (fun _ => by rfl) ?_ | refine ql_p (fun _ => rfl) rfl ?_ | refine ql_n rfl (fun _ => rfl) ?_ | refine ql_y (fun _ => rfl) rfl (fun _ => rfl) ?_))
          refine ql_slc 0 a 0 (by split <;> rfl) rfl (fun _ => by rfl) (fun _ => by rfl) (fun _ => rfl) (fun _ => ⟨_, rfl⟩) (by omega) (by omega) (by omega) ?_
          (repeat (first | first | refine ql_zfa rfl (fun _ => by rfl) (fun _ => by rfl) ?_ | refine ql_faz rfl (fun _ => by rfl) (fun _ => by rfl) ?_ | refine ql_fa rfl (fun _ => by rfl) (fun _ => by rfl) ?_ | refine ql_p (fun _ => rfl) rfl ?_ | refine ql_n rfl (fun _ => rfl) ?_ | refine ql_y (fun _ => rfl) rfl (fun _ => rfl) ?_))
          rw [hw2]
          refine ql_slc (a + 1) xs.length o2 ho2 rfl (fun _ => by rfl) (fun _ => by rfl) (fun _ => ⟨_, rfl⟩) (fun _ => rfl) (by omega) (by omega) (by omega) ?_
          exact .nil
        case h28 =>
        refine ow_only 0 ?_
        refine tl_bs0 rfl (fun _ => by rfl) (fun r9 M11 h9 k9 => ?_)
        have hS := Mn.nil (sz := 1) h9 k9 hch (fun c hc => by rw [List.mem_singleton.1 hc]; exact ⟨_, hT9⟩)
        have nrt : bt ≠ r9 := (k9 _ _ htb9).2
        replace hT9 := (k9 _ _ hT9).1; replace htb9 := (k9 _ _ htb9).1
        replace hch := hch.new' k9
        clear k9
        refine tl_nil ⟨rfl, Keeps.nil _, ?_⟩
        refine ow_only 4 ?_
        refine tl_app (nums (xs.take a)) rfl (fun _ => by rfl) (fun _ => by rfl) (fun _ => by rfl) hS.own (.inl htb9) hy1 (by omega) (by rw [nums_len, List.length_take]; omega) (nums_one _) (by simp; omega) (fun v1 M12 ho ha1 => ?_)
        have htb12 := (ha1 bt _ (fun e => nrt (by simp only [ob, Option.some.injEq] at e; exact e.symm)) htb9).1
        have nv1 := (ha1 bt _ (fun e => nrt (by simp only [ob, Option.some.injEq] at e; exact e.symm)) htb9).2
        obtain ⟨hS1, hch1, hb1⟩ := hS.app hch (fun c hc => by rw [List.mem_singleton.1 hc]; exact ⟨_, hT9⟩) ho ha1
        have hT12 := hb1 b in1 _ hT9
        refine tl_nil ⟨rfl, Keeps.nil _, ?_⟩
        refine ow_only 9 ?_
        refine tl_app (nums (xs.drop (a + 1))) rfl (fun _ => by rfl) (fun _ => by rfl) (fun _ => by rfl) hS1.own (.inl htb12) hy2 (by omega) (by rw [nums_len, List.length_drop]) (nums_one _) (by rw [List.nil_append, nums_len, List.length_take]; omega) (fun v2 M13 ho2 ha2 => ?_)
        obtain ⟨hS2, hch2, hb2⟩ := hS1.app hch1 (fun c hc => by rw [List.mem_singleton.1 hc]; exact ⟨_, hT12⟩) ho2 ha2
        have hT13 := hb2 b in1 _ hT12
        refine tl_nil ⟨rfl, Keeps.nil _, ?_⟩
        refine ow_takes (Keeps.nil _) [10] _ (l2 := ?l29) ?hq29 ?h29
        case hq29 =>
          (repeat (first | first | refine ql_zfa rfl (fun _ => by rfl) (fun _ => by rfl) ?_ | refine ql_faz rfl (fun _ => by rfl) (fun _ => by rfl) ?_ | refine ql_fa rfl (fun _ => by rfl) (fun _ => by rfl) ?_ | refine ql_p (fun _ => rfl) rfl ?_ | refine ql_n rfl (fun _ => rfl) ?_ | refine ql_y (fun _ => rfl) rfl (fun _ => rfl) ?_))
          exact .nil
        case h29 =>
        refine ow_done ?_
        (repeat (first | first | refine run_zfa rfl (fun _ => by rfl) (fun _ => by rfl) ?_ | refine run_faz rfl (fun _ => by rfl) (fun _ => by rfl) ?_ | refine run_fa rfl (fun _ => by rfl) (fun _ => by rfl) ?_ | refine run_p (fun _ => rfl) rfl ?_ | refine run_n rfl (fun _ => rfl) ?_ | refine run_y (fun _ => rfl) rfl (fun _ => rfl) ?_ | refine run_seq ?_ | refine run_region ?_ | refine run_ops_nil ?_ | refine run_block ?_ | refine run_skip ?_ | refine run_inBlock ?_ | refine run_exit rfl ?_))
        rw [wrap_nat (by omega)]
        have hxe : nums (xs.eraseIdx a) = ([] ++ nums (xs.take a)) ++ nums (xs.drop (a + 1)) := by rw [List.eraseIdx_eq_take_drop_succ]; simp [nums]
        have hle : (xs.eraseIdx a).length = xs.length - 1 := List.length_eraseIdx_of_lt ha
        exact run_keep _ (by intro j; repeat (first | exact trivial | refine ⟨rfl, ?_⟩)) (next (i2 + 1, xs.eraseIdx a, v2) _ _ ⟨by dsimp only; omega, rfl, ⟨_, hT13, hFx⟩, by dsimp only; rw [hxe]; exact hS2, hch2⟩ (by dsimp only; omega))
      · have hx : xs = [] := List.eq_nil_of_length_eq_zero (by omega)
        subst hx
        have hW := hF.wt
        clear next hF hD hix hc
        (repeat (first | first | refine run_zfa rfl (fun _ => by rfl) (fun _ => by rfl) ?_ | refine run_faz rfl (fun _ => by rfl) (fun _ => by rfl) ?_ | refine run_fa rfl (fun _ => by rfl) (fun _ => by rfl) ?_ | refine run_p (fun _ => rfl) rfl ?_ | refine run_n rfl (fun _ => rfl) ?_ | refine run_y (fun _ => rfl) rfl (fun _ => rfl) ?_ | refine run_seq ?_ | refine run_region ?_ | refine run_ops_nil ?_ | refine run_block ?_ | refine run_skip ?_ | refine run_inBlock ?_ | refine run_exit rfl ?_))
        refine run_bda rfl (fun _ => by rfl) ?_
        refine run_newA (.cells (tab 9 (seenC 1)) 34 (0, 0)) rfl (fun _ => by rfl) (fun _ => by kernel_rfl) (fun r18 M8 h18 k8 => ?_)
        have n18 := (k8 _ _ hT).2
        replace hT := (k8 _ _ hT).1
        have g18 := New.none hch k8 (nin1 n18)
        replace hch := hch.new' k8
        clear k8
        refine run_stA _ _ _ _ (tab 9 (seenC 1)) (fun _ => by rfl) (fun _ => by rfl) (fun _ => by rfl) h18 (by kernel_rfl) (by first | decide | exact Nat.le_refl _) (by kernel_rfl) (by kernel_rfl) (fun M9 h18 k9 => ?_)
        replace hT := k9 _ _ n18 hT
        replace hch := hch.box' k9 g18
        clear k9
        (repeat (first | first | refine run_zfa rfl (fun _ => by rfl) (fun _ => by rfl) ?_ | refine run_faz rfl (fun _ => by rfl) (fun _ => by rfl) ?_ | refine run_fa rfl (fun _ => by rfl) (fun _ => by rfl) ?_ | refine run_p (fun _ => rfl) rfl ?_ | refine run_n rfl (fun _ => rfl) ?_ | refine run_y (fun _ => rfl) rfl (fun _ => rfl) ?_ | refine run_seq ?_ | refine run_region ?_ | refine run_ops_nil ?_ | refine run_block ?_ | refine run_skip ?_ | refine run_inBlock ?_ | refine run_exit rfl ?_))
        refine run_loopI (fun i : Nat => [(6, .pointer (some ⟨b, 0, none⟩)), (7, .slice (some ⟨ba, 0, none⟩) m capa), (18, .pointer (some ⟨r18, 0, none⟩)), (19, .int .i64 i)])
          (fun i H1 M1 => 1 ≤ i ∧ i ≤ m ∧ H1 = H7 ∧ (∃ T : Tb, M1 b = some T.obj ∧ Wt T m i) ∧ M1 r18 = some (.cells (tab 9 (seenC i)) 34 (0, 0)) ∧ Ch [b] M2 M1) (fun i => m - i) 1 (by intro j; repeat (first | exact trivial | refine ⟨rfl, ?_⟩))
          ⟨by omega, by omega, rfl, ⟨T, hT, hW⟩, h18, hch⟩ ?_
        clear hT hW h18 hch
        rintro i H8 M8 ⟨hi1, him, rfl, ⟨T, hT, hW⟩, h18, hch⟩ next
        have hr1 : T.runs 1 = true := Tb.runs_eq (p := 1) (by omega) (by omega) hW.st1
        (repeat (first | first | refine run_zfa rfl (fun _ => by rfl) (fun _ => by rfl) ?_ | refine run_faz rfl (fun _ => by rfl) (fun _ => by rfl) ?_ | refine run_fa rfl (fun _ => by rfl) (fun _ => by rfl) ?_ | refine run_p (fun _ => rfl) rfl ?_ | refine run_n rfl (fun _ => rfl) ?_ | refine run_y (fun _ => rfl) rfl (fun _ => rfl) ?_ | refine run_seq ?_ | refine run_region ?_ | refine run_ops_nil ?_ | refine run_block ?_ | refine run_skip ?_ | refine run_inBlock ?_ | refine run_exit rfl ?_))
        refine run_len rfl (fun _ => by rfl) (fun _ => by rfl) ?_
        (repeat (first | first | refine run_zfa rfl (fun _ => by rfl) (fun _ => by rfl) ?_ | refine run_faz rfl (fun _ => by rfl) (fun _ => by rfl) ?_ | refine run_fa rfl (fun _ => by rfl) (fun _ => by rfl) ?_ | refine run_p (fun _ => rfl) rfl ?_ | refine run_n rfl (fun _ => rfl) ?_ | refine run_y (fun _ => rfl) rfl (fun _ => rfl) ?_ | refine run_seq ?_ | refine run_region ?_ | refine run_ops_nil ?_ | refine run_block ?_ | refine run_skip ?_ | refine run_inBlock ?_ | refine run_exit rfl ?_))
        refine run_if (fun _ => by rfl) (fun hc => ?_) (fun hc => ?_)
        · have d1 : decide (((i + 1 : Nat) : Int) < 2) = false := by simp; omega
          have d2 : decide (((i + 1 : Nat) : Int) > 8) = false := by simp; omega
          have d3 : decide (2 ≤ i + 1 ∧ i + 1 ≤ i) = false := by simp
          have d4 : (100 + ((i + 1 : Nat) : Int) != IntKind.i64.wrap (100 + ((i + 1 : Nat) : Int))) = false := by rw [wrap_id (by omega) (by omega)]; simp
          (repeat (first | first | refine run_zfa rfl (fun _ => by rfl) (fun _ => by rfl) ?_ | refine run_faz rfl (fun _ => by rfl) (fun _ => by rfl) ?_ | refine run_fa rfl (fun _ => by rfl) (fun _ => by rfl) ?_ | refine run_p (fun _ => rfl) rfl ?_ | refine run_n rfl (fun _ => rfl) ?_ | refine run_y (fun _ => rfl) rfl (fun _ => rfl) ?_ | refine run_seq ?_ | refine run_region ?_ | refine run_ops_nil ?_ | refine run_block ?_ | refine run_skip ?_ | refine run_inBlock ?_ | refine run_exit rfl ?_))
          refine run_call rfl (fun _ => by rfl) (fun _ => by kernel_rfl) (wait_ok hT 1 hr1) ?_
          rw [hW.ripe hi1 (by omega)]
          rintro v H9 M9 ⟨rfl, c9, rfl, hT9⟩
          rw [hW.code hi1 (by omega)]
          replace h18 := c9 _ _ (fun h => n18 (List.mem_singleton.1 h).symm) h18
          replace hch := hch.trans c9
          clear c9
          (repeat (first | first | refine run_zfa rfl (fun _ => by rfl) (fun _ => by rfl) ?_ | refine run_faz rfl (fun _ => by rfl) (fun _ => by rfl) ?_ | refine run_fa rfl (fun _ => by rfl) (fun _ => by rfl) ?_ | refine run_p (fun _ => rfl) rfl ?_ | refine run_n rfl (fun _ => rfl) ?_ | refine run_y (fun _ => rfl) rfl (fun _ => rfl) ?_ | refine run_seq ?_ | refine run_region ?_ | refine run_ops_nil ?_ | refine run_block ?_ | refine run_skip ?_ | refine run_inBlock ?_ | refine run_exit rfl ?_))
          rw [d1]
          (repeat (first | first | refine run_zfa rfl (fun _ => by rfl) (fun _ => by rfl) ?_ | refine run_faz rfl (fun _ => by rfl) (fun _ => by rfl) ?_ | refine run_fa rfl (fun _ => by rfl) (fun _ => by rfl) ?_ | refine run_p (fun _ => rfl) rfl ?_ | refine run_n rfl (fun _ => rfl) ?_ | refine run_y (fun _ => rfl) rfl (fun _ => rfl) ?_ | refine run_seq ?_ | refine run_region ?_ | refine run_ops_nil ?_ | refine run_block ?_ | refine run_skip ?_ | refine run_inBlock ?_ | refine run_exit rfl ?_))
          rw [d2]
          (repeat (first | first | refine run_zfa rfl (fun _ => by rfl) (fun _ => by rfl) ?_ | refine run_faz rfl (fun _ => by rfl) (fun _ => by rfl) ?_ | refine run_fa rfl (fun _ => by rfl) (fun _ => by rfl) ?_ | refine run_p (fun _ => rfl) rfl ?_ | refine run_n rfl (fun _ => rfl) ?_ | refine run_y (fun _ => rfl) rfl (fun _ => rfl) ?_ | refine run_seq ?_ | refine run_region ?_ | refine run_ops_nil ?_ | refine run_block ?_ | refine run_skip ?_ | refine run_inBlock ?_ | refine run_exit rfl ?_))
          first | refine run_zix rfl (fun _ => by rfl) (fun _ => by rfl) (fun _ => by rfl) (by omega) (by omega) ?_ | refine run_ix rfl (fun _ => by rfl) (fun _ => by rfl) (fun _ => by rfl) (by omega) (by omega) ?_
          simp only [Int.toNat_natCast]
          refine run_ld _ _ (.bool false) rfl (fun _ => by rfl) (fun _ => by rfl) (.inl h18) (by rw [tab_get (by omega)]; show some (Value.bool (decide (2 ≤ (i + 1) * 1 ∧ (i + 1) * 1 ≤ i))) = _; rw [Nat.mul_one, d3]) ?_
          (repeat (first | first | refine run_zfa rfl (fun _ => by rfl) (fun _ => by rfl) ?_ | refine run_faz rfl (fun _ => by rfl) (fun _ => by rfl) ?_ | refine run_fa rfl (fun _ => by rfl) (fun _ => by rfl) ?_ | refine run_p (fun _ => rfl) rfl ?_ | refine run_n rfl (fun _ => rfl) ?_ | refine run_y (fun _ => rfl) rfl (fun _ => rfl) ?_ | refine run_seq ?_ | refine run_region ?_ | refine run_ops_nil ?_ | refine run_block ?_ | refine run_skip ?_ | refine run_inBlock ?_ | refine run_exit rfl ?_))
          rw [d4]
          refine run_cond _ (fun _ => by rfl) (fun hc6 => ?_) (fun hc6 => ?_)
          · cases hc6
          (repeat (first | first | refine run_zfa rfl (fun _ => by rfl) (fun _ => by rfl) ?_ | refine run_faz rfl (fun _ => by rfl) (fun _ => by rfl) ?_ | refine run_fa rfl (fun _ => by rfl) (fun _ => by rfl) ?_ | refine run_p (fun _ => rfl) rfl ?_ | refine run_n rfl (fun _ => rfl) ?_ | refine run_y (fun _ => rfl) rfl (fun _ => rfl) ?_ | refine run_seq ?_ | refine run_region ?_ | refine run_ops_nil ?_ | refine run_block ?_ | refine run_skip ?_ | refine run_inBlock ?_ | refine run_exit rfl ?_))
          first | refine run_zix rfl (fun _ => by rfl) (fun _ => by rfl) (fun _ => by rfl) (by omega) (by omega) ?_ | refine run_ix rfl (fun _ => by rfl) (fun _ => by rfl) (fun _ => by rfl) (by omega) (by omega) ?_
          simp only [Int.toNat_natCast]
          refine run_stA _ _ _ _ (tab 9 (seenC (i + 1))) (fun _ => by rfl) (fun _ => by rfl) (fun _ => by rfl) h18 (by rfl) (by first | (rw [tab_size]; omega) | (simp; done) | decide | exact Nat.le_of_ble_eq_true rfl) (by rfl) (by exact seen_put i (by omega)) (fun M10 h18 k10 => ?_)
          replace hT9 := k10 _ _ n18 hT9
          replace hch := hch.box' k10 g18
          clear k10
          (repeat (first | first | refine run_zfa rfl (fun _ => by rfl) (fun _ => by rfl) ?_ | refine run_faz rfl (fun _ => by rfl) (fun _ => by rfl) ?_ | refine run_fa rfl (fun _ => by rfl) (fun _ => by rfl) ?_ | refine run_p (fun _ => rfl) rfl ?_ | refine run_n rfl (fun _ => rfl) ?_ | refine run_y (fun _ => rfl) rfl (fun _ => rfl) ?_ | refine run_seq ?_ | refine run_region ?_ | refine run_ops_nil ?_ | refine run_block ?_ | refine run_skip ?_ | refine run_inBlock ?_ | refine run_exit rfl ?_))
          rw [wrap_nat (by omega)]
          exact run_keep _ (by intro j; repeat (first | exact trivial | refine ⟨rfl, ?_⟩)) (next (i + 1) _ _ ⟨by omega, by omega, rfl, ⟨_, hT9, hW.step hi1 (by omega)⟩, h18, hch⟩ (by omega))
        · have him' : i = m := by omega
          subst him'
          (repeat (first | first | refine run_zfa rfl (fun _ => by rfl) (fun _ => by rfl) ?_ | refine run_faz rfl (fun _ => by rfl) (fun _ => by rfl) ?_ | refine run_fa rfl (fun _ => by rfl) (fun _ => by rfl) ?_ | refine run_p (fun _ => rfl) rfl ?_ | refine run_n rfl (fun _ => rfl) ?_ | refine run_y (fun _ => rfl) rfl (fun _ => rfl) ?_ | refine run_seq ?_ | refine run_region ?_ | refine run_ops_nil ?_ | refine run_block ?_ | refine run_skip ?_ | refine run_inBlock ?_ | refine run_exit rfl ?_))
          refine run_call rfl (fun _ => by rfl) (fun _ => by kernel_rfl) (wait_ok hT 1 hr1) ?_
          rw [hW.last.1, hW.last.2]
          rintro v H9 M9 ⟨rfl, c9, rfl, hT9⟩
          (repeat (first | first | refine run_zfa rfl (fun _ => by rfl) (fun _ => by rfl) ?_ | refine run_faz rfl (fun _ => by rfl) (fun _ => by rfl) ?_ | refine run_fa rfl (fun _ => by rfl) (fun _ => by rfl) ?_ | refine run_p (fun _ => rfl) rfl ?_ | refine run_n rfl (fun _ => rfl) ?_ | refine run_y (fun _ => rfl) rfl (fun _ => rfl) ?_ | refine run_seq ?_ | refine run_region ?_ | refine run_ops_nil ?_ | refine run_block ?_ | refine run_skip ?_ | refine run_inBlock ?_ | refine run_exit rfl ?_))
          exact run_retc Try.func3 (fun _ => by kernel_rfl) (⟨rfl, rfl, c2.mono' (hch.trans c9) fun c hc => by rw [List.mem_singleton.1 hc]; exact nb⟩)
  · (repeat (first | first | refine run_zfa rfl (fun _ => by rfl) (fun _ => by rfl) ?_ | refine run_faz rfl (fun _ => by rfl) (fun _ => by rfl) ?_ | refine run_fa rfl (fun _ => by rfl) (fun _ => by rfl) ?_ | refine run_p (fun _ => rfl) rfl ?_ | refine run_n rfl (fun _ => rfl) ?_ | refine run_y (fun _ => rfl) rfl (fun _ => rfl) ?_))
    cases h1 : decide ((i : Int) < (ls.length : Int))
    · (repeat (first | first | refine run_zfa rfl (fun _ => by rfl) (fun _ => by rfl) ?_ | refine run_faz rfl (fun _ => by rfl) (fun _ => by rfl) ?_ | refine run_fa rfl (fun _ => by rfl) (fun _ => by rfl) ?_ | refine run_p (fun _ => rfl) rfl ?_ | refine run_n rfl (fun _ => rfl) ?_ | refine run_y (fun _ => rfl) rfl (fun _ => rfl) ?_))
      exact run_keep [_, _, _, _, _, _] (by intro j; repeat (first | exact trivial | refine ⟨rfl, ?_⟩)) (K _ (by simp at h1; simp; omega))
    · (repeat (first | first | refine run_zfa rfl (fun _ => by rfl) (fun _ => by rfl) ?_ | refine run_faz rfl (fun _ => by rfl) (fun _ => by rfl) ?_ | refine run_fa rfl (fun _ => by rfl) (fun _ => by rfl) ?_ | refine run_p (fun _ => rfl) rfl ?_ | refine run_n rfl (fun _ => rfl) ?_ | refine run_y (fun _ => rfl) rfl (fun _ => rfl) ?_))
      exact run_keep [_, _, _, _, _, _] (by intro j; repeat (first | exact trivial | refine ⟨rfl, ?_⟩)) (K _ (by
        have h1' : i < ls.length := by simpa using h1
        by_cases h2 : i < 7
        · simp [h1', h2]; omega
        · simp [h1', h2]; omega))
end Go.Proofs.Ytimaipclgmcekaa
