/- The reference's calls, told by the program's table: Wait. -/
import Derived.Test.YtimaipclgmcekaaProcL
namespace Go.Proofs.Ytimaipclgmcekaa
open Go.Cam
set_option maxRecDepth 100000
set_option maxHeartbeats 1000000 in
theorem r_wait {y : Nat} {T : Tb} (I : Inv T) (pid : Int) : Ctr Try.prog 31 [.pointer (some ⟨y,0,none⟩), .int .i64 pid] [Ref y T]
    (fun v Bs => if T.runs pid = true then (match T.ripe pid 9 0 with
      | some i => v = .tuple #[.int .i64 i, .int .i64 (T.code i), .bool false, .int .i64 0] ∧ Bs = [Ref y (T.waitT i)]
      | none => v = .tuple #[.int .i64 0, .int .i64 0, .bool (T.kid pid 9 0 false), .int .i64 (if T.kid pid 9 0 false then 0 else 23)] ∧ Bs = [Ref y T])
      else v = .tuple #[.int .i64 0, .int .i64 0, .bool false, .int .i64 25] ∧ Bs = [Ref y T]) := by
  refine s_enter 65 [(0, _), (1, _)] (fun F => [_, F]) Try.func31 fun F => ?_
  refine go_ ?_
  refine s_call (sp := (by repeat (first | exact Split.nil | apply Split.perx (by repeat (first | with_reducible exact Sel.here | with_reducible apply Sel.there)) (by infer_instance) | apply Split.cons (by repeat (first | with_reducible exact Sel.here | with_reducible apply Sel.there))))) (hs := r_runs pid) (h := ?_)
  rintro v Bs ⟨rfl, rfl⟩
  cases hr : T.runs pid
  · refine go_ ?_
    exact s_rett (rs := [.tmp 4, .tmp 5, .tmp 6, .tmp 7]) (vs := [_, _, _, _]) Try.func31 rfl (by intro j; refine RVS.tmp _ rfl ?_; refine RVS.tmp _ rfl ?_; refine RVS.tmp _ rfl ?_; refine RVS.tmp _ rfl ?_; exact RVS.nil) rfl (by rw [if_neg (by simp)]; exact ⟨rfl, rfl⟩) (by repeat (first | exact Ent.nil | refine Ent.per (by repeat (first | with_reducible exact Sel.here | with_reducible apply Sel.there)) ?_ | refine Ent.cons (by repeat (first | with_reducible exact Sel.here | with_reducible apply Sel.there)) ?_))
  have h90 : T.ripe pid 9 0 = T.ripe pid 8 1 := by rw [Tb.ripe, if_pos (.inl I.s0)]
  have k90 : T.kid pid 9 0 false = T.kid pid 8 1 false := by rw [Tb.kid, if_pos (.inl I.s0)]
  generalize hs : T.ripe pid 9 0 = s
  generalize hk0 : T.kid pid 9 0 false = q0
  rw [hs] at h90
  rw [hk0] at k90
  refine go_ ?_
  refine s_loop (fun x : Nat × Bool => [(0, .pointer (some ⟨y, 0, none⟩)), (1, .int .i64 pid), (9, .bool x.2), (10, .int .i64 (x.1 : Nat))]) (fun _ => [Ref y T, F]) (fun x => 1 ≤ x.1 ∧ x.1 ≤ 9 ∧ T.ripe pid (9 - x.1) x.1 = s ∧ T.kid pid (9 - x.1) x.1 x.2 = q0) (fun x => 9 - x.1) (1, false) ⟨by simp, by simp, h90.symm, k90.symm⟩ (by repeat (first | exact Ent.nil | refine Ent.per (by repeat (first | with_reducible exact Sel.here | with_reducible apply Sel.there)) ?_ | refine Ent.cons (by repeat (first | with_reducible exact Sel.here | with_reducible apply Sel.there)) ?_)) ?_
  rintro ⟨i, q⟩ ⟨hi1, hi, he, hk⟩ next
  dsimp only at hi1 hi he hk next ⊢
  refine go_ ?_
  refine s_if (fun h1 => ?_) (fun h1 => ?_)
  · obtain ⟨d, hd⟩ : ∃ d, 9 - i = d + 1 := ⟨8 - i, by omega⟩
    have e8 : 9 - (i + 1) = d := by omega
    rw [hd, Tb.ripe] at he
    rw [hd, Tb.kid] at hk
    refine go_ ?_
    refine s_look (lk_ldv (hv := RT.st T i rfl (by omega))) ?_
    refine go_ ?_
    cases h2 : (T.st i == 0)
    · have h2' : ¬ T.st i = 0 := by simpa using h2
      refine go_ ?_
      refine s_look (lk_ldv (hv := RT.par T i rfl (by omega))) ?_
      refine go_ ?_
      refine s_ine (fun h3 => ?_) (fun h3 => ?_)
      · rw [if_pos (.inr h3)] at he hk
        refine go_ ?_
        exact s_entF (by repeat (first | exact Ent.nil | refine Ent.per (by repeat (first | with_reducible exact Sel.here | with_reducible apply Sel.there)) ?_ | refine Ent.cons (by repeat (first | with_reducible exact Sel.here | with_reducible apply Sel.there)) ?_)) (s_keep _ (next (i + 1, q) ⟨by dsimp only; omega, by dsimp only; omega, by dsimp only; rw [e8]; exact he, by dsimp only; rw [e8]; exact hk⟩ (by dsimp only; omega)))
      · have hno : ¬ (T.st i = 0 ∨ T.par i ≠ pid) := by
          rintro (c | c)
          · exact h2' c
          · exact c h3
        rw [if_neg hno] at he hk
        refine go_ ?_
        refine s_look (lk_ldv (hv := RT.st T i rfl (by omega))) ?_
        refine go_ ?_
        refine s_ieq (fun h4 => ?_) (fun h4 => ?_)
        · rw [if_pos h4] at he
          subst he
          refine go_ ?_
          refine s_look (lk_ldv (hv := RT.code T i rfl (by omega))) ?_
          refine go_ ?_
          refine s_sttN (vs := procL 0 0 0 (fun _ => 0)) (hv := put_proc T 0 0 0 (fun _ => 0) (p := i) (by omega) (by omega)) (h := ?_)
          refine go_ ?_
          exact s_rett (rs := [.tmp 4, .tmp 5, .tmp 6, .tmp 7]) (vs := [_, _, _, _]) Try.func31 rfl (by intro j; refine RVS.tmp _ rfl ?_; refine RVS.tmp _ rfl ?_; refine RVS.tmp _ rfl ?_; refine RVS.tmp _ rfl ?_; exact RVS.nil) rfl (by rw [if_pos rfl]; exact ⟨rfl, congrArg (fun a => [a]) (show Ref y (T.setProc i 0 0 0 (fun _ => 0)) = Ref y (T.waitT i) from rfl)⟩) (by repeat (first | exact Ent.nil | refine Ent.per (by repeat (first | with_reducible exact Sel.here | with_reducible apply Sel.there)) ?_ | refine Ent.cons (by repeat (first | with_reducible exact Sel.here | with_reducible apply Sel.there)) ?_))
        · rw [if_neg h4] at he
          refine go_ ?_
          exact s_entF (by repeat (first | exact Ent.nil | refine Ent.per (by repeat (first | with_reducible exact Sel.here | with_reducible apply Sel.there)) ?_ | refine Ent.cons (by repeat (first | with_reducible exact Sel.here | with_reducible apply Sel.there)) ?_)) (s_keep _ (next (i + 1, true) ⟨by dsimp only; omega, by dsimp only; omega, by dsimp only; rw [e8]; exact he, by dsimp only; rw [e8]; exact hk⟩ (by dsimp only; omega)))
    · have h2' : T.st i = 0 := by simpa using h2
      rw [if_pos (.inl h2')] at he hk
      refine go_ ?_
      exact s_entF (by repeat (first | exact Ent.nil | refine Ent.per (by repeat (first | with_reducible exact Sel.here | with_reducible apply Sel.there)) ?_ | refine Ent.cons (by repeat (first | with_reducible exact Sel.here | with_reducible apply Sel.there)) ?_)) (s_keep _ (next (i + 1, q) ⟨by dsimp only; omega, by dsimp only; omega, by dsimp only; rw [e8]; exact he, by dsimp only; rw [e8]; exact hk⟩ (by dsimp only; omega)))
  · have e0 : 9 - i = 0 := by omega
    rw [e0, Tb.ripe] at he
    rw [e0, Tb.kid] at hk
    subst he hk
    refine go_ ?_
    cases q
    · refine go_ ?_
      exact s_rett (rs := [.tmp 4, .tmp 5, .tmp 6, .tmp 7]) (vs := [_, _, _, _]) Try.func31 rfl (by intro j; refine RVS.tmp _ rfl ?_; refine RVS.tmp _ rfl ?_; refine RVS.tmp _ rfl ?_; refine RVS.tmp _ rfl ?_; exact RVS.nil) rfl (by rw [if_pos rfl]; exact ⟨rfl, rfl⟩) (by repeat (first | exact Ent.nil | refine Ent.per (by repeat (first | with_reducible exact Sel.here | with_reducible apply Sel.there)) ?_ | refine Ent.cons (by repeat (first | with_reducible exact Sel.here | with_reducible apply Sel.there)) ?_))
    · refine go_ ?_
      exact s_rett (rs := [.tmp 4, .tmp 5, .tmp 6, .tmp 7]) (vs := [_, _, _, _]) Try.func31 rfl (by intro j; refine RVS.tmp _ rfl ?_; refine RVS.tmp _ rfl ?_; refine RVS.tmp _ rfl ?_; refine RVS.tmp _ rfl ?_; exact RVS.nil) rfl (by rw [if_pos rfl]; exact ⟨rfl, rfl⟩) (by repeat (first | exact Ent.nil | refine Ent.per (by repeat (first | with_reducible exact Sel.here | with_reducible apply Sel.there)) ?_ | refine Ent.cons (by repeat (first | with_reducible exact Sel.here | with_reducible apply Sel.there)) ?_))
end Go.Proofs.Ytimaipclgmcekaa

/- The reference's calls, told by the program's table: Exit. -/
namespace Go.Proofs.Ytimaipclgmcekaa
open Go.Cam
set_option maxRecDepth 100000
theorem oRow_snoc (xs : List Opn) (x : Opn) : ∀ i, i < xs.length + 1 → rcat xs.length (oRow xs) (fun _ => x.vals.toList) i = oRow (xs ++ [x]) i := by
  intro i hi
  by_cases h : i < xs.length
  · simp [rcat, h, oRow, List.getD_eq_getElem?_getD, List.getElem?_append_left h]
  · have e : i = xs.length := by omega
    subst e
    simp [rcat, oRow, List.getD_eq_getElem?_getD, Opn.vals]
set_option maxHeartbeats 2000000 in
theorem r_exit {y : Nat} {T : Tb} (I : Inv T) (pid code : Int) : Ctr Try.prog 30 [.pointer (some ⟨y,0,none⟩), .int .i64 pid, .int .i64 code] [Ref y T]
    (fun v Bs => (T.runs pid = false ∧ v = .tuple #[.slice none 0 0, .int .i64 25] ∧ Bs = [Ref y T]) ∨ (T.runs pid = true ∧ pid = 1 ∧ v = .tuple #[.slice none 0 0, .int .i64 1] ∧ Bs = [Ref y T]) ∨
      (T.runs pid = true ∧ pid ≠ 1 ∧ ∃ a cap, v = .tuple #[.slice a (T.gone pid).length cap, .int .i64 0] ∧ Bs = [SA (some 41) 7 (.slice a (T.gone pid).length cap) (T.gone pid).length (oRow (T.gone pid)), Ref y (T.exitT pid code)])) := by
  refine s_enter 91 [(0, _), (1, _), (2, _)] (fun F => [_, F]) Try.func30 fun F => ?_
  refine go_ ?_
  refine s_call (sp := (by repeat (first | exact Split.nil | apply Split.perx (by repeat (first | with_reducible exact Sel.here | with_reducible apply Sel.there)) (by infer_instance) | apply Split.cons (by repeat (first | with_reducible exact Sel.here | with_reducible apply Sel.there))))) (hs := r_runs pid) (h := ?_)
  rintro v Bs ⟨rfl, rfl⟩
  cases hr : T.runs pid
  · refine go_ ?_
    exact s_rett (rs := [.tmp 6, .tmp 7]) (vs := [_, _]) Try.func30 rfl (by intro j; refine RVS.tmp _ rfl ?_; refine RVS.tmp _ rfl ?_; exact RVS.nil) rfl (by exact .inl ⟨rfl, rfl, rfl⟩) (by repeat (first | exact Ent.nil | refine Ent.per (by repeat (first | with_reducible exact Sel.here | with_reducible apply Sel.there)) ?_ | refine Ent.cons (by repeat (first | with_reducible exact Sel.here | with_reducible apply Sel.there)) ?_))
  have hp := runs_bd hr
  refine go_ ?_
  refine s_ieq (fun h1 => ?_) (fun h1 => ?_)
  · refine go_ ?_
    exact s_rett (rs := [.tmp 6, .tmp 7]) (vs := [_, _]) Try.func30 rfl (by intro j; refine RVS.tmp _ rfl ?_; refine RVS.tmp _ rfl ?_; exact RVS.nil) rfl (by exact .inr (.inl ⟨rfl, h1, rfl, rfl⟩)) (by repeat (first | exact Ent.nil | refine Ent.per (by repeat (first | with_reducible exact Sel.here | with_reducible apply Sel.there)) ?_ | refine Ent.cons (by repeat (first | with_reducible exact Sel.here | with_reducible apply Sel.there)) ?_))
  obtain ⟨p, rfl⟩ : ∃ p : Nat, pid = p := ⟨pid.toNat, by omega⟩
  have hgone : T.gone (p : Int) = (exitL p (T.fd p) 8 0 T []).2 := rfl
  refine go_ ?_
  refine s_bs0 (row := oRow []) fun a0 => ?_
  refine go_ ?_
  refine s_loop (fun x : Nat × Tb × List Opn × Option Addr × Nat => [(0, .pointer (some ⟨y, 0, none⟩)), (1, .int .i64 p), (2, .int .i64 code), (9, .slice x.2.2.2.1 x.2.2.1.length x.2.2.2.2), (10, .int .i64 (x.1 : Nat))])
    (fun x => [Ref y x.2.1, SA (some 41) 7 (.slice x.2.2.2.1 x.2.2.1.length x.2.2.2.2) x.2.2.1.length (oRow x.2.2.1), F])
    (fun x => x.1 ≤ 8 ∧ Inv x.2.1 ∧ exitL p (T.fd p) (8 - x.1) x.1 x.2.1 x.2.2.1 = exitL p (T.fd p) 8 0 T [] ∧ (∀ g, x.1 ≤ g → x.2.1.fd p g = T.fd p g) ∧ x.2.2.1.length ≤ x.1) (fun x => 8 - x.1) (0, T, [], a0, 0) ⟨by simp, I, rfl, fun _ _ => rfl, by simp⟩ (by dsimp only [List.length_nil]; repeat (first | exact Ent.nil | refine Ent.per (by repeat (first | with_reducible exact Sel.here | with_reducible apply Sel.there)) ?_ | refine Ent.cons (by repeat (first | with_reducible exact Sel.here | with_reducible apply Sel.there)) ?_)) ?_
  rintro ⟨f, T1, xs, a, cap⟩ ⟨hf, I1, he, hfd, hxl⟩ next
  dsimp only at hf I1 he hfd hxl next ⊢
  refine go_ ?_
  refine s_if (fun h2 => ?_) (fun h2 => ?_)
  · obtain ⟨d, hd⟩ : ∃ d, 8 - f = d + 1 := ⟨7 - f, by omega⟩
    have e8 : 8 - (f + 1) = d := by omega
    rw [hd, exitL, ← hfd f (Nat.le_refl _)] at he
    have hbd := I1.fd p f
    refine go_ ?_
    refine s_look (lk_ldv (hv := RT.fd T1 p f (by omega) (by omega) (by omega))) ?_
    refine go_ ?_
    refine s_ieq (fun h3 => ?_) (fun h3 => ?_)
    · rw [if_pos h3] at he
      refine go_ ?_
      exact s_entF (by repeat (first | exact Ent.nil | refine Ent.per (by repeat (first | with_reducible exact Sel.here | with_reducible apply Sel.there)) ?_ | refine Ent.cons (by repeat (first | with_reducible exact Sel.here | with_reducible apply Sel.there)) ?_)) (s_keep _ (next (f + 1, T1, xs, a, cap) ⟨by dsimp only; omega, I1, by dsimp only; rw [e8]; exact he, fun g hg => hfd g (by dsimp only at hg; omega), by dsimp only; omega⟩ (by dsimp only; omega)))
    · rw [if_neg h3] at he
      obtain ⟨n, hn⟩ : ∃ n : Nat, T1.fd p f = (n : Int) + 1 := ⟨(T1.fd p f - 1).toNat, by omega⟩
      rw [hn, show ((n : Int) + 1 - 1).toNat = n by omega] at he
      refine go_ ?_
      refine s_call (sp := (by repeat (first | exact Split.nil | apply Split.perx (by repeat (first | with_reducible exact Sel.here | with_reducible apply Sel.there)) (by infer_instance) | apply Split.cons (by repeat (first | with_reducible exact Sel.here | with_reducible apply Sel.there))))) (hs := r_let I1 p f n (by omega) (by omega) hn (by omega)) (h := ?_)
      rintro v Bs ⟨rfl, rfl⟩
      have I2 : Inv (T1.letT p f n) := I1.letT (by omega) hn
      refine go_ ?_
      refine s_alloc fun r11 => ?_
      refine s_stw ?_
      refine go_ ?_
      cases h4 : decide (T1.us n - 1 > 0)
      · have h4' : ¬ T1.us n - 1 > 0 := by simpa using h4
        rw [if_neg h4'] at he
        refine go_ ?_
        refine s_bs1 (cells := (T1.op n).vals.toList) (hc := ⟨rfl, rfl⟩) (fun a1 => ?_)
        refine s_app (a := a) (len := xs.length) (cap := cap) (b := a1) (m := 1) (c := 1) (by repeat (first | with_reducible exact Sel.here | with_reducible apply Sel.there)) (by repeat (first | with_reducible exact SelR.here | with_reducible apply SelR.there)) ?_ (fun a2 cap2 => ?_)
        · rfl
        refine s_open (SA.cg (oRow (xs ++ [T1.op n])) (oRow_snoc xs (T1.op n))) ?_
        rw [show xs.length + 1 = (xs ++ [T1.op n]).length by simp]
        refine go_ ?_
        exact s_entF (by repeat (first | exact Ent.nil | refine Ent.per (by repeat (first | with_reducible exact Sel.here | with_reducible apply Sel.there)) ?_ | refine Ent.cons (by repeat (first | with_reducible exact Sel.here | with_reducible apply Sel.there)) ?_)) (s_keep _ (next (f + 1, T1.letT p f n, xs ++ [T1.op n], a2, cap2) ⟨by dsimp only; omega, I2, by dsimp only; rw [e8]; exact he, fun g hg => by dsimp only at hg ⊢; rw [letT_fd _ _ _ _ _ _ (by omega)]; exact hfd g (by omega), by dsimp only; simp; omega⟩ (by dsimp only; omega)))
      · have h4' : T1.us n - 1 > 0 := by simpa using h4
        rw [if_pos h4'] at he
        refine go_ ?_
        exact s_entF (by repeat (first | exact Ent.nil | refine Ent.per (by repeat (first | with_reducible exact Sel.here | with_reducible apply Sel.there)) ?_ | refine Ent.cons (by repeat (first | with_reducible exact Sel.here | with_reducible apply Sel.there)) ?_)) (s_keep _ (next (f + 1, T1.letT p f n, xs, a, cap) ⟨by dsimp only; omega, I2, by dsimp only; rw [e8]; exact he, fun g hg => by dsimp only at hg ⊢; rw [letT_fd _ _ _ _ _ _ (by omega)]; exact hfd g (by omega), by dsimp only; omega⟩ (by dsimp only; omega)))
  have e0 : 8 - f = 0 := by omega
  rw [e0, exitL] at he
  obtain ⟨hT1, hxs⟩ : T1 = (exitL p (T.fd p) 8 0 T []).1 ∧ xs = T.gone p := by rw [hgone, ← he]; exact ⟨rfl, rfl⟩
  have hr0 : reparent p 9 0 T1 = reparent p 8 1 T1 := by
    rw [reparent, if_neg (fun c => c.1 I1.s0)]
  have hex : T.exitT (p : Int) code = ((reparent p 8 1 T1).setSt p 2).setCode p code := by
    rw [← hr0, hT1]; rfl
  subst hxs
  refine go_ ?_
  refine s_loop (fun x : Nat × Tb => [(0, .pointer (some ⟨y, 0, none⟩)), (1, .int .i64 p), (2, .int .i64 code), (9, .slice a (T.gone p).length cap), (13, .int .i64 (x.1 : Nat))])
    (fun x => [Ref y x.2, SA (some 41) 7 (.slice a (T.gone p).length cap) (T.gone p).length (oRow (T.gone p)), F])
    (fun x => 1 ≤ x.1 ∧ x.1 ≤ 9 ∧ reparent p (9 - x.1) x.1 x.2 = reparent p 8 1 T1) (fun x => 9 - x.1) (1, T1) ⟨by simp, by simp, rfl⟩ (by repeat (first | exact Ent.nil | refine Ent.per (by repeat (first | with_reducible exact Sel.here | with_reducible apply Sel.there)) ?_ | refine Ent.cons (by repeat (first | with_reducible exact Sel.here | with_reducible apply Sel.there)) ?_)) ?_
  rintro ⟨i, T2⟩ ⟨hi1, hi, he2⟩ next2
  dsimp only at hi1 hi he2 next2 ⊢
  refine go_ ?_
  refine s_if (fun h5 => ?_) (fun h5 => ?_)
  · obtain ⟨d, hd⟩ : ∃ d, 9 - i = d + 1 := ⟨8 - i, by omega⟩
    have e8 : 9 - (i + 1) = d := by omega
    rw [hd, reparent] at he2
    refine go_ ?_
    refine s_look (lk_ldv (hv := RT.st T2 i rfl (by omega))) ?_
    refine go_ ?_
    cases h6 : (T2.st i != 0)
    · have h6' : T2.st i = 0 := by simpa using h6
      rw [if_neg (fun c => c.1 h6')] at he2
      refine go_ ?_
      exact s_entF (by repeat (first | exact Ent.nil | refine Ent.per (by repeat (first | with_reducible exact Sel.here | with_reducible apply Sel.there)) ?_ | refine Ent.cons (by repeat (first | with_reducible exact Sel.here | with_reducible apply Sel.there)) ?_)) (s_keep _ (next2 (i + 1, T2) ⟨by dsimp only; omega, by dsimp only; omega, by dsimp only; rw [e8]; exact he2⟩ (by dsimp only; omega)))
    · have h6' : T2.st i ≠ 0 := by simpa using h6
      refine go_ ?_
      refine s_look (lk_ldv (hv := RT.par T2 i rfl (by omega))) ?_
      refine go_ ?_
      refine s_ieq (fun h7 => ?_) (fun h7 => ?_)
      · rw [if_pos ⟨h6', h7⟩] at he2
        refine go_ ?_
        refine s_stt ?_
        rw [put_par T2 (p := i) rfl (by omega)]
        refine go_ ?_
        exact s_entF (by repeat (first | exact Ent.nil | refine Ent.per (by repeat (first | with_reducible exact Sel.here | with_reducible apply Sel.there)) ?_ | refine Ent.cons (by repeat (first | with_reducible exact Sel.here | with_reducible apply Sel.there)) ?_)) (s_keep _ (next2 (i + 1, T2.setPar i 1) ⟨by dsimp only; omega, by dsimp only; omega, by dsimp only; rw [e8]; exact he2⟩ (by dsimp only; omega)))
      · rw [if_neg (fun c => h7 c.2)] at he2
        refine go_ ?_
        exact s_entF (by repeat (first | exact Ent.nil | refine Ent.per (by repeat (first | with_reducible exact Sel.here | with_reducible apply Sel.there)) ?_ | refine Ent.cons (by repeat (first | with_reducible exact Sel.here | with_reducible apply Sel.there)) ?_)) (s_keep _ (next2 (i + 1, T2) ⟨by dsimp only; omega, by dsimp only; omega, by dsimp only; rw [e8]; exact he2⟩ (by dsimp only; omega)))
  · have e0 : 9 - i = 0 := by omega
    rw [e0, reparent] at he2
    subst he2
    refine go_ ?_
    refine s_stt ?_
    rw [put_st (reparent p 8 1 T1) (p := p) rfl (by omega)]
    refine go_ ?_
    refine s_stt ?_
    rw [put_code ((reparent p 8 1 T1).setSt p 2) (p := p) rfl (by omega)]
    refine go_ ?_
    rw [← hex]
    exact s_rett (rs := [.tmp 6, .tmp 7]) (vs := [_, _]) Try.func30 rfl (by intro j; refine RVS.tmp _ rfl ?_; refine RVS.tmp _ rfl ?_; exact RVS.nil) rfl (by exact .inr (.inr ⟨rfl, h1, _, _, rfl, rfl⟩)) (by repeat (first | exact Ent.nil | refine Ent.per (by repeat (first | with_reducible exact Sel.here | with_reducible apply Sel.there)) ?_ | refine Ent.cons (by repeat (first | with_reducible exact Sel.here | with_reducible apply Sel.there)) ?_))
end Go.Proofs.Ytimaipclgmcekaa
