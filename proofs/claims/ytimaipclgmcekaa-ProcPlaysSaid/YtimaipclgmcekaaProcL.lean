/- The reference's calls, told by the program's table: Fork, Dup, Open, Close. -/
import Derived.Test.YtimaipclgmcekaaProcP
namespace Go.Proofs.Ytimaipclgmcekaa
open Go.Cam
set_option maxRecDepth 100000
set_option maxHeartbeats 1000000 in
theorem r_fork {y : Nat} {T : Tb} (I : Inv T) (pid : Int) : Ctr Try.prog 29 [.pointer (some ⟨y,0,none⟩), .int .i64 pid] [Ref y T]
    (fun v Bs => if T.runs pid = true then (match T.slot 9 0 with
      | none => v = .tuple #[.int .i64 0, .int .i64 21] ∧ Bs = [Ref y T]
      | some i => v = .tuple #[.int .i64 i, .int .i64 0] ∧ Bs = [Ref y (T.forkT pid i)]) else v = .tuple #[.int .i64 0, .int .i64 25] ∧ Bs = [Ref y T]) := by
  refine s_enter 40 [(0, _), (1, _)] (fun F => [_, F]) Try.func29 fun F => ?_
  refine go_ ?_
  refine s_call (sp := (by repeat (first | exact Split.nil | apply Split.perx (by repeat (first | with_reducible exact Sel.here | with_reducible apply Sel.there)) (by infer_instance) | apply Split.cons (by repeat (first | with_reducible exact Sel.here | with_reducible apply Sel.there))))) (hs := r_runs pid) (h := ?_)
  rintro v Bs ⟨rfl, rfl⟩
  cases hr : T.runs pid
  · refine go_ ?_
    exact s_rett (rs := [.tmp 4, .tmp 5]) (vs := [_, _]) Try.func29 rfl (by intro j; refine RVS.tmp _ rfl ?_; refine RVS.tmp _ rfl ?_; exact RVS.nil) rfl (by rw [if_neg (by simp)]; exact ⟨rfl, rfl⟩) (by repeat (first | exact Ent.nil | refine Ent.per (by repeat (first | with_reducible exact Sel.here | with_reducible apply Sel.there)) ?_ | refine Ent.cons (by repeat (first | with_reducible exact Sel.here | with_reducible apply Sel.there)) ?_))
  have hp := runs_bd hr
  obtain ⟨p, rfl⟩ : ∃ p : Nat, pid = p := ⟨pid.toNat, by omega⟩
  have h90 : T.slot 9 0 = T.slot 8 1 := by rw [Tb.slot, if_pos (by omega)]
  generalize hs : T.slot 9 0 = s
  rw [hs] at h90
  refine go_ ?_
  refine s_loop (fun i : Nat => [(0, .pointer (some ⟨y, 0, none⟩)), (1, .int .i64 p), (7, .int .i64 i)]) (fun _ => [Ref y T, F]) (fun i => 1 ≤ i ∧ i ≤ 9 ∧ T.slot (9 - i) i = s) (fun i => 9 - i) 1 ⟨by omega, by omega, h90.symm⟩ (by repeat (first | exact Ent.nil | refine Ent.per (by repeat (first | with_reducible exact Sel.here | with_reducible apply Sel.there)) ?_ | refine Ent.cons (by repeat (first | with_reducible exact Sel.here | with_reducible apply Sel.there)) ?_)) ?_
  rintro i ⟨hi1, hi, he⟩ next
  refine go_ ?_
  refine s_if (fun h1 => ?_) (fun h1 => ?_)
  · obtain ⟨d, hd⟩ : ∃ d, 9 - i = d + 1 := ⟨8 - i, by omega⟩
    rw [hd, Tb.slot] at he
    refine go_ ?_
    refine s_look (lk_ldv (hv := RT.st T i rfl (by omega))) ?_
    refine go_ ?_
    refine s_ieq (fun h2 => ?_) (fun h2 => ?_)
    · rw [if_neg (by omega)] at he
      subst he
      refine go_ ?_
      refine s_drawN 1 [(true, 0), (true, 1), (true, 2), (true, 3), (true, 4), (true, 5), (true, 6), (true, 7), (true, 8), (true, 11), (true, 12), (false, 9), (true, 10), (true, 13), (false, 14)] ?_
      refine do_ ?_
      refine d_step rfl (st_lk (lk_ldtN (hv := ext_fdsR T (p := p) (by omega) (by omega)))) ?_
      rintro _ _ ⟨rfl, rfl⟩
      refine do_ ?_
      refine d_stepU rfl (st_sttN (vs := procL 1 p 0 (T.fd p)) (hv := put_proc T 1 p 0 (T.fd p) (p := i) (by omega) (by omega))) ?_
      rintro _ _ rfl
      refine do_ ?_
      refine go_ ?_
      obtain ⟨f1, f2, f3, f4, f5⟩ := forkT_flds T p i
      have e2 : Ref y (T.setProc i 1 p 0 (T.fd p)) = Ref y (T.forkT p i) := by
        refine Ref.ext (fun q => by rw [f1]; rfl) (fun q => by rw [f2]; rfl) (fun q => by rw [f3]; rfl) (fun q g => by rw [f4]; rfl) (fun n => by rw [f5]; rfl) fun n => ?_
        rw [forkT_us I]
        have h3 := row_bd (T.fd p) n
        have h4 := I.us0 n
        have h5 := row_pos_us I (p := p) (n := n) (by omega)
        show T.us n > 0 ↔ _
        constructor
        · intro h; show T.us n + row (T.fd p) n > 0; omega
        · intro h
          have h6 : T.us n + row (T.fd p) n > 0 := h
          by_cases c : row (T.fd p) n > 0
          · exact h5 c
          · omega
      exact s_rett (rs := [.tmp 4, .tmp 5]) (vs := [_, _]) Try.func29 rfl (by intro j; refine RVS.tmp _ rfl ?_; refine RVS.tmp _ rfl ?_; exact RVS.nil) rfl (by rw [if_pos rfl]; exact ⟨rfl, congrArg (fun a => [a]) e2⟩) (by repeat (first | exact Ent.nil | refine Ent.per (by repeat (first | with_reducible exact Sel.here | with_reducible apply Sel.there)) ?_ | refine Ent.cons (by repeat (first | with_reducible exact Sel.here | with_reducible apply Sel.there)) ?_))
    · rw [if_pos (by omega)] at he
      refine go_ ?_
      exact s_entF (by repeat (first | exact Ent.nil | refine Ent.per (by repeat (first | with_reducible exact Sel.here | with_reducible apply Sel.there)) ?_ | refine Ent.cons (by repeat (first | with_reducible exact Sel.here | with_reducible apply Sel.there)) ?_)) (s_keep _ (next (i + 1) ⟨by omega, by omega, by rw [show 9 - (i + 1) = d by omega]; exact he⟩ (by omega)))
  · have e0 : 9 - i = 0 := by omega
    rw [e0, Tb.slot] at he
    subst he
    refine go_ ?_
    exact s_rett (rs := [.tmp 4, .tmp 5]) (vs := [_, _]) Try.func29 rfl (by intro j; refine RVS.tmp _ rfl ?_; refine RVS.tmp _ rfl ?_; exact RVS.nil) rfl (by rw [if_pos rfl]; exact ⟨rfl, rfl⟩) (by repeat (first | exact Ent.nil | refine Ent.per (by repeat (first | with_reducible exact Sel.here | with_reducible apply Sel.there)) ?_ | refine Ent.cons (by repeat (first | with_reducible exact Sel.here | with_reducible apply Sel.there)) ?_))
end Go.Proofs.Ytimaipclgmcekaa

/- The reference's calls, told by the program's table: Dup, Open, Close, Wait. -/
namespace Go.Proofs.Ytimaipclgmcekaa
open Go.Cam
set_option maxRecDepth 100000
set_option maxHeartbeats 1000000 in
theorem r_dup {y : Nat} {T : Tb} (I : Inv T) (pid fd : Int) : Ctr Try.prog 34 [.pointer (some ⟨y,0,none⟩), .int .i64 pid, .int .i64 fd] [Ref y T]
    (fun v Bs => if T.err pid fd = 0 then (if freeAt (T.fd pid.toNat) 8 0 = -1 then v = .tuple #[.int .i64 0, .int .i64 21] ∧ Bs = [Ref y T]
      else v = .tuple #[.int .i64 (freeAt (T.fd pid.toNat) 8 0), .int .i64 0] ∧ Bs = [Ref y (T.dupT pid.toNat (freeAt (T.fd pid.toNat) 8 0).toNat (T.no pid fd))]) else v = .tuple #[.int .i64 0, .int .i64 (T.err pid fd)] ∧ Bs = [Ref y T]) := by
  refine s_enter 37 [(0, _), (1, _), (2, _)] (fun F => [_, F]) Try.func34 fun F => ?_
  refine go_ ?_
  refine s_call (sp := (by repeat (first | exact Split.nil | apply Split.perx (by repeat (first | with_reducible exact Sel.here | with_reducible apply Sel.there)) (by infer_instance) | apply Split.cons (by repeat (first | with_reducible exact Sel.here | with_reducible apply Sel.there))))) (hs := r_at I.bd pid fd) (h := ?_)
  rintro v Bs ⟨rfl, rfl⟩
  by_cases he : T.err pid fd = 0
  · obtain ⟨hr, hf, hn, h16⟩ := err0 he I.bd
    have hp := runs_bd hr
    obtain ⟨p, rfl⟩ : ∃ p : Nat, pid = p := ⟨pid.toNat, by omega⟩
    rw [show (if T.err (p : Int) fd = 0 then ((T.no (p : Int) fd : Nat) : Int) else 0) = (T.no (p : Int) fd : Nat) from if_pos he]
    refine go_ ?_
    rw [show (T.err (p : Int) fd != 0) = false by simpa using he]
    refine go_ ?_
    refine s_call (sp := (by repeat (first | exact Split.nil | apply Split.perx (by repeat (first | with_reducible exact Sel.here | with_reducible apply Sel.there)) (by infer_instance) | apply Split.cons (by repeat (first | with_reducible exact Sel.here | with_reducible apply Sel.there))))) (hs := r_free p (by omega)) (h := ?_)
    rintro v Bs ⟨rfl, rfl⟩
    rcases freeAt_bd (T.fd p) 8 0 with hq | ⟨q, hq, _, hq8, hz, _⟩
    · rw [hq]
      refine go_ ?_
      exact s_rett (rs := [.tmp 6, .tmp 7]) (vs := [_, _]) Try.func34 rfl (by intro j; refine RVS.tmp _ rfl ?_; refine RVS.tmp _ rfl ?_; exact RVS.nil) rfl (by rw [if_pos he, Int.toNat_natCast, hq, if_pos rfl]; exact ⟨rfl, rfl⟩) (by repeat (first | exact Ent.nil | refine Ent.per (by repeat (first | with_reducible exact Sel.here | with_reducible apply Sel.there)) ?_ | refine Ent.cons (by repeat (first | with_reducible exact Sel.here | with_reducible apply Sel.there)) ?_))
    · rw [hq]
      refine go_ ?_
      rw [show decide ((q : Int) < 0) = false by simp]
      refine go_ ?_
      refine s_stt ?_
      rw [put_fd T (p := p) (f := q) (by omega) (by omega) (by omega)]
      refine go_ ?_
      have hu := I.used (p := p) (f := fd.toNat) (by omega) hn
      have e2 : Ref y (T.setFd p q ((T.no p fd : Nat) + 1)) = Ref y (T.dupT p q (T.no p fd)) := by
        refine Ref.ext (fun _ => rfl) (fun _ => rfl) (fun _ => rfl) (fun _ _ => rfl) (fun _ => rfl) fun m => ?_
        show T.us m > 0 ↔ (if m = T.no p fd then T.us (T.no p fd) + 1 else T.us m) > 0
        by_cases c : m = T.no p fd
        · rw [if_pos c, c]; omega
        · rw [if_neg c]
      exact s_rett (rs := [.tmp 6, .tmp 7]) (vs := [_, _]) Try.func34 rfl (by intro j; refine RVS.tmp _ rfl ?_; refine RVS.tmp _ rfl ?_; exact RVS.nil) rfl (by rw [if_pos he, Int.toNat_natCast, hq, if_neg (by omega)]; exact ⟨rfl, congrArg (fun a => [a]) e2⟩) (by repeat (first | exact Ent.nil | refine Ent.per (by repeat (first | with_reducible exact Sel.here | with_reducible apply Sel.there)) ?_ | refine Ent.cons (by repeat (first | with_reducible exact Sel.here | with_reducible apply Sel.there)) ?_))
  · rw [show (if T.err pid fd = 0 then ((T.no pid fd : Nat) : Int) else 0) = 0 from if_neg he]
    refine go_ ?_
    rw [show (T.err pid fd != 0) = true by simpa using he]
    refine go_ ?_
    exact s_rett (rs := [.tmp 6, .tmp 7]) (vs := [_, _]) Try.func34 rfl (by intro j; refine RVS.tmp _ rfl ?_; refine RVS.tmp _ rfl ?_; exact RVS.nil) rfl (by rw [if_neg he]; exact ⟨rfl, rfl⟩) (by repeat (first | exact Ent.nil | refine Ent.per (by repeat (first | with_reducible exact Sel.here | with_reducible apply Sel.there)) ?_ | refine Ent.cons (by repeat (first | with_reducible exact Sel.here | with_reducible apply Sel.there)) ?_))
set_option maxHeartbeats 1000000 in
theorem r_open {y : Nat} {T : Tb} (I : Inv T) (pid : Int) (x : Opn) : Ctr Try.prog 32 [.pointer (some ⟨y,0,none⟩), .int .i64 pid, .agg x.vals] [Ref y T]
    (fun v Bs => if T.runs pid = true then (if freeAt (T.fd pid.toNat) 8 0 = -1 then v = .tuple #[.int .i64 0, .int .i64 21] ∧ Bs = [Ref y T] else match T.file 16 0 with
      | none => v = .tuple #[.int .i64 0, .int .i64 21] ∧ Bs = [Ref y T]
      | some i => v = .tuple #[.int .i64 (freeAt (T.fd pid.toNat) 8 0), .int .i64 0] ∧ Bs = [Ref y (T.openT pid x (freeAt (T.fd pid.toNat) 8 0).toNat i)]) else v = .tuple #[.int .i64 0, .int .i64 25] ∧ Bs = [Ref y T]) := by
  refine s_enter 56 [(0, _), (1, _), (2, _)] (fun F => [_, F]) Try.func32 fun F => ?_
  refine s_seq (s_region ?_)
  refine s_box (c := x.vals.toList) (hc := ⟨rfl, rfl⟩) fun r5 => ?_
  refine go_ ?_
  refine s_call (sp := (by repeat (first | exact Split.nil | apply Split.perx (by repeat (first | with_reducible exact Sel.here | with_reducible apply Sel.there)) (by infer_instance) | apply Split.cons (by repeat (first | with_reducible exact Sel.here | with_reducible apply Sel.there))))) (hs := r_runs pid) (h := ?_)
  rintro v Bs ⟨rfl, rfl⟩
  cases hr : T.runs pid
  · refine go_ ?_
    exact s_rett (rs := [.tmp 6, .tmp 7]) (vs := [_, _]) Try.func32 rfl (by intro j; refine RVS.tmp _ rfl ?_; refine RVS.tmp _ rfl ?_; exact RVS.nil) rfl (by rw [if_neg (by simp)]; exact ⟨rfl, rfl⟩) (by repeat (first | exact Ent.nil | refine Ent.per (by repeat (first | with_reducible exact Sel.here | with_reducible apply Sel.there)) ?_ | refine Ent.cons (by repeat (first | with_reducible exact Sel.here | with_reducible apply Sel.there)) ?_))
  have hp := runs_bd hr
  obtain ⟨p, rfl⟩ : ∃ p : Nat, pid = p := ⟨pid.toNat, by omega⟩
  refine go_ ?_
  refine s_call (sp := (by repeat (first | exact Split.nil | apply Split.perx (by repeat (first | with_reducible exact Sel.here | with_reducible apply Sel.there)) (by infer_instance) | apply Split.cons (by repeat (first | with_reducible exact Sel.here | with_reducible apply Sel.there))))) (hs := r_free p (by omega)) (h := ?_)
  rintro v Bs ⟨rfl, rfl⟩
  generalize hs : T.file 16 0 = s
  rcases freeAt_bd (T.fd p) 8 0 with hq | ⟨q, hq, _, hq8, hz, _⟩
  · rw [hq]
    refine go_ ?_
    refine s_unroll ?_
    refine go_ ?_
    exact s_rett (rs := [.tmp 6, .tmp 7]) (vs := [_, _]) Try.func32 rfl (by intro j; refine RVS.tmp _ rfl ?_; refine RVS.tmp _ rfl ?_; exact RVS.nil) rfl (by rw [if_pos rfl, Int.toNat_natCast, hq, if_pos rfl]; exact ⟨rfl, rfl⟩) (by repeat (first | exact Ent.nil | refine Ent.per (by repeat (first | with_reducible exact Sel.here | with_reducible apply Sel.there)) ?_ | refine Ent.cons (by repeat (first | with_reducible exact Sel.here | with_reducible apply Sel.there)) ?_))
  rw [hq]
  refine go_ ?_
  refine s_loop (fun i : Nat => [(0, .pointer (some ⟨y, 0, none⟩)), (1, .int .i64 p), (5, .pointer (some ⟨r5, 0, none⟩)), (9, .int .i64 q), (10, .int .i64 i)]) (fun _ => [Ref y T, Box r5 41 x.vals.toList, F]) (fun i => i ≤ 16 ∧ T.file (16 - i) i = s) (fun i => 16 - i) 0 ⟨by omega, hs⟩ (by repeat (first | exact Ent.nil | refine Ent.per (by repeat (first | with_reducible exact Sel.here | with_reducible apply Sel.there)) ?_ | refine Ent.cons (by repeat (first | with_reducible exact Sel.here | with_reducible apply Sel.there)) ?_)) ?_
  rintro i ⟨hi, he⟩ next
  refine go_ ?_
  by_cases h1 : i < 16
  rotate_left
  · have e0 : 16 - i = 0 := by omega
    rw [e0, Tb.file] at he
    subst he
    rw [show decide ((i : Int) < 16) = false from decide_eq_false (by omega)]
    refine go_ ?_
    exact s_rett (rs := [.tmp 6, .tmp 7]) (vs := [_, _]) Try.func32 rfl (by intro j; refine RVS.tmp _ rfl ?_; refine RVS.tmp _ rfl ?_; exact RVS.nil) rfl (by rw [if_pos rfl, Int.toNat_natCast, hq, if_neg (by omega)]; exact ⟨rfl, rfl⟩) (by repeat (first | exact Ent.nil | refine Ent.per (by repeat (first | with_reducible exact Sel.here | with_reducible apply Sel.there)) ?_ | refine Ent.cons (by repeat (first | with_reducible exact Sel.here | with_reducible apply Sel.there)) ?_))
  rw [show decide ((i : Int) < 16) = true from decide_eq_true (by omega)]
  refine go_ ?_
  rw [show decide ((q : Int) ≥ 0) = true by simp]
  refine go_ ?_
  obtain ⟨d, hd⟩ : ∃ d, 16 - i = d + 1 := ⟨15 - i, by omega⟩
  rw [hd, Tb.file] at he
  have hu := I.us0 i
  refine s_look (lk_ldv (hv := RT.is T i (by omega))) ?_
  refine go_ ?_
  by_cases h2 : T.us i = 0
  · rw [if_pos h2] at he
    subst he
    rw [show decide (T.us i > 0) = false from decide_eq_false (by omega)]
    refine go_ ?_
    refine s_stt ?_
    rw [put_is T (n := i) (u := 1) (by omega) (by omega) (by simp)]
    refine go_ ?_
    refine s_drawN 1 [(true, 0), (true, 1), (true, 2), (true, 3), (true, 4), (true, 5), (false, 6)] ?_
    refine do_ ?_
    refine d_stepU rfl (st_sttN (vs := x.vals.toList) (hv := put_op (T.setUs i 1) (n := i) x (by omega) (by omega))) ?_
    rintro _ _ rfl
    refine do_ ?_
    refine go_ ?_
    refine s_stt ?_
    rw [put_fd ((T.setUs i 1).setOp i x) (p := p) (f := q) (by omega) (by omega) (by omega)]
    refine go_ ?_
    exact s_rett (rs := [.tmp 6, .tmp 7]) (vs := [_, _]) Try.func32 rfl (by intro j; refine RVS.tmp _ rfl ?_; refine RVS.tmp _ rfl ?_; exact RVS.nil) rfl (by rw [if_pos rfl, Int.toNat_natCast, hq, if_neg (by omega)]; exact ⟨rfl, congrArg (fun a => [a]) (show Ref y (((T.setUs i 1).setOp i x).setFd p q (i + 1)) = Ref y (T.openT p x q i) from rfl)⟩) (by repeat (first | exact Ent.nil | refine Ent.per (by repeat (first | with_reducible exact Sel.here | with_reducible apply Sel.there)) ?_ | refine Ent.cons (by repeat (first | with_reducible exact Sel.here | with_reducible apply Sel.there)) ?_))
  · rw [if_neg h2] at he
    rw [show decide (T.us i > 0) = true from decide_eq_true (by omega)]
    refine go_ ?_
    exact s_entF (by repeat (first | exact Ent.nil | refine Ent.per (by repeat (first | with_reducible exact Sel.here | with_reducible apply Sel.there)) ?_ | refine Ent.cons (by repeat (first | with_reducible exact Sel.here | with_reducible apply Sel.there)) ?_)) (s_keep _ (next (i + 1) ⟨by omega, by rw [show 16 - (i + 1) = d by omega]; exact he⟩ (by omega)))
set_option maxHeartbeats 1000000 in
theorem r_close {y : Nat} {T : Tb} (I : Inv T) (pid fd : Int) : Ctr Try.prog 33 [.pointer (some ⟨y,0,none⟩), .int .i64 pid, .int .i64 fd] [Ref y T]
    (fun v Bs => if T.err pid fd = 0 then v = .tuple #[.agg (T.op (T.no pid fd)).vals, .bool (!decide (T.us (T.no pid fd) - 1 > 0)), .int .i64 0] ∧ Bs = [Ref y (T.letT pid.toNat fd.toNat (T.no pid fd))]
      else v = .tuple #[.agg Opn.zero.vals, .bool false, .int .i64 (T.err pid fd)] ∧ Bs = [Ref y T]) := by
  refine s_enter 33 [(0, _), (1, _), (2, _)] (fun F => [_, F]) Try.func33 fun F => ?_
  refine s_seq (s_region ?_)
  refine s_alloc fun r6 => ?_
  refine go_ ?_
  refine s_call (sp := (by repeat (first | exact Split.nil | apply Split.perx (by repeat (first | with_reducible exact Sel.here | with_reducible apply Sel.there)) (by infer_instance) | apply Split.cons (by repeat (first | with_reducible exact Sel.here | with_reducible apply Sel.there))))) (hs := r_at I.bd pid fd) (h := ?_)
  rintro v Bs ⟨rfl, rfl⟩
  by_cases he : T.err pid fd = 0
  · obtain ⟨hr, hf, hn, h16⟩ := err0 he I.bd
    have hp := runs_bd hr
    obtain ⟨p, rfl⟩ : ∃ p : Nat, pid = p := ⟨pid.toNat, by omega⟩
    obtain ⟨f, rfl⟩ : ∃ f : Nat, fd = f := ⟨fd.toNat, by omega⟩
    rw [show (if T.err (p : Int) (f : Int) = 0 then ((T.no (p : Int) (f : Int) : Nat) : Int) else 0) = (T.no (p : Int) (f : Int) : Nat) from if_pos he]
    refine go_ ?_
    rw [show (T.err (p : Int) (f : Int) != 0) = false by simpa using he]
    refine go_ ?_
    refine s_call (sp := (by repeat (first | exact Split.nil | apply Split.perx (by repeat (first | with_reducible exact Sel.here | with_reducible apply Sel.there)) (by infer_instance) | apply Split.cons (by repeat (first | with_reducible exact Sel.here | with_reducible apply Sel.there))))) (hs := r_let I p f (T.no p f) (by omega) (by omega) hn h16) (h := ?_)
    rintro v Bs ⟨rfl, rfl⟩
    refine go_ ?_
    refine s_alloc fun r11 => ?_
    refine s_stw ?_
    refine go_ ?_
    refine s_stw ?_
    refine go_ ?_
    exact s_rett (rs := [.cell 6 41, .tmp 7, .tmp 8]) (vs := [_, _, _]) Try.func33 rfl (by intro j; refine RVS.cell _ _ rfl (by repeat (first | with_reducible exact Sel.here | with_reducible apply Sel.there)) (by rfl) ?_; refine RVS.tmp _ rfl ?_; refine RVS.tmp _ rfl ?_; exact RVS.nil) rfl (by rw [if_pos he, Int.toNat_natCast, Int.toNat_natCast]; exact ⟨rfl, rfl⟩) (by repeat (first | exact Ent.nil | refine Ent.per (by repeat (first | with_reducible exact Sel.here | with_reducible apply Sel.there)) ?_ | refine Ent.cons (by repeat (first | with_reducible exact Sel.here | with_reducible apply Sel.there)) ?_))
  · rw [show (if T.err pid fd = 0 then ((T.no pid fd : Nat) : Int) else 0) = 0 from if_neg he]
    refine go_ ?_
    rw [show (T.err pid fd != 0) = true by simpa using he]
    refine go_ ?_
    exact s_rett (rs := [.cell 6 41, .tmp 7, .tmp 8]) (vs := [_, _, _]) Try.func33 rfl (by intro j; refine RVS.cell _ _ rfl (by repeat (first | with_reducible exact Sel.here | with_reducible apply Sel.there)) (by rfl) ?_; refine RVS.tmp _ rfl ?_; refine RVS.tmp _ rfl ?_; exact RVS.nil) rfl (by rw [if_neg he]; exact ⟨rfl, rfl⟩) (by repeat (first | exact Ent.nil | refine Ent.per (by repeat (first | with_reducible exact Sel.here | with_reducible apply Sel.there)) ?_ | refine Ent.cons (by repeat (first | with_reducible exact Sel.here | with_reducible apply Sel.there)) ?_))
end Go.Proofs.Ytimaipclgmcekaa
