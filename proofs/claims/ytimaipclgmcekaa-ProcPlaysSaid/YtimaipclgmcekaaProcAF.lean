/- The calls of the program's table and of the reference's, by the same functions. -/
import Derived.Test.YtimaipclgmcekaaProcAD
import Derived.Test.YtimaipclgmcekaaProcY
namespace Go.Proofs.Ytimaipclgmcekaa
open Go.Cam
set_option maxRecDepth 100000
theorem _root_.Go.Cam.Ctr.mono {P : Program} {q : FuncId} {args : List Value} {As : List HP} {Q Q' : Value → List HP → Prop} (h : Ctr P q args As Q) (hq : ∀ v Bs, Q v Bs → Q' v Bs) : Ctr P q args As Q' := fun F H M s =>
  (h F H M s).mono fun v H' M' ⟨Bs, a, b⟩ => ⟨Bs, hq v Bs a, b⟩
theorem chgF {q : FuncId} {args : List Value} {b : Nat} {T T' : Tb} {val : Value} (h : ∀ H M, M b = some T.obj → ACalls Try.prog q args.toArray H M (fun v H' M' => v = val ∧ H' = H ∧ M' b = some T'.obj ∧ Ch [b] M M')) :
    Ctr Try.prog q args [Tbl b T] (fun v Bs => v = val ∧ Bs = [Tbl b T']) :=
  (chgT (φ := fun v T'' => v = val ∧ T'' = T') fun H M hT => (h H M hT).mono fun v H' M' ⟨a, b, c, d⟩ => ⟨T', ⟨a, rfl⟩, b, c, d⟩).mono fun v Bs ⟨T'', ⟨a, e⟩, hb⟩ => ⟨a, by rw [hb, e]⟩
theorem sameM {M M' : Heap} {b : Nat} {o : Obj} (m : M' = M) (hT : M b = some o) : M' b = some o ∧ Ch [b] M M' := by subst m; exact ⟨hT, Ch.refl _ _⟩
theorem sameC {M M' : Heap} {b : Nat} {o : Obj} (m : Ch [] M M') (hT : M b = some o) : M' b = some o ∧ Ch [b] M M' := ⟨ch_same m hT, m.mono (by simp)⟩
/-! Fork -/
def fkR (T : Tb) (pid : Int) : Int × Int × Tb := if T.runs pid = true then (match T.slot 9 0 with | none => (0, 21, T) | some i => ((i : Int), 0, T.forkT pid i)) else (0, 25, T)
abbrev fkQ (at_ : Tb → HP) (T : Tb) (pid : Int) (v : Value) (Bs : List HP) : Prop := v = .tuple #[.int .i64 (fkR T pid).1, .int .i64 (fkR T pid).2.1] ∧ Bs = [at_ (fkR T pid).2.2]
theorem r_fk {y : Nat} {T : Tb} (I : Inv T) (pid : Int) : Ctr Try.prog 29 [.pointer (some ⟨y,0,none⟩), .int .i64 pid] [Ref y T] (fkQ (Ref y) T pid) := (r_fork I pid).mono fun v Bs => by
  unfold fkQ fkR
  by_cases c : T.runs pid = true
  · simp only [if_pos c]; cases T.slot 9 0 <;> exact id
  · simp only [if_neg c]; exact id
theorem p_fk {b : Nat} {T : Tb} (I : Inv T) (pid : Int) : Ctr Try.prog 9 [.pointer (some ⟨b,0,none⟩), .int .i64 pid] [Tbl b T] (fkQ (Tbl b) T pid) := by
  refine chgF fun H M hT => ?_
  unfold fkR
  cases hr : T.runs pid with
  | false => exact (fork_no hT pid hr).mono fun v H' M' ⟨a, h, m⟩ => ⟨a, h, sameM m hT⟩
  | true =>
    refine (fork_ok hT pid hr I.bd).mono fun v H' M' ⟨h, hc, hm⟩ => ?_
    rw [if_pos rfl]
    cases hs : T.slot 9 0 with
    | none => rw [hs] at hm; exact ⟨hm.1, h, hm.2, hc⟩
    | some i => rw [hs] at hm; exact ⟨hm.1, h, hm.2, hc⟩
theorem fk_inv {T : Tb} (I : Inv T) (pid : Int) : Inv (fkR T pid).2.2 := by
  unfold fkR
  split
  · cases hs : T.slot 9 0 with
    | none => exact I
    | some i =>
      obtain ⟨h1, h2, h3, h4⟩ := slot_bd T 9 0 i hs
      exact I.forkT (by omega) h3 h4
  · exact I
/-! Open -/
def opR (T : Tb) (pid : Int) (x : Opn) : Int × Int × Tb := if T.runs pid = true then (if freeAt (T.fd pid.toNat) 8 0 = -1 then (0, 21, T) else match T.file 16 0 with | none => (0, 21, T) | some i => (freeAt (T.fd pid.toNat) 8 0, 0, T.openT pid x (freeAt (T.fd pid.toNat) 8 0).toNat i)) else (0, 25, T)
abbrev opQ (at_ : Tb → HP) (T : Tb) (pid : Int) (x : Opn) (v : Value) (Bs : List HP) : Prop := v = .tuple #[.int .i64 (opR T pid x).1, .int .i64 (opR T pid x).2.1] ∧ Bs = [at_ (opR T pid x).2.2]
theorem r_op {y : Nat} {T : Tb} (I : Inv T) (pid : Int) (x : Opn) : Ctr Try.prog 32 [.pointer (some ⟨y,0,none⟩), .int .i64 pid, .agg x.vals] [Ref y T] (opQ (Ref y) T pid x) := (r_open I pid x).mono fun v Bs => by
  unfold opQ opR
  by_cases c : T.runs pid = true
  · simp only [if_pos c]
    by_cases c2 : freeAt (T.fd pid.toNat) 8 0 = -1
    · simp only [if_pos c2]; exact id
    · simp only [if_neg c2]; cases T.file 16 0 <;> exact id
  · simp only [if_neg c]; exact id
theorem p_op {b : Nat} {T : Tb} (_I : Inv T) (pid : Int) (x : Opn) : Ctr Try.prog 14 [.pointer (some ⟨b,0,none⟩), .int .i64 pid, .agg x.vals] [Tbl b T] (opQ (Tbl b) T pid x) := by
  refine chgF fun H M hT => ?_
  unfold opR
  cases hr : T.runs pid with
  | false => exact (opn_no hT pid x hr).mono fun v H' M' ⟨a, h, m⟩ => ⟨a, h, sameC m hT⟩
  | true =>
    rw [if_pos rfl]
    rcases freeAt_bd (T.fd pid.toNat) 8 0 with hq | ⟨q, hq, _, hq8, hz, _⟩
    · rw [if_pos hq]
      exact (opn_full hT pid x hr hq).mono fun v H' M' ⟨a, h, m⟩ => ⟨a, h, sameC m hT⟩
    · rw [if_neg (by omega)]
      refine (opn_yes hT pid x hr q hq (by omega)).mono fun v H' M' ⟨h, hc, hm⟩ => ?_
      rw [hq, Int.toNat_natCast]
      cases hs : T.file 16 0 with
      | none => rw [hs] at hm; exact ⟨hm.1, h, hm.2, hc⟩
      | some i => rw [hs] at hm; exact ⟨hm.1, h, hm.2, hc⟩
theorem runs_st {T : Tb} {pid : Int} (hr : T.runs pid = true) : T.st pid.toNat = 1 := by simp [Tb.runs] at hr; exact hr.2
theorem op_inv {T : Tb} (I : Inv T) (pid : Int) (x : Opn) : Inv (opR T pid x).2.2 := by
  unfold opR
  split
  · rename_i hr
    have hp := runs_bd hr
    rcases freeAt_bd (T.fd pid.toNat) 8 0 with hq | ⟨q, hq, _, hq8, hz, _⟩
    · rw [if_pos hq]; exact I
    · rw [if_neg (by omega)]
      cases hs : T.file 16 0 with
      | none => exact I
      | some i =>
        obtain ⟨h1, h2, h3⟩ := file_bd T 16 0 i hs
        rw [hq]
        exact I.openT x (by omega) (by omega) (by omega) (by simpa using hz) (runs_st hr) h3
  · exact I
/-! Wait -/
def wtR (T : Tb) (pid : Int) : Int × Int × Bool × Int × Tb := if T.runs pid = true then (match T.ripe pid 9 0 with | some i => ((i : Int), T.code i, false, 0, T.waitT i) | none => (0, 0, T.kid pid 9 0 false, (if T.kid pid 9 0 false then 0 else 23), T)) else (0, 0, false, 25, T)
abbrev wtQ (at_ : Tb → HP) (T : Tb) (pid : Int) (v : Value) (Bs : List HP) : Prop := v = .tuple #[.int .i64 (wtR T pid).1, .int .i64 (wtR T pid).2.1, .bool (wtR T pid).2.2.1, .int .i64 (wtR T pid).2.2.2.1] ∧ Bs = [at_ (wtR T pid).2.2.2.2]
theorem r_wt {y : Nat} {T : Tb} (I : Inv T) (pid : Int) : Ctr Try.prog 31 [.pointer (some ⟨y,0,none⟩), .int .i64 pid] [Ref y T] (wtQ (Ref y) T pid) := (r_wait I pid).mono fun v Bs => by
  unfold wtQ wtR
  by_cases c : T.runs pid = true
  · simp only [if_pos c]; cases T.ripe pid 9 0 <;> exact id
  · simp only [if_neg c]; exact id
theorem p_wt {b : Nat} {T : Tb} (pid : Int) : Ctr Try.prog 13 [.pointer (some ⟨b,0,none⟩), .int .i64 pid] [Tbl b T] (wtQ (Tbl b) T pid) := by
  refine chgF fun H M hT => ?_
  unfold wtR
  cases hr : T.runs pid with
  | false => exact (wait_no hT pid hr).mono fun v H' M' ⟨a, h, m⟩ => ⟨a, h, sameM m hT⟩
  | true =>
    refine (wait_ok hT pid hr).mono fun v H' M' ⟨h, hc, hm⟩ => ?_
    rw [if_pos rfl]
    cases hs : T.ripe pid 9 0 with
    | none => rw [hs] at hm; exact ⟨hm.1, h, hm.2, hc⟩
    | some i => rw [hs] at hm; exact ⟨hm.1, h, hm.2, hc⟩
theorem ripe_bd (T : Tb) (pid : Int) : ∀ (d i q : Nat), T.ripe pid d i = some q → T.st q = 2
  | 0, _, _, h => by simp [Tb.ripe] at h
  | d + 1, i, q, h => by
    rw [Tb.ripe] at h
    split at h
    · exact ripe_bd T pid d (i + 1) q h
    · split at h
      · rename_i c; cases h; exact c
      · exact ripe_bd T pid d (i + 1) q h
theorem wt_inv {T : Tb} (I : Inv T) (pid : Int) : Inv (wtR T pid).2.2.2.2 := by
  unfold wtR
  split
  · cases hs : T.ripe pid 9 0 with
    | none => exact I
    | some i => exact I.waitT (by rw [ripe_bd T pid 9 0 i hs]; omega)
  · exact I
/-! Close -/
def clR (T : Tb) (pid fd : Int) : Opn × Bool × Int × Tb := if T.err pid fd = 0 then (T.op (T.no pid fd), !decide (T.us (T.no pid fd) - 1 > 0), 0, T.letT pid.toNat fd.toNat (T.no pid fd)) else (Opn.zero, false, T.err pid fd, T)
abbrev clQ (at_ : Tb → HP) (T : Tb) (pid fd : Int) (v : Value) (Bs : List HP) : Prop := v = .tuple #[.agg (clR T pid fd).1.vals, .bool (clR T pid fd).2.1, .int .i64 (clR T pid fd).2.2.1] ∧ Bs = [at_ (clR T pid fd).2.2.2]
theorem r_cl {y : Nat} {T : Tb} (I : Inv T) (pid fd : Int) : Ctr Try.prog 33 [.pointer (some ⟨y,0,none⟩), .int .i64 pid, .int .i64 fd] [Ref y T] (clQ (Ref y) T pid fd) := (r_close I pid fd).mono fun v Bs => by
  unfold clQ clR
  by_cases c : T.err pid fd = 0
  · simp only [if_pos c]; exact id
  · simp only [if_neg c]; exact id
theorem p_cl {b : Nat} {T : Tb} (I : Inv T) (pid fd : Int) : Ctr Try.prog 15 [.pointer (some ⟨b,0,none⟩), .int .i64 pid, .int .i64 fd] [Tbl b T] (clQ (Tbl b) T pid fd) := by
  refine chgF fun H M hT => ?_
  unfold clR
  by_cases c : T.err pid fd = 0
  · rw [if_pos c]
    exact (close_yes hT pid fd I.bd c).mono fun v H' M' ⟨a, h, m, hc⟩ => ⟨a, h, m, hc⟩
  · rw [if_neg c]
    exact (close_no hT pid fd c).mono fun v H' M' ⟨a, h, m⟩ => ⟨a, h, sameC m hT⟩
theorem cl_inv {T : Tb} (I : Inv T) (pid fd : Int) : Inv (clR T pid fd).2.2.2 := by
  unfold clR
  split
  · rename_i c
    obtain ⟨hr, hf, hn, h16⟩ := err0 c I.bd
    have hp := runs_bd hr
    exact I.letT (by omega) hn
  · exact I
/-! Dup -/
def dpR (T : Tb) (pid fd : Int) : Int × Int × Tb := if T.err pid fd = 0 then (if freeAt (T.fd pid.toNat) 8 0 = -1 then (0, 21, T) else (freeAt (T.fd pid.toNat) 8 0, 0, T.dupT pid.toNat (freeAt (T.fd pid.toNat) 8 0).toNat (T.no pid fd))) else (0, T.err pid fd, T)
abbrev dpQ (at_ : Tb → HP) (T : Tb) (pid fd : Int) (v : Value) (Bs : List HP) : Prop := v = .tuple #[.int .i64 (dpR T pid fd).1, .int .i64 (dpR T pid fd).2.1] ∧ Bs = [at_ (dpR T pid fd).2.2]
theorem r_dp {y : Nat} {T : Tb} (I : Inv T) (pid fd : Int) : Ctr Try.prog 34 [.pointer (some ⟨y,0,none⟩), .int .i64 pid, .int .i64 fd] [Ref y T] (dpQ (Ref y) T pid fd) := (r_dup I pid fd).mono fun v Bs => by
  unfold dpQ dpR
  by_cases c : T.err pid fd = 0
  · simp only [if_pos c]
    by_cases c2 : freeAt (T.fd pid.toNat) 8 0 = -1
    · simp only [if_pos c2]; exact id
    · simp only [if_neg c2]; exact id
  · simp only [if_neg c]; exact id
theorem p_dp {b : Nat} {T : Tb} (I : Inv T) (pid fd : Int) : Ctr Try.prog 16 [.pointer (some ⟨b,0,none⟩), .int .i64 pid, .int .i64 fd] [Tbl b T] (dpQ (Tbl b) T pid fd) := by
  refine chgF fun H M hT => ?_
  unfold dpR
  by_cases c : T.err pid fd = 0
  · rw [if_pos c]
    rcases freeAt_bd (T.fd pid.toNat) 8 0 with hq | ⟨q, hq, _, hq8, hz, _⟩
    · rw [if_pos hq]
      exact (dup_full hT pid fd I.bd c hq).mono fun v H' M' ⟨a, h, m⟩ => ⟨a, h, sameM m hT⟩
    · rw [if_neg (by omega), hq]
      exact (dup_yes hT pid fd I.bd c q hq (by omega)).mono fun v H' M' ⟨a, h, m, hc⟩ => ⟨a, h, m, hc⟩
  · rw [if_neg c]
    exact (dup_no hT pid fd c).mono fun v H' M' ⟨a, h, m⟩ => ⟨a, h, sameM m hT⟩
theorem dp_inv {T : Tb} (I : Inv T) (pid fd : Int) : Inv (dpR T pid fd).2.2 := by
  unfold dpR
  split
  · rename_i c
    obtain ⟨hr, hf, hn, h16⟩ := err0 c I.bd
    have hp := runs_bd hr
    rcases freeAt_bd (T.fd pid.toNat) 8 0 with hq | ⟨q, hq, _, hq8, hz, _⟩
    · rw [if_pos hq]; exact I
    · rw [if_neg (by omega), hq]
      exact I.dupT (by omega) (by omega) h16 (by simpa using hz) (runs_st hr)
  · exact I
/-! Set, Get -/
def stT (T : Tb) (pid fd : Int) (x : Opn) : Tb := if T.err pid fd = 0 then T.setOp (T.no pid fd) x else T
theorem p_st {b : Nat} {T : Tb} (I : Inv T) (pid fd : Int) (x : Opn) : Ctr Try.prog 18 [.pointer (some ⟨b,0,none⟩), .int .i64 pid, .int .i64 fd, .agg x.vals] [Tbl b T] (fun v Bs => v = .int .i64 (T.err pid fd) ∧ Bs = [Tbl b (stT T pid fd x)]) := by
  refine chgF fun H M hT => ?_
  unfold stT
  by_cases c : T.err pid fd = 0
  · rw [if_pos c, c]
    exact (set_yes hT pid fd x I.bd c).mono fun v H' M' ⟨a, h, m, hc⟩ => ⟨a, h, m, hc⟩
  · rw [if_neg c]
    exact (set_no hT pid fd x c).mono fun v H' M' ⟨a, h, m⟩ => ⟨a, h, sameC m hT⟩
theorem st_inv {T : Tb} (I : Inv T) (pid fd : Int) (x : Opn) : Inv (stT T pid fd x) := by
  unfold stT
  split
  · rename_i c
    obtain ⟨hr, hf, hn, h16⟩ := err0 c I.bd
    have hp := runs_bd hr
    have := I.used (by omega) hn
    exact I.setOp x (by omega)
  · exact I
theorem p_gt {b : Nat} {T : Tb} (I : Inv T) (pid fd : Int) : Ctr Try.prog 19 [.pointer (some ⟨b,0,none⟩), .int .i64 pid, .int .i64 fd] [Tbl b T]
    (fun v Bs => v = .tuple #[.agg (if T.err pid fd = 0 then (T.op (T.no pid fd)).vals else Opn.zero.vals), .int .i64 (T.err pid fd)] ∧ Bs = [Tbl b T]) := by
  refine Ctr.same fun H M hT => ?_
  by_cases c : T.err pid fd = 0
  · rw [if_pos c, c]
    exact get_yes hT pid fd I.bd c
  · rw [if_neg c]
    exact (get_no hT pid fd c).mono fun v H' M' ⟨a, h, m⟩ => ⟨a, h, m⟩
/-! Exit -/
theorem sat_new0 {e sz : Nat} {row : Nat → List Value} {As : List HP} {H M : Heap} (s : (Sat As).p H M) : (Sat (SA (some e) sz (.slice none 0 0) 0 row :: As)).p H M :=
  ⟨fun _ => none, M, (fun _ _ h => nomatch h), Le.refl _, fun _ => .inl rfl, ⟨fun i hi => by omega, by simp [Go.Cam.flat], .inl ⟨rfl, by simp [Go.Cam.flat]⟩, _, _, rfl⟩, s⟩
def exL (T : Tb) (pid : Int) : List Opn := if T.runs pid = true then (if pid = 1 then [] else T.gone pid) else []
def exE (T : Tb) (pid : Int) : Int := if T.runs pid = true then (if pid = 1 then 1 else 0) else 25
def exT (T : Tb) (pid code : Int) : Tb := if T.runs pid = true then (if pid = 1 then T else T.exitT pid code) else T
abbrev exQ (at_ : Tb → HP) (T : Tb) (pid code : Int) (v : Value) (Bs : List HP) : Prop := ∃ a cap, v = .tuple #[.slice a (exL T pid).length cap, .int .i64 (exE T pid)] ∧ Bs = [SA (some 41) 7 (.slice a (exL T pid).length cap) (exL T pid).length (oRow (exL T pid)), at_ (exT T pid code)]
theorem r_ex {y : Nat} {T : Tb} (I : Inv T) (pid code : Int) : Ctr Try.prog 30 [.pointer (some ⟨y,0,none⟩), .int .i64 pid, .int .i64 code] [Ref y T] (exQ (Ref y) T pid code) := fun F H M s =>
  (r_exit I pid code F H M s).mono fun v H' M' ⟨Bs, hq, hs⟩ => by
    unfold exQ exL exE exT
    rcases hq with ⟨hr, rfl, rfl⟩ | ⟨hr, h1, rfl, rfl⟩ | ⟨hr, h1, a, cap, rfl, rfl⟩
    · simp only [if_neg (show ¬ T.runs pid = true by simp [hr])]
      exact ⟨_, ⟨none, 0, rfl, rfl⟩, sat_new0 hs⟩
    · simp only [if_pos hr, if_pos h1]
      exact ⟨_, ⟨none, 0, rfl, rfl⟩, sat_new0 hs⟩
    · simp only [if_pos hr, if_neg h1]
      exact ⟨_, ⟨a, cap, rfl, rfl⟩, hs⟩
theorem p_ex {b : Nat} {T : Tb} (I : Inv T) (pid code : Int) : Ctr Try.prog 11 [.pointer (some ⟨b,0,none⟩), .int .i64 pid, .int .i64 code] [Tbl b T] (exQ (Tbl b) T pid code) := fun F H M s => by
  have hT : M b = some T.obj := star_fst s
  unfold exQ exL exE exT
  by_cases hr : T.runs pid = true
  rotate_left
  · simp only [if_neg hr]
    exact (exit_no hT pid code (by simpa using hr)).mono fun v H' M' ⟨a, h, m⟩ => ⟨_, ⟨none, 0, a, rfl⟩, by rw [h, m]; exact sat_new0 s⟩
  by_cases h1 : pid = 1
  · subst h1
    simp only [if_pos hr, if_pos rfl]
    exact (exit_one hT code hr).mono fun v H' M' ⟨a, h, m⟩ => ⟨_, ⟨none, 0, a, rfl⟩, by rw [h, m]; exact sat_new0 s⟩
  · simp only [if_pos hr, if_neg h1]
    refine (exit_ok hT pid code hr h1 I.bd).mono fun v H' M' ⟨u, hv, hH, ⟨hown, hnew⟩, hb, hc⟩ => ?_
    have hln : (flat (T.gone pid)).length = (T.gone pid).length * 7 := flat_len _
    obtain ⟨a, cap, rfl⟩ := hown.len _ hln (by omega)
    refine ⟨_, ⟨a, cap, hv, rfl⟩, ?_⟩
    subst hH
    obtain ⟨M1, M2, a1, a2, dj, hA, hB⟩ := s
    have h2 : ∀ c, M2 c ≠ none → c ≠ b := fun c hne e => by
      subst e
      rcases dj c with h3 | h3
      · rw [show M1 c = some T.obj from hA] at h3; cases h3
      · exact hne h3
    refine ⟨fun c => if ob (.slice a (T.gone pid).length cap) = some c then M' c else none, fun c => if ob (.slice a (T.gone pid).length cap) = some c then none else M' c, ?_, ?_, ?_, ?_, ?_⟩
    · intro c o h; dsimp only at h; split at h
      · exact h
      · cases h
    · intro c o h; dsimp only at h; split at h
      · cases h
      · exact h
    · intro c; dsimp only; split
      · exact .inr rfl
      · exact .inl rfl
    · refine ⟨fun _ _ => rfl, ?_, ?_, _, _, rfl⟩
      · rw [flat_oRow, List.all_eq_true]
        intro y hy
        obtain ⟨x, _, h5⟩ := List.mem_flatMap.1 hy
        simp [Opn.vals] at h5
        rcases h5 with h | h | h | h | h | h | h <;> subst h <;> rfl
      · rw [flat_oRow]; exact hown.frame fun c o h ho => by rw [if_pos h]; exact ho
    · refine ⟨fun c => if c = b then some (T.exitT pid code).obj else none, M2, ?_, ?_, ?_, if_pos rfl, hB⟩
      · intro c o h; dsimp only at h; split at h
        · rename_i e; subst e
          dsimp only; rw [if_neg (fun e => (hnew c e).1 rfl), hb]; exact h
        · cases h
      · intro c o h
        have hcb := h2 c (by rw [h]; simp)
        have hMc := a2 c o h
        dsimp only
        rw [if_neg (fun e => (hnew c e).2 o hMc)]
        exact hc c o (by simpa using hcb) hMc
      · intro c
        by_cases e : c = b
        · refine .inr ?_
          cases h3 : M2 c with
          | none => rfl
          | some u => exact absurd e (h2 c (by rw [h3]; simp))
        · exact .inl (if_neg e)
theorem ex_inv {T : Tb} (I : Inv T) (pid code : Int) : Inv (exT T pid code) := by
  unfold exT
  split
  · rename_i hr
    have hp := runs_bd hr
    split
    · exact I
    · exact I.exitT code hp.1 hp.2
  · exact I
end Go.Proofs.Ytimaipclgmcekaa

/- does: a call of both tables. -/
namespace Go.Proofs.Ytimaipclgmcekaa
open Go.Cam
set_option maxRecDepth 100000
theorem lk_neqs {P : Program} {l : List (Nat × Value)} {As : List HP} {d : Nat} {oty : TypeId} {pos : String} {af : Array Edge} {g : Option (Nat × Bool)} {t t2 : TypeId} {x y : Operand} {X Y : Value} {v : Bool} [eq : EQ P t X Y v] (hx : ∀ j, ev (mk l j) x = X := by intro j; rfl) (hy : ∀ j, ev (mk l j) y = Y := by intro j; rfl) :
    LookS P ⟨some d, .binOp .neq t x y t2, oty, pos, af, g⟩ l As (.bool (!v)) := .mk fun j _ _ _ => by
  refine qs_binw rfl ?_ ?_
  · rw [hx j, hy j]; exact eq.g _ _ _
  · rw [hx j, hy j]; exact eq.n
theorem exL_len (T : Tb) (pid : Int) : (exL T pid).length ≤ 8 := by
  unfold exL
  split
  · split
    · simp
    · have := exitL_len pid.toNat (T.fd pid.toNat) 8 0 T []
      simp only [List.length_nil, Nat.zero_add] at this; exact this
  · simp
instance eq41_ (x y : Opn) : EQ Try.prog 41 (.agg x.vals) (.agg y.vals) (x.same y) := eq41 x y
theorem r_st {y : Nat} {T : Tb} (I : Inv T) (pid fd : Int) (x : Opn) : Ctr Try.prog 35 [.pointer (some ⟨y,0,none⟩), .int .i64 pid, .int .i64 fd, .agg x.vals] [Ref y T] (fun v Bs => v = .int .i64 (T.err pid fd) ∧ Bs = [Ref y (stT T pid fd x)]) := r_set I.bd pid fd x
set_option maxHeartbeats 4000000 in
theorem does_ok {b y : Nat} {T : Tb} (I : Inv T) (o : OpV) (hk : -9223372036854775808 ≤ o.kind ∧ o.kind < 9223372036854775808) : Ctr Try.prog 22 [.pointer (some ⟨b,0,none⟩), .pointer (some ⟨y,0,none⟩), .agg (opRow o).toArray] [Tbl b T, Ref y T]
    (fun v Bs => ∃ T', (v = .bool true ∧ Inv T') ∧ Bs = [Tbl b T', Ref y T']) := by
  refine s_enter 269 [(0, _), (1, _), (2, _)] (fun F => [_, _, F]) Try.func22 fun F => ?_
  refine s_seq (s_region ?_)
  refine s_box (c := opRow o) (fun r5 => ?_)
  refine go_ ?_
  refine s_drawN 0 [(true, 0), (true, 1), (true, 2), (true, 3), (true, 4), (true, 5), (true, 6), (true, 7), (true, 8)] ?_
  refine do_ ?_
  refine d_call (ho := rfl) (v := .int .i64 (T.holds o.x 16 0 0 : Nat)) (sp := (by repeat (first | exact Split.nil | apply Split.perx (by repeat (first | with_reducible exact Sel.here | with_reducible apply Sel.there)) (by infer_instance) | apply Split.cons (by repeat (first | with_reducible exact Sel.here | with_reducible apply Sel.there))))) (hs := holds_c o.x) (hq := by rintro r Bs ⟨rfl, rfl⟩; exact ⟨rfl, (by (try simp only [List.cons_append, List.nil_append]); repeat (first | exact Ent.nil | refine Ent.per (by repeat (first | with_reducible exact Sel.here | with_reducible apply Sel.there)) ?_ | refine Ent.cons (by repeat (first | with_reducible exact Sel.here | with_reducible apply Sel.there)) ?_))⟩) (h := ?_)
  refine do_ ?_
  refine d_call (ho := rfl) (v := .int .i64 (T.holds o.x 16 0 0 : Nat)) (sp := (by repeat (first | exact Split.nil | apply Split.perx (by repeat (first | with_reducible exact Sel.here | with_reducible apply Sel.there)) (by infer_instance) | apply Split.cons (by repeat (first | with_reducible exact Sel.here | with_reducible apply Sel.there))))) (hs := r_holds o.x) (hq := by rintro r Bs ⟨rfl, rfl⟩; exact ⟨rfl, (by (try simp only [List.cons_append, List.nil_append]); repeat (first | exact Ent.nil | refine Ent.per (by repeat (first | with_reducible exact Sel.here | with_reducible apply Sel.there)) ?_ | refine Ent.cons (by repeat (first | with_reducible exact Sel.here | with_reducible apply Sel.there)) ?_))⟩) (h := ?_)
  refine do_ ?_
  refine go_ ?_
  rw [bne_self_eq_false]
  refine go_ ?_
  refine s_call (sp := (by repeat (first | exact Split.nil | apply Split.perx (by repeat (first | with_reducible exact Sel.here | with_reducible apply Sel.there)) (by infer_instance) | apply Split.cons (by repeat (first | with_reducible exact Sel.here | with_reducible apply Sel.there))))) (hs := kind_c _ _ hk (by decide)) (h := ?_)
  rintro v Bs ⟨rfl, rfl⟩
  have hb := kindI_bd (n := o.kind) (m := 9) (by omega)
  generalize kindI o.kind 9 = κ at *
  refine go_ ?_
  obtain h | h | h | h | h | h | h | h | h : κ = 0 ∨ κ = 1 ∨ κ = 2 ∨ κ = 3 ∨ κ = 4 ∨ κ = 5 ∨ κ = 6 ∨ κ = 7 ∨ κ = 8 := by omega
  all_goals subst h
  · refine go_ ?_
    refine s_call (sp := (by repeat (first | exact Split.nil | apply Split.perx (by repeat (first | with_reducible exact Sel.here | with_reducible apply Sel.there)) (by infer_instance) | apply Split.cons (by repeat (first | with_reducible exact Sel.here | with_reducible apply Sel.there))))) (hs := p_fk I o.pid) (h := ?_)
    rintro v Bs ⟨rfl, rfl⟩
    refine go_ ?_
    refine s_call (sp := (by repeat (first | exact Split.nil | apply Split.perx (by repeat (first | with_reducible exact Sel.here | with_reducible apply Sel.there)) (by infer_instance) | apply Split.cons (by repeat (first | with_reducible exact Sel.here | with_reducible apply Sel.there))))) (hs := r_fk I o.pid) (h := ?_)
    rintro v Bs ⟨rfl, rfl⟩
    refine go_ ?_
    rw [beq_self_eq_true]
    refine go_ ?_
    exact s_ret1 (rs := [.tmp 6]) Try.func22 rfl (by intro j; refine RVS.tmp _ rfl ?_; exact RVS.nil) (⟨_, ⟨by simp, fk_inv I _⟩, rfl⟩) (by repeat (first | exact Ent.nil | refine Ent.per (by repeat (first | with_reducible exact Sel.here | with_reducible apply Sel.there)) ?_ | refine Ent.cons (by repeat (first | with_reducible exact Sel.here | with_reducible apply Sel.there)) ?_))
  · refine go_ ?_
    refine s_call (sp := (by repeat (first | exact Split.nil | apply Split.perx (by repeat (first | with_reducible exact Sel.here | with_reducible apply Sel.there)) (by infer_instance) | apply Split.cons (by repeat (first | with_reducible exact Sel.here | with_reducible apply Sel.there))))) (hs := p_fk I o.pid) (h := ?_)
    rintro v Bs ⟨rfl, rfl⟩
    refine go_ ?_
    refine s_call (sp := (by repeat (first | exact Split.nil | apply Split.perx (by repeat (first | with_reducible exact Sel.here | with_reducible apply Sel.there)) (by infer_instance) | apply Split.cons (by repeat (first | with_reducible exact Sel.here | with_reducible apply Sel.there))))) (hs := r_fk I o.pid) (h := ?_)
    rintro v Bs ⟨rfl, rfl⟩
    refine go_ ?_
    rw [beq_self_eq_true]
    refine go_ ?_
    exact s_ret1 (rs := [.tmp 6]) Try.func22 rfl (by intro j; refine RVS.tmp _ rfl ?_; exact RVS.nil) (⟨_, ⟨by simp, fk_inv I _⟩, rfl⟩) (by repeat (first | exact Ent.nil | refine Ent.per (by repeat (first | with_reducible exact Sel.here | with_reducible apply Sel.there)) ?_ | refine Ent.cons (by repeat (first | with_reducible exact Sel.here | with_reducible apply Sel.there)) ?_))
  · refine go_ ?_
    refine s_call (sp := (by repeat (first | exact Split.nil | apply Split.perx (by repeat (first | with_reducible exact Sel.here | with_reducible apply Sel.there)) (by infer_instance) | apply Split.cons (by repeat (first | with_reducible exact Sel.here | with_reducible apply Sel.there))))) (hs := p_ex I o.pid o.n) (h := ?_)
    rintro v Bs ⟨a1, c1, rfl, rfl⟩
    refine go_ ?_
    refine s_call (sp := (by repeat (first | exact Split.nil | apply Split.perx (by repeat (first | with_reducible exact Sel.here | with_reducible apply Sel.there)) (by infer_instance) | apply Split.cons (by repeat (first | with_reducible exact Sel.here | with_reducible apply Sel.there))))) (hs := r_ex I o.pid o.n) (h := ?_)
    rintro v Bs ⟨a2, c2, rfl, rfl⟩
    refine go_ ?_
    rw [bne_self_eq_false]
    refine go_ ?_
    rw [bne_self_eq_false]
    refine go_ ?_
    have hx8 := exL_len T o.pid
    generalize exL T o.pid = xs at *
    refine s_loop (fun i : Nat => [(11, .slice a1 xs.length c1), (13, .slice a2 xs.length c2), (15, .int .i64 (i : Nat))]) (fun _ => [SA (some 41) 7 (.slice a1 xs.length c1) xs.length (oRow xs), SA (some 41) 7 (.slice a2 xs.length c2) xs.length (oRow xs), Tbl b (exT T o.pid o.n), Ref y (exT T o.pid o.n), F]) (fun i => i ≤ xs.length) (fun i => xs.length - i) 0 (by omega) (by repeat (first | exact Ent.nil | refine Ent.per (by repeat (first | with_reducible exact Sel.here | with_reducible apply Sel.there)) ?_ | refine Ent.cons (by repeat (first | with_reducible exact Sel.here | with_reducible apply Sel.there)) ?_)) ?_
    rintro i hi next
    refine go_ ?_
    cases h1 : decide ((i : Int) < (xs.length : Int))
    · refine go_ ?_
      exact s_ret1 (rs := [.tmp 6]) Try.func22 rfl (by intro j; refine RVS.tmp _ rfl ?_; exact RVS.nil) (⟨_, ⟨rfl, ex_inv I _ _⟩, rfl⟩) (by repeat (first | exact Ent.nil | refine Ent.per (by repeat (first | with_reducible exact Sel.here | with_reducible apply Sel.there)) ?_ | refine Ent.cons (by repeat (first | with_reducible exact Sel.here | with_reducible apply Sel.there)) ?_))
    simp only [decide_eq_true_eq] at h1
    have h1' : i < xs.length := by omega
    refine go_ ?_
    refine s_drawN 0 [(true, 0), (true, 1), (true, 2), (true, 3), (true, 4), (true, 5), (true, 6), (true, 7), (true, 8)] ?_
    refine do_ ?_
    refine d_look rfl (lk_ldeN (fo := 0) (k := 7) (vs := (xs.getD i Opn.zero).vals.toList) (hv := ⟨rfl⟩)) ?_
    refine do_ ?_
    refine d_look rfl (lk_ldeN (fo := 0) (k := 7) (vs := (xs.getD i Opn.zero).vals.toList) (hv := ⟨rfl⟩)) ?_
    refine d_look rfl (lk_neqs (eq := eq41_ (xs.getD i Opn.zero) (xs.getD i Opn.zero))) ?_
    rw [same_refl]
    refine do_ ?_
    refine go_ ?_
    exact s_entF (by repeat (first | exact Ent.nil | refine Ent.per (by repeat (first | with_reducible exact Sel.here | with_reducible apply Sel.there)) ?_ | refine Ent.cons (by repeat (first | with_reducible exact Sel.here | with_reducible apply Sel.there)) ?_)) (s_keep _ (next (i + 1) (by omega) (by omega)))
  · refine go_ ?_
    refine s_call (sp := (by repeat (first | exact Split.nil | apply Split.perx (by repeat (first | with_reducible exact Sel.here | with_reducible apply Sel.there)) (by infer_instance) | apply Split.cons (by repeat (first | with_reducible exact Sel.here | with_reducible apply Sel.there))))) (hs := p_wt o.pid) (h := ?_)
    rintro v Bs ⟨rfl, rfl⟩
    refine go_ ?_
    refine s_call (sp := (by repeat (first | exact Split.nil | apply Split.perx (by repeat (first | with_reducible exact Sel.here | with_reducible apply Sel.there)) (by infer_instance) | apply Split.cons (by repeat (first | with_reducible exact Sel.here | with_reducible apply Sel.there))))) (hs := r_wt I o.pid) (h := ?_)
    rintro v Bs ⟨rfl, rfl⟩
    refine go_ ?_
    rw [beq_self_eq_true]
    refine go_ ?_
    rw [beq_self_eq_true]
    refine go_ ?_
    rw [beq_self_eq_true]
    refine go_ ?_
    exact s_ret1 (rs := [.tmp 6]) Try.func22 rfl (by intro j; refine RVS.tmp _ rfl ?_; exact RVS.nil) (⟨_, ⟨by simp, wt_inv I _⟩, rfl⟩) (by repeat (first | exact Ent.nil | refine Ent.per (by repeat (first | with_reducible exact Sel.here | with_reducible apply Sel.there)) ?_ | refine Ent.cons (by repeat (first | with_reducible exact Sel.here | with_reducible apply Sel.there)) ?_))
  · refine go_ ?_
    refine s_call (sp := (by repeat (first | exact Split.nil | apply Split.perx (by repeat (first | with_reducible exact Sel.here | with_reducible apply Sel.there)) (by infer_instance) | apply Split.cons (by repeat (first | with_reducible exact Sel.here | with_reducible apply Sel.there))))) (hs := p_op I o.pid o.x) (h := ?_)
    rintro v Bs ⟨rfl, rfl⟩
    refine go_ ?_
    refine s_call (sp := (by repeat (first | exact Split.nil | apply Split.perx (by repeat (first | with_reducible exact Sel.here | with_reducible apply Sel.there)) (by infer_instance) | apply Split.cons (by repeat (first | with_reducible exact Sel.here | with_reducible apply Sel.there))))) (hs := r_op I o.pid o.x) (h := ?_)
    rintro v Bs ⟨rfl, rfl⟩
    refine go_ ?_
    rw [beq_self_eq_true]
    refine go_ ?_
    exact s_ret1 (rs := [.tmp 6]) Try.func22 rfl (by intro j; refine RVS.tmp _ rfl ?_; exact RVS.nil) (⟨_, ⟨by simp, op_inv I _ _⟩, rfl⟩) (by repeat (first | exact Ent.nil | refine Ent.per (by repeat (first | with_reducible exact Sel.here | with_reducible apply Sel.there)) ?_ | refine Ent.cons (by repeat (first | with_reducible exact Sel.here | with_reducible apply Sel.there)) ?_))
  · refine go_ ?_
    refine s_call (sp := (by repeat (first | exact Split.nil | apply Split.perx (by repeat (first | with_reducible exact Sel.here | with_reducible apply Sel.there)) (by infer_instance) | apply Split.cons (by repeat (first | with_reducible exact Sel.here | with_reducible apply Sel.there))))) (hs := p_op I o.pid o.x) (h := ?_)
    rintro v Bs ⟨rfl, rfl⟩
    refine go_ ?_
    refine s_call (sp := (by repeat (first | exact Split.nil | apply Split.perx (by repeat (first | with_reducible exact Sel.here | with_reducible apply Sel.there)) (by infer_instance) | apply Split.cons (by repeat (first | with_reducible exact Sel.here | with_reducible apply Sel.there))))) (hs := r_op I o.pid o.x) (h := ?_)
    rintro v Bs ⟨rfl, rfl⟩
    refine go_ ?_
    rw [beq_self_eq_true]
    refine go_ ?_
    exact s_ret1 (rs := [.tmp 6]) Try.func22 rfl (by intro j; refine RVS.tmp _ rfl ?_; exact RVS.nil) (⟨_, ⟨by simp, op_inv I _ _⟩, rfl⟩) (by repeat (first | exact Ent.nil | refine Ent.per (by repeat (first | with_reducible exact Sel.here | with_reducible apply Sel.there)) ?_ | refine Ent.cons (by repeat (first | with_reducible exact Sel.here | with_reducible apply Sel.there)) ?_))
  · refine go_ ?_
    refine s_call (sp := (by repeat (first | exact Split.nil | apply Split.perx (by repeat (first | with_reducible exact Sel.here | with_reducible apply Sel.there)) (by infer_instance) | apply Split.cons (by repeat (first | with_reducible exact Sel.here | with_reducible apply Sel.there))))) (hs := p_cl I o.pid o.n) (h := ?_)
    rintro v Bs ⟨rfl, rfl⟩
    refine go_ ?_
    refine s_alloc fun r28 => ?_
    refine s_stw ?_
    refine go_ ?_
    refine s_call (sp := (by repeat (first | exact Split.nil | apply Split.perx (by repeat (first | with_reducible exact Sel.here | with_reducible apply Sel.there)) (by infer_instance) | apply Split.cons (by repeat (first | with_reducible exact Sel.here | with_reducible apply Sel.there))))) (hs := r_cl I o.pid o.n) (h := ?_)
    rintro v Bs ⟨rfl, rfl⟩
    refine go_ ?_
    refine s_alloc fun r31 => ?_
    refine s_stw ?_
    refine go_ ?_
    refine s_look (lk_eqs (eq := eq41_ _ _)) ?_
    rw [same_refl]
    refine go_ ?_
    rw [beq_self_eq_true]
    refine go_ ?_
    rw [beq_self_eq_true]
    refine go_ ?_
    exact s_ret1 (rs := [.tmp 6]) Try.func22 rfl (by intro j; refine RVS.tmp _ rfl ?_; exact RVS.nil) (⟨_, ⟨by simp, cl_inv I _ _⟩, rfl⟩) (by repeat (first | exact Ent.nil | refine Ent.per (by repeat (first | with_reducible exact Sel.here | with_reducible apply Sel.there)) ?_ | refine Ent.cons (by repeat (first | with_reducible exact Sel.here | with_reducible apply Sel.there)) ?_))
  · refine go_ ?_
    refine s_call (sp := (by repeat (first | exact Split.nil | apply Split.perx (by repeat (first | with_reducible exact Sel.here | with_reducible apply Sel.there)) (by infer_instance) | apply Split.cons (by repeat (first | with_reducible exact Sel.here | with_reducible apply Sel.there))))) (hs := p_dp I o.pid o.n) (h := ?_)
    rintro v Bs ⟨rfl, rfl⟩
    refine go_ ?_
    refine s_call (sp := (by repeat (first | exact Split.nil | apply Split.perx (by repeat (first | with_reducible exact Sel.here | with_reducible apply Sel.there)) (by infer_instance) | apply Split.cons (by repeat (first | with_reducible exact Sel.here | with_reducible apply Sel.there))))) (hs := r_dp I o.pid o.n) (h := ?_)
    rintro v Bs ⟨rfl, rfl⟩
    refine go_ ?_
    rw [beq_self_eq_true]
    refine go_ ?_
    exact s_ret1 (rs := [.tmp 6]) Try.func22 rfl (by intro j; refine RVS.tmp _ rfl ?_; exact RVS.nil) (⟨_, ⟨by simp, dp_inv I _ _⟩, rfl⟩) (by repeat (first | exact Ent.nil | refine Ent.per (by repeat (first | with_reducible exact Sel.here | with_reducible apply Sel.there)) ?_ | refine Ent.cons (by repeat (first | with_reducible exact Sel.here | with_reducible apply Sel.there)) ?_))
  · refine go_ ?_
    refine s_front (a := Ref y T) (by repeat (first | with_reducible exact Sel.here | with_reducible apply Sel.there)) ?_
    refine s_front (a := Tbl b T) (by repeat (first | with_reducible exact Sel.here | with_reducible apply Sel.there)) ?_
    refine s_drawN 2 [(true, 0), (true, 1), (true, 2), (true, 3), (true, 4), (true, 5), (true, 6), (true, 8), (true, 9), (true, 10), (true, 11), (true, 12), (true, 13), (true, 14), (false, 7), (false, 15), (true, 16), (true, 17)] ?_
    refine do_ ?_
    refine d_step rfl (st_call (sp := (by repeat (first | exact Split.nil | apply Split.perx (by repeat (first | with_reducible exact Sel.here | with_reducible apply Sel.there)) (by infer_instance) | apply Split.cons (by repeat (first | with_reducible exact Sel.here | with_reducible apply Sel.there))))) (hs := p_st I o.pid o.n o.x)) ?_
    rintro v Bs ⟨Cs, ⟨rfl, rfl⟩, rfl⟩
    refine do_ ?_
    refine d_step rfl (st_call (sp := (by repeat (first | exact Split.nil | apply Split.perx (by repeat (first | with_reducible exact Sel.here | with_reducible apply Sel.there)) (by infer_instance) | apply Split.cons (by repeat (first | with_reducible exact Sel.here | with_reducible apply Sel.there))))) (hs := r_st I o.pid o.n o.x)) ?_
    rintro v Bs ⟨Cs, ⟨rfl, rfl⟩, rfl⟩
    refine do_ ?_
    refine go_ ?_
    exact s_ret1 (rs := [.tmp 6]) Try.func22 rfl (by intro j; refine RVS.tmp _ rfl ?_; exact RVS.nil) (⟨_, ⟨by simp, st_inv I _ _ _⟩, rfl⟩) (by repeat (first | exact Ent.nil | refine Ent.per (by repeat (first | with_reducible exact Sel.here | with_reducible apply Sel.there)) ?_ | refine Ent.cons (by repeat (first | with_reducible exact Sel.here | with_reducible apply Sel.there)) ?_))
end Go.Proofs.Ytimaipclgmcekaa
