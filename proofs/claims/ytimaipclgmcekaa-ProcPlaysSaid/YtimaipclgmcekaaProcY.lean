/- Contracts of the table's calls, over assertions: which files are open. -/
import Derived.Test.YtimaipclgmcekaaProcX
import Derived.Test.YtimaipclgmcekaaFacts2
import Derived.Test.YtimaipclgmcekaaCamAA
namespace Go.Proofs.Ytimaipclgmcekaa
open Go.Cam
set_option maxRecDepth 100000
abbrev Tbl (b : Nat) (T : Tb) : HP := .own b T.obj
theorem kind_c (n m : Int) (h0 : -9223372036854775808 ≤ n ∧ n < 9223372036854775808) (hm : m ≠ 0) : Ctr Try.prog 10 [.int .i64 n, .int .i64 m] [] (fun v Bs => v = .int .i64 (kindI n m) ∧ Bs = []) :=
  Ctr.pure fun H M => (kind_ok n m h0.1 h0.2 hm).mono fun v H' M' ⟨a, b, c⟩ => ⟨a, b, by rw [c]; exact Ch.refl _ _⟩
theorem shown_c : Ctr Try.prog 7 [] [] (fun v Bs => v = .bool true ∧ Bs = []) := Ctr.pure fun H M => shown_ok
theorem holds_c {b : Nat} {T : Tb} (x : Opn) : Ctr Try.prog 17 [.pointer (some ⟨b,0,none⟩), .agg x.vals] [Tbl b T] (fun v Bs => v = .int .i64 (T.holds x 16 0 0) ∧ Bs = [Tbl b T]) := Ctr.same fun H M hT => holds_ok hT x
theorem new_c : Ctr Try.prog 8 [] [] (fun v Bs => ∃ r, v = .pointer (some ⟨r, 0, none⟩) ∧ Bs = [Tbl r S0]) := fun F H M s =>
  new_ok.mono fun v H' M' ⟨r, hv, hH, hT, hk⟩ => ⟨_, ⟨r, hv, rfl⟩, by
    subst hH
    refine ⟨fun c => if c = r then some S0.obj else none, M, ?_, fun c o h => (hk c o h).1, ?_, if_pos rfl, s⟩
    · intro c o h
      dsimp only at h
      split at h
      · rename_i e; subst e; rw [← h]; exact hT
      · cases h
    · intro c
      by_cases e : c = r
      · refine .inr ?_
        cases h : M c with
        | none => rfl
        | some o => exact absurd e (hk c o h).2
      · exact .inl (if_neg e)⟩
theorem fork_f {b c : Nat} {T : Tb} {inn : Nat → Bool} (hF : Fil T inn c) (pid : Int) : Ctr Try.prog 9 [.pointer (some ⟨b,0,none⟩), .int .i64 pid] [Tbl b T] (fun v Bs => ∃ T', (∃ r e, v = .tuple #[.int .i64 r, .int .i64 e]) ∧ Fil T' inn c ∧ Bs = [Tbl b T']) := by
  have key : Ctr Try.prog 9 [.pointer (some ⟨b,0,none⟩), .int .i64 pid] [Tbl b T] (fun v Bs => ∃ o', (∃ T', o' = T'.obj ∧ (∃ r e, v = .tuple #[.int .i64 r, .int .i64 e]) ∧ Fil T' inn c) ∧ Bs = [.own b o']) := by
    refine Ctr.chg fun H M hT => ?_
    cases hr : T.runs pid with
    | false => exact (fork_no hT pid hr).mono fun v H' M' ⟨a, h, m⟩ => ⟨_, ⟨T, rfl, ⟨_, _, a⟩, hF⟩, h, by rw [m]; exact hT, by rw [m]; exact Ch.refl _ _⟩
    | true =>
      refine (fork_ok hT pid hr hF.inv.bd).mono fun v H' M' ⟨h, hc, hm⟩ => ?_
      have hp := runs_bd hr
      cases hs : T.slot 9 0 with
      | none => rw [hs] at hm; exact ⟨_, ⟨T, rfl, ⟨_, _, hm.1⟩, hF⟩, h, hm.2, hc⟩
      | some i =>
        rw [hs] at hm
        obtain ⟨h1, h2, h3, h4⟩ := slot_bd T 9 0 i hs
        exact ⟨_, ⟨_, rfl, ⟨_, _, hm.1⟩, hF.fork (by omega) (by omega) h3 h4⟩, h, hm.2, hc⟩
  exact fun F H M s => (key F H M s).mono fun v H' M' ⟨Bs, ⟨o', ⟨T', e, hv, hf⟩, hb⟩, hs⟩ => ⟨Bs, ⟨T', hv, hf, by rw [hb, e]⟩, hs⟩
theorem chgT {q : FuncId} {args : List Value} {b : Nat} {T : Tb} {φ : Value → Tb → Prop} (h : ∀ H M, M b = some T.obj → ACalls Try.prog q args.toArray H M (fun v H' M' => ∃ T', φ v T' ∧ H' = H ∧ M' b = some T'.obj ∧ Ch [b] M M')) :
    Ctr Try.prog q args [Tbl b T] (fun v Bs => ∃ T', φ v T' ∧ Bs = [Tbl b T']) := by
  have key : Ctr Try.prog q args [Tbl b T] (fun v Bs => ∃ o', (∃ T', o' = T'.obj ∧ φ v T') ∧ Bs = [.own b o']) :=
    Ctr.chg fun H M hT => (h H M hT).mono fun v H' M' ⟨T', a, c, d, e⟩ => ⟨_, ⟨T', rfl, a⟩, c, d, e⟩
  exact fun F H M s => (key F H M s).mono fun v H' M' ⟨Bs, ⟨o', ⟨T', e, hv⟩, hb⟩, hs⟩ => ⟨Bs, ⟨T', hv, by rw [hb, e]⟩, hs⟩
theorem dup_f {b c : Nat} {T : Tb} {inn : Nat → Bool} (hF : Fil T inn c) (pid fd : Int) : Ctr Try.prog 16 [.pointer (some ⟨b,0,none⟩), .int .i64 pid, .int .i64 fd] [Tbl b T] (fun v Bs => ∃ T', ((∃ r e, v = .tuple #[.int .i64 r, .int .i64 e]) ∧ Fil T' inn c) ∧ Bs = [Tbl b T']) := by
  refine chgT fun H M hT => ?_
  by_cases he : T.err pid fd = 0
  · obtain ⟨hr, hf, hn, h16⟩ := err0 he hF.inv.bd
    have hp := runs_bd hr
    rcases freeAt_bd (T.fd pid.toNat) 8 0 with hq | ⟨q, hq, _, hq8, hz, _⟩
    · exact (dup_full hT pid fd hF.inv.bd he hq).mono fun v H' M' ⟨a, h, m⟩ => ⟨T, ⟨⟨_, _, a⟩, hF⟩, h, by rw [m]; exact hT, by rw [m]; exact Ch.refl _ _⟩
    · refine (dup_yes hT pid fd hF.inv.bd he q hq (by omega)).mono fun v H' M' ⟨a, h, m, hc⟩ => ⟨_, ⟨⟨_, _, a⟩, ?_⟩, h, m, hc⟩
      have hn0 : T.fd pid.toNat fd.toNat = (T.no pid fd : Int) + 1 := hn
      have hu := hF.inv.used (p := pid.toNat) (by omega) hn0
      exact hF.dup (by omega) (by omega) h16 hz (by simp [Tb.runs] at hr; exact hr.2) (by omega)
  · exact (dup_no hT pid fd he).mono fun v H' M' ⟨a, h, m⟩ => ⟨T, ⟨⟨_, _, a⟩, hF⟩, h, by rw [m]; exact hT, by rw [m]; exact Ch.refl _ _⟩
theorem open_f {b c : Nat} {T : Tb} {inn : Nat → Bool} (hF : Fil T inn c) (pid : Int) : Ctr Try.prog 14 [.pointer (some ⟨b,0,none⟩), .int .i64 pid, .agg (fileX c).vals] [Tbl b T]
    (fun v Bs => ∃ T', (∃ r e, v = .tuple #[.int .i64 r, .int .i64 e] ∧ Fil T' (fun k => if k = c then (e == 0) else inn k) (c + 1)) ∧ Bs = [Tbl b T']) := by
  refine chgT fun H M hT => ?_
  have hno : ∀ e : Int, e ≠ 0 → Fil T (fun k => if k = c then (e == 0) else inn k) (c + 1) := fun e he => by
    have : (fun k => if k = c then (e == 0) else inn k) = inn := by
      funext k
      by_cases h : k = c
      · subst h
        rw [if_pos rfl]
        cases hk : inn k with
        | true => have := hF.lim k hk; omega
        | false => simpa using he
      · rw [if_neg h]
    rw [this]; exact hF.mono (by omega)
  cases hr : T.runs pid with
  | false => exact (opn_no hT pid _ hr).mono fun v H' M' ⟨a, h, m⟩ => ⟨T, ⟨_, _, a, hno _ (by omega)⟩, h, ch_same m hT, m.mono (by simp)⟩
  | true =>
    have hp := runs_bd hr
    rcases freeAt_bd (T.fd pid.toNat) 8 0 with hq | ⟨q, hq, _, hq8, hz, _⟩
    · exact (opn_full hT pid _ hr hq).mono fun v H' M' ⟨a, h, m⟩ => ⟨T, ⟨_, _, a, hno _ (by omega)⟩, h, ch_same m hT, m.mono (by simp)⟩
    · refine (opn_yes hT pid _ hr q hq (by omega)).mono fun v H' M' ⟨h, hc, hm⟩ => ?_
      cases hs : T.file 16 0 with
      | none => rw [hs] at hm; exact ⟨T, ⟨_, _, hm.1, hno _ (by omega)⟩, h, hm.2, hc⟩
      | some i =>
        rw [hs] at hm
        obtain ⟨h1, h2, h3⟩ := file_bd T 16 0 i hs
        exact ⟨_, ⟨_, _, hm.1, hF.opn (by omega) (by omega) (by omega) hz (by simp [Tb.runs] at hr; exact hr.2) h3⟩, h, hm.2, hc⟩
abbrev fV (k : Nat) : List Value := [.int .i64 1, .string ByteArray.empty, .int .i64 (k : Int), .int .i64 0, .int .i64 0, .int .i64 0, .bool false]
abbrev zV : List Value := [.int .i64 0, .string ByteArray.empty, .int .i64 0, .int .i64 0, .int .i64 0, .int .i64 0, .bool false]
theorem close_f {b c : Nat} {T : Tb} {inn : Nat → Bool} (hF : Fil T inn c) (pid fd : Int) : Ctr Try.prog 15 [.pointer (some ⟨b,0,none⟩), .int .i64 pid, .int .i64 fd] [Tbl b T]
    (fun v Bs => ∃ T', ((∃ e, v = .tuple #[.agg zV.toArray, .bool false, .int .i64 e] ∧ e ≠ 0 ∧ Fil T' inn c) ∨ ∃ k last, v = .tuple #[.agg (fV k).toArray, .bool last, .int .i64 0] ∧ inn k = true ∧ Fil T' (if last then out inn k else inn) c) ∧ Bs = [Tbl b T']) := by
  refine chgT fun H M hT => ?_
  by_cases he : T.err pid fd = 0
  · obtain ⟨hr, hf, hn, h16⟩ := err0 he hF.inv.bd
    have hp := runs_bd hr
    refine (close_yes hT pid fd hF.inv.bd he).mono fun v H' M' ⟨a, h, m, hc⟩ => ⟨_, .inr ?_, h, m, hc⟩
    have hn0 : T.fd pid.toNat fd.toNat = (T.no pid fd : Int) + 1 := hn
    obtain ⟨k, h1, h2, h3, h4⟩ := hF.letT (p := pid.toNat) (by omega) hn0
    refine ⟨k, _, by rw [a, h1]; rfl, h2, ?_⟩
    by_cases hg : T.us (T.no pid fd) - 1 > 0
    · simp only [hg, decide_true, Bool.not_true, Bool.false_eq_true, if_false]; exact h3 hg
    · simp only [hg, decide_false, Bool.not_false, if_true]; exact h4 hg
  · exact (close_no hT pid fd he).mono fun v H' M' ⟨a, h, m⟩ => ⟨T, .inl ⟨_, a, he, hF⟩, h, ch_same m hT, m.mono (by simp)⟩
def oRow (xs : List Opn) (i : Nat) : List Value := [.int .i64 (xs.getD i Opn.zero).kind, .string (xs.getD i Opn.zero).label, .int .i64 (xs.getD i Opn.zero).ino, .int .i64 (xs.getD i Opn.zero).off, .int .i64 (xs.getD i Opn.zero).flags, .int .i64 (xs.getD i Opn.zero).pipe, .bool (xs.getD i Opn.zero).writer]
theorem flat_oRow (xs : List Opn) : Go.Cam.flat xs.length (oRow xs) = flat xs := by
  unfold Go.Cam.flat flat
  have : ∀ (ys : List Opn) (k : Nat), (List.range' k ys.length).flatMap (fun i => ((ys.getD (i - k) Opn.zero).vals.toList)) = ys.flatMap fun x => x.vals.toList := by
    intro ys
    induction ys with
    | nil => intro k; rfl
    | cons y ys ih =>
      intro k
      rw [List.length_cons, List.range'_succ, List.flatMap_cons, List.flatMap_cons, Nat.sub_self, List.getD_cons_zero]
      congr 1
      rw [← ih (k + 1)]
      rw [List.flatMap_def, List.flatMap_def]
      congr 1
      refine List.map_congr_left fun i hi => ?_
      have : k + 1 ≤ i := by simp [List.mem_range'_1] at hi; omega
      rw [show i - k = (i - (k + 1)) + 1 by omega, List.getD_cons_succ]
  have h := this xs 0
  simp only [Nat.sub_zero] at h
  rw [← h, List.range_eq_range']
  rfl
theorem exitL_len (p : Nat) (g : Nat → Int) : ∀ (d f : Nat) (T : Tb) (xs : List Opn), (exitL p g d f T xs).2.length ≤ xs.length + d
  | 0, _, _, _ => Nat.le_refl _
  | d + 1, f, T, xs => by
    rw [exitL]
    split
    · have := exitL_len p g d (f + 1) T xs; omega
    · have := exitL_len p g d (f + 1) (T.letT p f (g f - 1).toNat) (if T.us (g f - 1).toNat - 1 > 0 then xs else xs ++ [T.op (g f - 1).toNat])
      have h2 : (if T.us (g f - 1).toNat - 1 > 0 then xs else xs ++ [T.op (g f - 1).toNat]).length ≤ xs.length + 1 := by split <;> simp
      omega
theorem exit_f {b c : Nat} {T : Tb} {inn : Nat → Bool} (hF : Fil T inn c) (pid : Int) : Ctr Try.prog 11 [.pointer (some ⟨b,0,none⟩), .int .i64 pid, .int .i64 0] [Tbl b T]
    (fun v Bs => (∃ e, v = .tuple #[.slice none 0 0, .int .i64 e] ∧ e ≠ 0 ∧ Bs = [Tbl b T]) ∨
      ∃ T' a cap xs inn2, v = .tuple #[.slice a xs.length cap, .int .i64 0] ∧ Gone inn xs inn2 ∧ xs.length ≤ 8 ∧ Fil T' inn2 c ∧ Bs = [SA (some 41) 7 (.slice a xs.length cap) xs.length (oRow xs), Tbl b T']) := fun F H M s => by
  have hT : M b = some T.obj := star_fst s
  cases hr : T.runs pid with
  | false => exact (exit_no hT pid 0 hr).mono fun v H' M' ⟨a, h, m⟩ => ⟨_, .inl ⟨_, a, by omega, rfl⟩, by rw [h, m]; exact s⟩
  | true =>
    by_cases h1 : pid = 1
    · subst h1
      exact (exit_one hT 0 hr).mono fun v H' M' ⟨a, h, m⟩ => ⟨_, .inl ⟨_, a, by omega, rfl⟩, by rw [h, m]; exact s⟩
    · refine (exit_ok hT pid 0 hr h1 hF.inv.bd).mono fun v H' M' ⟨u, hv, hH, ⟨hown, hnew⟩, hb, hc⟩ => ?_
      have hp := runs_bd hr
      obtain ⟨inn2, hf2, hg⟩ := hF.exit 0 hp.1 hp.2
      have hln : (flat (T.gone pid)).length = (T.gone pid).length * 7 := flat_len _
      obtain ⟨a, cap, rfl⟩ := hown.len _ hln (by omega)
      refine ⟨_, .inr ⟨_, a, cap, T.gone pid, inn2, hv, hg, exitL_len _ _ 8 0 T [], hf2, rfl⟩, ?_⟩
      subst hH
      obtain ⟨M1, M2, a1, a2, dj, hA, hB⟩ := s
      have h2 : ∀ c, M2 c ≠ none → c ≠ b := fun c hne e => by
        subst e
        rcases dj c with h3 | h3
        · rw [show M1 c = some T.obj from hA] at h3; cases h3
        · exact hne h3
      refine ⟨fun c => if ob (.slice a (T.gone pid).length cap) = some c then M' c else none, fun c => if ob (.slice a (T.gone pid).length cap) = some c then none else M' c, ?_, ?_, ?_, ?_, ?_⟩
      · intro c o h; dsimp only at h; split at h
        · exact h
        · cases h
      · intro c o h; dsimp only at h; split at h
        · cases h
        · exact h
      · intro c; dsimp only; split
        · exact .inr rfl
        · exact .inl rfl
      · refine ⟨fun _ _ => rfl, ?_, ?_, _, _, rfl⟩
        · rw [flat_oRow, List.all_eq_true]
          intro y hy
          obtain ⟨x, _, h5⟩ := List.mem_flatMap.1 hy
          simp [Opn.vals] at h5
          rcases h5 with h | h | h | h | h | h | h <;> subst h <;> rfl
        · rw [flat_oRow]; exact hown.frame fun c o h ho => by rw [if_pos h]; exact ho
      · refine ⟨fun c => if c = b then some (T.exitT pid 0).obj else none, M2, ?_, ?_, ?_, if_pos rfl, hB⟩
        · intro c o h; dsimp only at h; split at h
          · rename_i e; subst e
            dsimp only; rw [if_neg (fun e => (hnew c e).1 rfl), hb]; exact h
          · cases h
        · intro c o h
          have hcb := h2 c (by rw [h]; simp)
          have hMc := a2 c o h
          dsimp only
          rw [if_neg (fun e => (hnew c e).2 o hMc)]
          exact hc c o (by simpa using hcb) hMc
        · intro c
          by_cases e : c = b
          · refine .inr ?_
            cases h3 : M2 c with
            | none => rfl
            | some u => exact absurd e (h2 c (by rw [h3]; simp))
          · exact .inl (if_neg e)
end Go.Proofs.Ytimaipclgmcekaa

/- ProcOpen, walked. -/
namespace Go.Proofs.Ytimaipclgmcekaa
open Go.Cam
set_option maxRecDepth 100000
def inC (inn : Nat → Bool) (k : Nat) : Value := .bool (inn k)
instance : ZA Try.prog 39 (tab 70 (inC fun _ => false)) := ⟨.agg (tab 70 (inC fun _ => false)), by kernel_rfl, rfl⟩
theorem in_put (inn : Nat → Bool) (k : Nat) (v : Bool) : fset (inC inn) k (.bool v) = inC (fun q => if q = k then v else inn q) := by
  funext q; unfold fset inC; split <;> simp [*]
theorem in_out (inn : Nat → Bool) (k : Nat) : fset (inC inn) k (.bool false) = inC (out inn k) := in_put inn k false
structure OpV where
  kind : Int
  pid : Int
  n : Int
  x : Opn
abbrev opRow (o : OpV) : List Value := [.int .i64 o.kind, .int .i64 o.pid, .int .i64 o.n, .int .i64 o.x.kind, .string o.x.label, .int .i64 o.x.ino, .int .i64 o.x.off, .int .i64 o.x.flags, .int .i64 o.x.pipe, .bool o.x.writer]
theorem Gone.keys {inn inn2 : Nat → Bool} {xs : List Opn} (h : Gone inn xs inn2) : ∃ ks : List Nat, xs = ks.map fileX := by
  induction h with
  | nil => exact ⟨[], rfl⟩
  | cons k _ _ ih => obtain ⟨ks, rfl⟩ := ih; exact ⟨k :: ks, rfl⟩
theorem Gone.head {inn inn2 : Nat → Bool} {k : Nat} {xs : List Opn} (h : Gone inn (fileX k :: xs) inn2) : inn k = true ∧ Gone (out inn k) xs inn2 := by
  generalize hy : fileX k :: xs = ys at h
  cases h with
  | nil => cases hy
  | cons q h1 h2 =>
    rw [List.cons.injEq] at hy
    have := fileX_inj hy.1
    subst this
    rw [hy.2]; exact ⟨h1, h2⟩
theorem Gone.done {inn inn2 : Nat → Bool} (h : Gone inn [] inn2) : inn = inn2 := by cases h; rfl
theorem lk_bda {P : Program} {l : List (Nat × Value)} {As : List HP} {d : Nat} {oty : TypeId} {pos : String} {af : Array Edge} {g : Option (Nat × Bool)} {t m e sz : Nat} {cells : Array Value} [AR P t m e] [SZ P e sz] [ZA P t cells] : LookS P ⟨some d, .build t #[], oty, pos, af, g⟩ l As (.agg cells) := .mk fun _ _ _ _ => qs_bda
abbrev InA (r : Nat) (inn : Nat → Bool) : HP := .own r (.cells (tab 70 (inC inn)) 39 (0, 0))
set_option maxHeartbeats 8000000 in
theorem open_law (a : Option Addr) (len cap : Nat) (g : Nat → OpV) (hk : ∀ i, i < len → -9223372036854775808 ≤ (g i).kind ∧ (g i).kind < 9223372036854775808) :
    Ctr Try.prog 4 [.slice a len cap] [SA none 10 (.slice a len cap) len (fun i => opRow (g i))] (fun v Bs => v = .bool true ∧ Bs = []) := by
  refine s_enter 181 [(0, _)] (fun F => [_, F]) Try.func4 fun F => ?_
  refine go_ ?_
  refine s_call (sp := (by repeat (first | exact Split.nil | apply Split.perx (by repeat (first | with_reducible exact Sel.here | with_reducible apply Sel.there)) (by infer_instance) | apply Split.cons (by repeat (first | with_reducible exact Sel.here | with_reducible apply Sel.there))))) (hs := shown_c) (h := ?_)
  rintro v Bs ⟨rfl, rfl⟩
  refine go_ ?_
  refine s_call (sp := (by repeat (first | exact Split.nil | apply Split.perx (by repeat (first | with_reducible exact Sel.here | with_reducible apply Sel.there)) (by infer_instance) | apply Split.cons (by repeat (first | with_reducible exact Sel.here | with_reducible apply Sel.there))))) (hs := new_c) (h := ?_)
  rintro v Bs ⟨b, rfl, rfl⟩
  refine go_ ?_
  refine s_look lk_bda ?_
  refine s_new (.cells (tab 70 (inC fun _ => false)) 39 (0, 0)) fun r5 => ?_
  refine s_stw ?_
  refine go_ ?_
  refine s_loop (fun y : Nat × Tb × (Nat → Bool) => [(0, .slice a len cap), (4, .pointer (some ⟨b, 0, none⟩)), (5, .pointer (some ⟨r5, 0, none⟩)), (6, .int .i64 y.1)])
    (fun y => [SA none 10 (.slice a len cap) len (fun i => opRow (g i)), Tbl b y.2.1, InA r5 y.2.2, F]) (fun y => y.1 ≤ 60 ∧ Fil y.2.1 y.2.2 y.1) (fun y => 60 - y.1) (0, S0, fun _ => false) ⟨by simp, Fil.start⟩ (by repeat (first | exact Ent.nil | refine Ent.per (by repeat (first | with_reducible exact Sel.here | with_reducible apply Sel.there)) ?_ | refine Ent.cons (by repeat (first | with_reducible exact Sel.here | with_reducible apply Sel.there)) ?_)) ?_
  rintro ⟨i, T, inn⟩ ⟨hi, hF⟩ next
  dsimp only at hi hF next ⊢
  refine go_ ?_
  have done : i = 60 ∨ len ≤ i → RunS Try.prog 4 181 (post (fun v Bs => v = .bool true ∧ Bs = []) F) [.code .ret] [(2, .bool true)] [SA none 10 (.slice a len cap) len (fun i => opRow (g i)), Tbl b T, InA r5 inn, F] := fun _ => by
    exact s_ret1 (rs := [.tmp 2]) Try.func4 rfl (by intro j; refine RVS.tmp _ rfl ?_; exact RVS.nil) (⟨rfl, rfl⟩) (by repeat (first | exact Ent.nil | refine Ent.per (by repeat (first | with_reducible exact Sel.here | with_reducible apply Sel.there)) ?_ | refine Ent.cons (by repeat (first | with_reducible exact Sel.here | with_reducible apply Sel.there)) ?_))
  cases h1 : decide ((i : Int) < (len : Int))
  · refine go_ ?_
    exact s_keep _ (done (by simp at h1; omega))
  simp only [decide_eq_true_eq] at h1
  refine go_ ?_
  refine s_if (fun h2 => ?_) (fun h2 => ?_)
  rotate_left
  · refine go_ ?_
    exact s_keep _ (done (by omega))
  refine go_ ?_
  refine s_alloc fun r7 => ?_
  refine go_ ?_
  refine s_call (sp := (by repeat (first | exact Split.nil | apply Split.perx (by repeat (first | with_reducible exact Sel.here | with_reducible apply Sel.there)) (by infer_instance) | apply Split.cons (by repeat (first | with_reducible exact Sel.here | with_reducible apply Sel.there))))) (hs := kind_c _ _ (hk i (by omega)) (by decide)) (h := ?_)
  rintro v Bs ⟨rfl, rfl⟩
  generalize kindI (g i).kind 7 = κ
  refine go_ ?_
  apply s_join (fun _ : Tb × (Nat → Bool) => [(0, .slice a len cap), (4, .pointer (some ⟨b, 0, none⟩)), (5, .pointer (some ⟨r5, 0, none⟩)), (6, .int .i64 i), (16, .int .i64 0)])
    (fun y => [SA none 10 (.slice a len cap) len (fun i => opRow (g i)), Tbl b y.1, InA r5 y.2, F]) (fun y => Fil y.1 y.2 (i + 1))
  case h =>
    intro K
    refine s_ieq (fun hκ => ?_) (fun hκ => ?_)
    · -- Fork
      refine go_ ?_
      refine s_call (sp := (by repeat (first | exact Split.nil | apply Split.perx (by repeat (first | with_reducible exact Sel.here | with_reducible apply Sel.there)) (by infer_instance) | apply Split.cons (by repeat (first | with_reducible exact Sel.here | with_reducible apply Sel.there))))) (hs := fork_f hF _) (h := ?_)
      rintro v Bs ⟨T', ⟨r, e, rfl⟩, hF', rfl⟩
      refine go_ ?_
      refine s_ent (s_keep _ (K (T', inn) (hF'.mono (by omega)))) (by repeat (first | exact Ent.nil | refine Ent.per (by repeat (first | with_reducible exact Sel.here | with_reducible apply Sel.there)) ?_ | refine Ent.cons (by repeat (first | with_reducible exact Sel.here | with_reducible apply Sel.there)) ?_))
    refine go_ ?_
    refine s_ieq (fun hκ => ?_) (fun hκ => ?_)
    · -- Exit
      refine go_ ?_
      refine s_call (sp := (by repeat (first | exact Split.nil | apply Split.perx (by repeat (first | with_reducible exact Sel.here | with_reducible apply Sel.there)) (by infer_instance) | apply Split.cons (by repeat (first | with_reducible exact Sel.here | with_reducible apply Sel.there))))) (hs := exit_f hF _) (h := ?_)
      rintro v Bs (⟨e, rfl, he, rfl⟩ | ⟨T', a', cap', xs, inn2, rfl, hg, hx8, hF', rfl⟩)
      · refine go_ ?_
        refine s_unroll ?_
        refine go_ ?_
        exact s_ent (s_keep _ (K (T, inn) (hF.mono (by omega)))) (by repeat (first | exact Ent.nil | refine Ent.per (by repeat (first | with_reducible exact Sel.here | with_reducible apply Sel.there)) ?_ | refine Ent.cons (by repeat (first | with_reducible exact Sel.here | with_reducible apply Sel.there)) ?_))
      · obtain ⟨ks, rfl⟩ := hg.keys
        have hk8 : ks.length ≤ 8 := by simpa using hx8
        refine s_nrm (s_open (SA.cg (fun j => fV (ks.getD j 0)) fun j hj => ?_) ?_)
        · have hj' : j < ks.length := by simpa using hj
          simp [oRow, fV, List.getD_eq_getElem?_getD, hj', fileX]
        refine go_ ?_
        refine s_loop (fun y : Nat × (Nat → Bool) => [(0, .slice a len cap), (4, .pointer (some ⟨b, 0, none⟩)), (5, .pointer (some ⟨r5, 0, none⟩)), (6, .int .i64 i), (8, .slice a' (ks.map fileX).length cap'), (9, .int .i64 0), (10, .int .i64 y.1)])
          (fun y => [SA (some 41) 7 (.slice a' (ks.map fileX).length cap') (ks.map fileX).length (fun j => fV (ks.getD j 0)), SA none 10 (.slice a len cap) len (fun i => opRow (g i)), Tbl b T', InA r5 y.2, F])
          (fun y => y.1 ≤ ks.length ∧ Gone y.2 ((ks.drop y.1).map fileX) inn2 ∧ ∀ q, y.2 q = true → q < 60) (fun y => ks.length - y.1) (0, inn) ⟨by simp, by simpa using hg, fun q hq => by have := hF.lim q hq; omega⟩ (by repeat (first | exact Ent.nil | refine Ent.per (by repeat (first | with_reducible exact Sel.here | with_reducible apply Sel.there)) ?_ | refine Ent.cons (by repeat (first | with_reducible exact Sel.here | with_reducible apply Sel.there)) ?_)) ?_
        rintro ⟨k, inn1⟩ ⟨hk1, hg1, hlim⟩ next2
        dsimp only at hk1 hg1 hlim ⊢
        refine go_ ?_
        cases h3 : decide ((k : Int) < ((ks.map fileX).length : Int))
        · refine go_ ?_
          have h3' : ks.length ≤ k := by simpa using h3
          have : k = ks.length := by omega
          subst this
          rw [List.drop_length] at hg1
          have := hg1.done
          subst this
          exact s_ent (s_keep _ (K (T', inn1) (hF'.mono (by omega)))) (by repeat (first | exact Ent.nil | refine Ent.per (by repeat (first | with_reducible exact Sel.here | with_reducible apply Sel.there)) ?_ | refine Ent.cons (by repeat (first | with_reducible exact Sel.here | with_reducible apply Sel.there)) ?_))
        have h3' : k < ks.length := by simpa using h3
        have hq : ks.drop k = ks.getD k 0 :: ks.drop (k + 1) := by rw [List.drop_eq_getElem_cons h3']; simp [List.getD_eq_getElem?_getD, h3']
        rw [hq, List.map_cons] at hg1
        obtain ⟨hin, hg2⟩ := hg1.head
        have hq60 := hlim _ hin
        have hkm : k < (ks.map fileX).length := by simpa using h3'
        refine go_ ?_
        rw [show decide (((ks.getD k 0 : Nat) : Int) < 0) = false by simp]
        refine go_ ?_
        rw [show decide (((ks.getD k 0 : Nat) : Int) ≥ 70) = false from decide_eq_false (by omega)]
        refine go_ ?_
        refine s_look lk_ldt ?_
        rw [Nat.mul_one, show inC inn1 (ks.getD k 0) = .bool true by unfold inC; rw [hin]]
        refine go_ ?_
        refine s_stt ?_
        rw [Nat.mul_one, in_out]
        refine go_ ?_
        exact s_ent (s_keep _ (next2 (k + 1, out inn1 (ks.getD k 0)) ⟨by dsimp only; omega, hg2, fun q hq => by
          dsimp only [out] at hq
          by_cases c : q = ks.getD k 0
          · rw [if_pos c] at hq; cases hq
          · rw [if_neg c] at hq; exact hlim q hq⟩ (by dsimp only; omega))) (by repeat (first | exact Ent.nil | refine Ent.per (by repeat (first | with_reducible exact Sel.here | with_reducible apply Sel.there)) ?_ | refine Ent.cons (by repeat (first | with_reducible exact Sel.here | with_reducible apply Sel.there)) ?_))
    refine go_ ?_
    refine s_ieq (fun hκ => ?_) (fun hκ => ?_)
    · rw [hκ]
      refine go_ ?_

      refine s_call (sp := (by repeat (first | exact Split.nil | apply Split.perx (by repeat (first | with_reducible exact Sel.here | with_reducible apply Sel.there)) (by infer_instance) | apply Split.cons (by repeat (first | with_reducible exact Sel.here | with_reducible apply Sel.there))))) (hs := open_f hF _) (h := ?_)
      rintro v Bs ⟨T', ⟨r, e, rfl, hF'⟩, rfl⟩
      refine go_ ?_
      refine s_stt ?_
      rw [Nat.mul_one, in_put]
      refine go_ ?_
      exact s_entF (by repeat (first | exact Ent.nil | refine Ent.per (by repeat (first | with_reducible exact Sel.here | with_reducible apply Sel.there)) ?_ | refine Ent.cons (by repeat (first | with_reducible exact Sel.here | with_reducible apply Sel.there)) ?_)) (s_keep _ (K (T', _) (by exact hF')))
    refine go_ ?_
    refine s_ieq (fun hκ => ?_) (fun hκ => ?_)
    · rw [hκ]
      refine go_ ?_
      refine s_call (sp := (by repeat (first | exact Split.nil | apply Split.perx (by repeat (first | with_reducible exact Sel.here | with_reducible apply Sel.there)) (by infer_instance) | apply Split.cons (by repeat (first | with_reducible exact Sel.here | with_reducible apply Sel.there))))) (hs := open_f hF _) (h := ?_)
      rintro v Bs ⟨T', ⟨r, e, rfl, hF'⟩, rfl⟩
      refine go_ ?_
      refine s_stt ?_
      rw [Nat.mul_one, in_put]
      refine go_ ?_
      exact s_entF (by repeat (first | exact Ent.nil | refine Ent.per (by repeat (first | with_reducible exact Sel.here | with_reducible apply Sel.there)) ?_ | refine Ent.cons (by repeat (first | with_reducible exact Sel.here | with_reducible apply Sel.there)) ?_)) (s_keep _ (K (T', _) (by exact hF')))
    refine go_ ?_
    apply s_join (fun _ : Unit => [(0, .slice a len cap), (4, .pointer (some ⟨b, 0, none⟩)), (5, .pointer (some ⟨r5, 0, none⟩)), (6, .int .i64 i), (119, .pointer (some ⟨b, 0, none⟩)), (121, .int .i64 (g i).pid), (123, .int .i64 (g i).n)])
      (fun _ => [SA none 10 (.slice a len cap) len (fun i => opRow (g i)), Tbl b T, InA r5 inn, F]) (fun _ => True)
    case h =>
      intro K2
      refine s_ieq (fun hκ => ?_) (fun hκ => ?_)
      · rw [hκ]
        refine go_ ?_
        exact s_entF (by repeat (first | exact Ent.nil | refine Ent.per (by repeat (first | with_reducible exact Sel.here | with_reducible apply Sel.there)) ?_ | refine Ent.cons (by repeat (first | with_reducible exact Sel.here | with_reducible apply Sel.there)) ?_)) (s_keep _ (K2 () trivial))
      refine go_ ?_
      refine s_ieq (fun hκ => ?_) (fun hκ => ?_)
      · rw [hκ]
        refine go_ ?_
        exact s_entF (by repeat (first | exact Ent.nil | refine Ent.per (by repeat (first | with_reducible exact Sel.here | with_reducible apply Sel.there)) ?_ | refine Ent.cons (by repeat (first | with_reducible exact Sel.here | with_reducible apply Sel.there)) ?_)) (s_keep _ (K2 () trivial))
      refine go_ ?_
      refine s_ieq (fun hκ => ?_) (fun hκ => ?_)
      · refine go_ ?_
        refine s_call (sp := (by repeat (first | exact Split.nil | apply Split.perx (by repeat (first | with_reducible exact Sel.here | with_reducible apply Sel.there)) (by infer_instance) | apply Split.cons (by repeat (first | with_reducible exact Sel.here | with_reducible apply Sel.there))))) (hs := dup_f hF _ _) (h := ?_)
        rintro v Bs ⟨T', ⟨⟨r, e, rfl⟩, hF'⟩, rfl⟩
        refine go_ ?_
        exact s_entF (by repeat (first | exact Ent.nil | refine Ent.per (by repeat (first | with_reducible exact Sel.here | with_reducible apply Sel.there)) ?_ | refine Ent.cons (by repeat (first | with_reducible exact Sel.here | with_reducible apply Sel.there)) ?_)) (s_keep _ (K (T', _) (hF'.mono (by omega))))
      · refine go_ ?_
        exact s_entF (by repeat (first | exact Ent.nil | refine Ent.per (by repeat (first | with_reducible exact Sel.here | with_reducible apply Sel.there)) ?_ | refine Ent.cons (by repeat (first | with_reducible exact Sel.here | with_reducible apply Sel.there)) ?_)) (s_keep _ (K (T, _) (hF.mono (by omega))))
    case K =>
      rintro ⟨⟩ _
      refine s_call (sp := (by repeat (first | exact Split.nil | apply Split.perx (by repeat (first | with_reducible exact Sel.here | with_reducible apply Sel.there)) (by infer_instance) | apply Split.cons (by repeat (first | with_reducible exact Sel.here | with_reducible apply Sel.there))))) (hs := close_f hF _ _) (h := ?_)
      rintro v Bs ⟨T', (⟨e, rfl, he, hF'⟩ | ⟨k, last, rfl, hk2, hF'⟩), rfl⟩
      · refine go_ ?_
        refine s_alloc fun r13 => ?_
        refine go_ ?_
        rw [show (e == 0) = false by simpa using he]
        refine go_ ?_
        rw [show (e == 0) = false by simpa using he]
        refine go_ ?_
        exact s_entF (by repeat (first | exact Ent.nil | refine Ent.per (by repeat (first | with_reducible exact Sel.here | with_reducible apply Sel.there)) ?_ | refine Ent.cons (by repeat (first | with_reducible exact Sel.here | with_reducible apply Sel.there)) ?_)) (s_keep _ (K (T', _) (hF'.mono (by omega))))
      · have hk60 := hF.lim k hk2
        refine go_ ?_
        refine s_alloc fun r13 => ?_
        refine go_ ?_
        rw [show decide (((k : Nat) : Int) < 0) = false by simp]
        refine go_ ?_
        rw [show decide (((k : Nat) : Int) ≥ 70) = false from decide_eq_false (by omega)]
        refine go_ ?_
        refine s_look lk_ldt ?_
        rw [Nat.mul_one, show inC inn k = .bool true by unfold inC; rw [hk2]]
        refine go_ ?_
        refine s_cond last (fun hl => ?_) (fun hl => ?_)
        · subst hl
          refine go_ ?_
          refine s_stt ?_
          rw [Nat.mul_one, in_out]
          refine go_ ?_
          exact s_entF (by repeat (first | exact Ent.nil | refine Ent.per (by repeat (first | with_reducible exact Sel.here | with_reducible apply Sel.there)) ?_ | refine Ent.cons (by repeat (first | with_reducible exact Sel.here | with_reducible apply Sel.there)) ?_)) (s_keep _ (K (T', out inn k) (Fil.mono (by simpa using hF') (by omega))))
        · subst hl
          refine go_ ?_
          exact s_entF (by repeat (first | exact Ent.nil | refine Ent.per (by repeat (first | with_reducible exact Sel.here | with_reducible apply Sel.there)) ?_ | refine Ent.cons (by repeat (first | with_reducible exact Sel.here | with_reducible apply Sel.there)) ?_)) (s_keep _ (K (T', inn) (Fil.mono (by simpa using hF') (by omega))))
  case K =>
    rintro ⟨T, inn⟩ hF
    dsimp only at hF ⊢
    refine s_loop (fun k : Nat => [(0, .slice a len cap), (4, .pointer (some ⟨b, 0, none⟩)), (5, .pointer (some ⟨r5, 0, none⟩)), (6, .int .i64 i), (16, .int .i64 k)])
      (fun _ => [SA none 10 (.slice a len cap) len (fun i => opRow (g i)), Tbl b T, InA r5 inn, F]) (fun k => k ≤ 60) (fun k => 60 - k) 0 (by omega) (by repeat (first | exact Ent.nil | refine Ent.per (by repeat (first | with_reducible exact Sel.here | with_reducible apply Sel.there)) ?_ | refine Ent.cons (by repeat (first | with_reducible exact Sel.here | with_reducible apply Sel.there)) ?_)) ?_
    intro k hk60 next2
    refine go_ ?_
    refine s_if (fun h3 => ?_) (fun h3 => ?_)
    · refine go_ ?_
      refine s_call (sp := (by repeat (first | exact Split.nil | apply Split.perx (by repeat (first | with_reducible exact Sel.here | with_reducible apply Sel.there)) (by infer_instance) | apply Split.cons (by repeat (first | with_reducible exact Sel.here | with_reducible apply Sel.there))))) (hs := holds_c (fileX k)) (h := ?_)
      rintro v Bs ⟨rfl, rfl⟩
      rw [hF.holds]
      cases hin : inn k
      · rw [if_neg (by simp)]
        refine go_ ?_
        refine s_look lk_ldt ?_
        rw [Nat.mul_one, show inC inn k = .bool false by unfold inC; rw [hin]]
        refine go_ ?_
        exact s_entF (by repeat (first | exact Ent.nil | refine Ent.per (by repeat (first | with_reducible exact Sel.here | with_reducible apply Sel.there)) ?_ | refine Ent.cons (by repeat (first | with_reducible exact Sel.here | with_reducible apply Sel.there)) ?_)) (s_keep _ (next2 (k + 1) (by omega) (by omega)))
      · rw [if_pos rfl]
        refine go_ ?_
        refine s_look lk_ldt ?_
        rw [Nat.mul_one, show inC inn k = .bool true by unfold inC; rw [hin]]
        refine go_ ?_
        exact s_entF (by repeat (first | exact Ent.nil | refine Ent.per (by repeat (first | with_reducible exact Sel.here | with_reducible apply Sel.there)) ?_ | refine Ent.cons (by repeat (first | with_reducible exact Sel.here | with_reducible apply Sel.there)) ?_)) (s_keep _ (next2 (k + 1) (by omega) (by omega)))
    · refine go_ ?_
      exact s_entF (by repeat (first | exact Ent.nil | refine Ent.per (by repeat (first | with_reducible exact Sel.here | with_reducible apply Sel.there)) ?_ | refine Ent.cons (by repeat (first | with_reducible exact Sel.here | with_reducible apply Sel.there)) ?_)) (s_keep _ (next (i + 1, T, inn) ⟨by dsimp only; omega, hF⟩ (by dsimp only; omega)))
end Go.Proofs.Ytimaipclgmcekaa
