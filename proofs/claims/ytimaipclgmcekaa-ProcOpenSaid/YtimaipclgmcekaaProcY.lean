/- ProcOpen, walked. -/
import Derived.Test.YtimaipclgmcekaaProcN
namespace Go.Proofs.Ytimaipclgmcekaa
open Go.Cam
set_option maxRecDepth 100000
def inC (inn : Nat → Bool) (k : Nat) : Value := .bool (inn k)
instance : ZA Try.prog 39 (tab 70 (inC fun _ => false)) := ⟨.agg (tab 70 (inC fun _ => false)), by kernel_rfl, rfl⟩
theorem in_put (inn : Nat → Bool) (k : Nat) (v : Bool) : fset (inC inn) k (.bool v) = inC (fun q => if q = k then v else inn q) := by
  funext q; unfold fset inC; split <;> simp [*]
theorem in_out (inn : Nat → Bool) (k : Nat) : fset (inC inn) k (.bool false) = inC (out inn k) := in_put inn k false
structure OpV where
  kind : Int
  pid : Int
  n : Int
  x : Opn
abbrev opRow (o : OpV) : List Value := [.int .i64 o.kind, .int .i64 o.pid, .int .i64 o.n, .int .i64 o.x.kind, .string o.x.label, .int .i64 o.x.ino, .int .i64 o.x.off, .int .i64 o.x.flags, .int .i64 o.x.pipe, .bool o.x.writer]
theorem Gone.keys {inn inn2 : Nat → Bool} {xs : List Opn} (h : Gone inn xs inn2) : ∃ ks : List Nat, xs = ks.map fileX := by
  induction h with
  | nil => exact ⟨[], rfl⟩
  | cons k _ _ ih => obtain ⟨ks, rfl⟩ := ih; exact ⟨k :: ks, rfl⟩
theorem Gone.head {inn inn2 : Nat → Bool} {k : Nat} {xs : List Opn} (h : Gone inn (fileX k :: xs) inn2) : inn k = true ∧ Gone (out inn k) xs inn2 := by
  generalize hy : fileX k :: xs = ys at h
  cases h with
  | nil => cases hy
  | cons q h1 h2 =>
    rw [List.cons.injEq] at hy
    have := fileX_inj hy.1
    subst this
    rw [hy.2]; exact ⟨h1, h2⟩
theorem Gone.done {inn inn2 : Nat → Bool} (h : Gone inn [] inn2) : inn = inn2 := by cases h; rfl
theorem lk_bda {P : Program} {l : List (Nat × Value)} {As : List HP} {d : Nat} {oty : TypeId} {pos : String} {af : Array Edge} {g : Option (Nat × Bool)} {t m e sz : Nat} {cells : Array Value} [AR P t m e] [SZ P e sz] [ZA P t cells] : LookS P ⟨some d, .build t #[], oty, pos, af, g⟩ l As (.agg cells) := .mk fun _ _ _ _ => qs_bda
abbrev InA (r : Nat) (inn : Nat → Bool) : HP := .own r (.cells (tab 70 (inC inn)) 39 (0, 0))
set_option maxHeartbeats 8000000 in
theorem open_law (a : Option Addr) (len cap : Nat) (g : Nat → OpV) (hk : ∀ i, i < len → -9223372036854775808 ≤ (g i).kind ∧ (g i).kind < 9223372036854775808) :
    Ctr Try.prog 4 [.slice a len cap] [SA none 10 (.slice a len cap) len (fun i => opRow (g i))] (fun v Bs => v = .bool true ∧ Bs = []) := by
  refine s_enter 181 [(0, _)] (fun F => [_, F]) Try.func4 fun F => ?_
  refine go_ ?_
  refine s_call (sp := (by repeat (first | exact Split.nil | apply Split.perx (by repeat (first | with_reducible exact Sel.here | with_reducible apply Sel.there)) (by infer_instance) | apply Split.cons (by repeat (first | with_reducible exact Sel.here | with_reducible apply Sel.there))))) (hs := shown_c) (h := ?_)
  rintro v Bs ⟨rfl, rfl⟩
  refine go_ ?_
  refine s_call (sp := (by repeat (first | exact Split.nil | apply Split.perx (by repeat (first | with_reducible exact Sel.here | with_reducible apply Sel.there)) (by infer_instance) | apply Split.cons (by repeat (first | with_reducible exact Sel.here | with_reducible apply Sel.there))))) (hs := new_c) (h := ?_)
  rintro v Bs ⟨b, rfl, rfl⟩
  refine go_ ?_
  refine s_look lk_bda ?_
  refine s_new (.cells (tab 70 (inC fun _ => false)) 39 (0, 0)) fun r5 => ?_
  refine s_stw ?_
  refine go_ ?_
  refine s_loop (fun y : Nat × Tb × (Nat → Bool) => [(0, .slice a len cap), (4, .pointer (some ⟨b, 0, none⟩)), (5, .pointer (some ⟨r5, 0, none⟩)), (6, .int .i64 y.1)])
    (fun y => [SA none 10 (.slice a len cap) len (fun i => opRow (g i)), Tbl b y.2.1, InA r5 y.2.2, F]) (fun y => y.1 ≤ 60 ∧ Fil y.2.1 y.2.2 y.1) (fun y => 60 - y.1) (0, S0, fun _ => false) ⟨by simp, Fil.start⟩ (by repeat (first | exact Ent.nil | refine Ent.per (by repeat (first | with_reducible exact Sel.here | with_reducible apply Sel.there)) ?_ | refine Ent.cons (by repeat (first | with_reducible exact Sel.here | with_reducible apply Sel.there)) ?_)) ?_
  rintro ⟨i, T, inn⟩ ⟨hi, hF⟩ next
  dsimp only at hi hF next ⊢
  refine go_ ?_
  have done : i = 60 ∨ len ≤ i → RunS Try.prog 4 181 (post (fun v Bs => v = .bool true ∧ Bs = []) F) [.code .ret] [(2, .bool true)] [SA none 10 (.slice a len cap) len (fun i => opRow (g i)), Tbl b T, InA r5 inn, F] := fun _ => by
    exact s_ret Try.func4 (fun _ => rfl) (⟨rfl, rfl⟩) (by repeat (first | exact Ent.nil | refine Ent.per (by repeat (first | with_reducible exact Sel.here | with_reducible apply Sel.there)) ?_ | refine Ent.cons (by repeat (first | with_reducible exact Sel.here | with_reducible apply Sel.there)) ?_))
  cases h1 : decide ((i : Int) < (len : Int))
  · refine go_ ?_
    exact s_keep _ (done (by simp at h1; omega))
  simp only [decide_eq_true_eq] at h1
  refine go_ ?_
  refine s_if (fun h2 => ?_) (fun h2 => ?_)
  rotate_left
  · refine go_ ?_
    exact s_keep _ (done (by omega))
  refine go_ ?_
  refine s_alloc fun r7 => ?_
  refine go_ ?_
  refine s_call (sp := (by repeat (first | exact Split.nil | apply Split.perx (by repeat (first | with_reducible exact Sel.here | with_reducible apply Sel.there)) (by infer_instance) | apply Split.cons (by repeat (first | with_reducible exact Sel.here | with_reducible apply Sel.there))))) (hs := kind_c _ _ (hk i (by omega)) (by decide)) (h := ?_)
  rintro v Bs ⟨rfl, rfl⟩
  generalize kindI (g i).kind 7 = κ
  refine go_ ?_
  apply s_join (fun _ : Tb × (Nat → Bool) => [(0, .slice a len cap), (4, .pointer (some ⟨b, 0, none⟩)), (5, .pointer (some ⟨r5, 0, none⟩)), (6, .int .i64 i), (16, .int .i64 0)])
    (fun y => [SA none 10 (.slice a len cap) len (fun i => opRow (g i)), Tbl b y.1, InA r5 y.2, F]) (fun y => Fil y.1 y.2 (i + 1))
  case h =>
    intro K
    refine s_ieq (fun hκ => ?_) (fun hκ => ?_)
    · -- Fork
      refine go_ ?_
      refine s_call (sp := (by repeat (first | exact Split.nil | apply Split.perx (by repeat (first | with_reducible exact Sel.here | with_reducible apply Sel.there)) (by infer_instance) | apply Split.cons (by repeat (first | with_reducible exact Sel.here | with_reducible apply Sel.there))))) (hs := fork_f hF _) (h := ?_)
      rintro v Bs ⟨T', ⟨r, e, rfl⟩, hF', rfl⟩
      refine go_ ?_
      refine s_ent (s_keep _ (K (T', inn) (hF'.mono (by omega)))) (by repeat (first | exact Ent.nil | refine Ent.per (by repeat (first | with_reducible exact Sel.here | with_reducible apply Sel.there)) ?_ | refine Ent.cons (by repeat (first | with_reducible exact Sel.here | with_reducible apply Sel.there)) ?_))
    refine go_ ?_
    refine s_ieq (fun hκ => ?_) (fun hκ => ?_)
    · -- Exit
      refine go_ ?_
      refine s_call (sp := (by repeat (first | exact Split.nil | apply Split.perx (by repeat (first | with_reducible exact Sel.here | with_reducible apply Sel.there)) (by infer_instance) | apply Split.cons (by repeat (first | with_reducible exact Sel.here | with_reducible apply Sel.there))))) (hs := exit_f hF _) (h := ?_)
      rintro v Bs (⟨e, rfl, he, rfl⟩ | ⟨T', a', cap', xs, inn2, rfl, hg, hx8, hF', rfl⟩)
      · refine go_ ?_
        refine s_unroll ?_
        refine go_ ?_
        exact s_ent (s_keep _ (K (T, inn) (hF.mono (by omega)))) (by repeat (first | exact Ent.nil | refine Ent.per (by repeat (first | with_reducible exact Sel.here | with_reducible apply Sel.there)) ?_ | refine Ent.cons (by repeat (first | with_reducible exact Sel.here | with_reducible apply Sel.there)) ?_))
      · obtain ⟨ks, rfl⟩ := hg.keys
        have hk8 : ks.length ≤ 8 := by simpa using hx8
        refine s_nrm (s_open (SA.cg (fun j => fV (ks.getD j 0)) fun j hj => ?_) ?_)
        · have hj' : j < ks.length := by simpa using hj
          simp [oRow, fV, List.getD_eq_getElem?_getD, hj', fileX]
        refine go_ ?_
        refine s_loop (fun y : Nat × (Nat → Bool) => [(0, .slice a len cap), (4, .pointer (some ⟨b, 0, none⟩)), (5, .pointer (some ⟨r5, 0, none⟩)), (6, .int .i64 i), (8, .slice a' (ks.map fileX).length cap'), (9, .int .i64 0), (10, .int .i64 y.1)])
          (fun y => [SA (some 41) 7 (.slice a' (ks.map fileX).length cap') (ks.map fileX).length (fun j => fV (ks.getD j 0)), SA none 10 (.slice a len cap) len (fun i => opRow (g i)), Tbl b T', InA r5 y.2, F])
          (fun y => y.1 ≤ ks.length ∧ Gone y.2 ((ks.drop y.1).map fileX) inn2 ∧ ∀ q, y.2 q = true → q < 60) (fun y => ks.length - y.1) (0, inn) ⟨by simp, by simpa using hg, fun q hq => by have := hF.lim q hq; omega⟩ (by repeat (first | exact Ent.nil | refine Ent.per (by repeat (first | with_reducible exact Sel.here | with_reducible apply Sel.there)) ?_ | refine Ent.cons (by repeat (first | with_reducible exact Sel.here | with_reducible apply Sel.there)) ?_)) ?_
        rintro ⟨k, inn1⟩ ⟨hk1, hg1, hlim⟩ next2
        dsimp only at hk1 hg1 hlim ⊢
        refine go_ ?_
        cases h3 : decide ((k : Int) < ((ks.map fileX).length : Int))
        · refine go_ ?_
          have h3' : ks.length ≤ k := by simpa using h3
          have : k = ks.length := by omega
          subst this
          rw [List.drop_length] at hg1
          have := hg1.done
          subst this
          exact s_ent (s_keep _ (K (T', inn1) (hF'.mono (by omega)))) (by repeat (first | exact Ent.nil | refine Ent.per (by repeat (first | with_reducible exact Sel.here | with_reducible apply Sel.there)) ?_ | refine Ent.cons (by repeat (first | with_reducible exact Sel.here | with_reducible apply Sel.there)) ?_))
        have h3' : k < ks.length := by simpa using h3
        have hq : ks.drop k = ks.getD k 0 :: ks.drop (k + 1) := by rw [List.drop_eq_getElem_cons h3']; simp [List.getD_eq_getElem?_getD, h3']
        rw [hq, List.map_cons] at hg1
        obtain ⟨hin, hg2⟩ := hg1.head
        have hq60 := hlim _ hin
        have hkm : k < (ks.map fileX).length := by simpa using h3'
        refine go_ ?_
        rw [show decide (((ks.getD k 0 : Nat) : Int) < 0) = false by simp]
        refine go_ ?_
        rw [show decide (((ks.getD k 0 : Nat) : Int) ≥ 70) = false from decide_eq_false (by omega)]
        refine go_ ?_
        refine s_look lk_ldt ?_
        rw [Nat.mul_one, show inC inn1 (ks.getD k 0) = .bool true by unfold inC; rw [hin]]
        refine go_ ?_
        refine s_stt ?_
        rw [Nat.mul_one, in_out]
        refine go_ ?_
        exact s_ent (s_keep _ (next2 (k + 1, out inn1 (ks.getD k 0)) ⟨by dsimp only; omega, hg2, fun q hq => by
          dsimp only [out] at hq
          by_cases c : q = ks.getD k 0
          · rw [if_pos c] at hq; cases hq
          · rw [if_neg c] at hq; exact hlim q hq⟩ (by dsimp only; omega))) (by repeat (first | exact Ent.nil | refine Ent.per (by repeat (first | with_reducible exact Sel.here | with_reducible apply Sel.there)) ?_ | refine Ent.cons (by repeat (first | with_reducible exact Sel.here | with_reducible apply Sel.there)) ?_))
    refine go_ ?_
    refine s_ieq (fun hκ => ?_) (fun hκ => ?_)
    · rw [hκ]
      refine go_ ?_

      refine s_call (sp := (by repeat (first | exact Split.nil | apply Split.perx (by repeat (first | with_reducible exact Sel.here | with_reducible apply Sel.there)) (by infer_instance) | apply Split.cons (by repeat (first | with_reducible exact Sel.here | with_reducible apply Sel.there))))) (hs := open_f hF _) (h := ?_)
      rintro v Bs ⟨T', ⟨r, e, rfl, hF'⟩, rfl⟩
      refine go_ ?_
      refine s_stt ?_
      rw [Nat.mul_one, in_put]
      refine go_ ?_
      exact s_entF (by repeat (first | exact Ent.nil | refine Ent.per (by repeat (first | with_reducible exact Sel.here | with_reducible apply Sel.there)) ?_ | refine Ent.cons (by repeat (first | with_reducible exact Sel.here | with_reducible apply Sel.there)) ?_)) (s_keep _ (K (T', _) (by exact hF')))
    refine go_ ?_
    refine s_ieq (fun hκ => ?_) (fun hκ => ?_)
    · rw [hκ]
      refine go_ ?_
      refine s_call (sp := (by repeat (first | exact Split.nil | apply Split.perx (by repeat (first | with_reducible exact Sel.here | with_reducible apply Sel.there)) (by infer_instance) | apply Split.cons (by repeat (first | with_reducible exact Sel.here | with_reducible apply Sel.there))))) (hs := open_f hF _) (h := ?_)
      rintro v Bs ⟨T', ⟨r, e, rfl, hF'⟩, rfl⟩
      refine go_ ?_
      refine s_stt ?_
      rw [Nat.mul_one, in_put]
      refine go_ ?_
      exact s_entF (by repeat (first | exact Ent.nil | refine Ent.per (by repeat (first | with_reducible exact Sel.here | with_reducible apply Sel.there)) ?_ | refine Ent.cons (by repeat (first | with_reducible exact Sel.here | with_reducible apply Sel.there)) ?_)) (s_keep _ (K (T', _) (by exact hF')))
    refine go_ ?_
    apply s_join (fun _ : Unit => [(0, .slice a len cap), (4, .pointer (some ⟨b, 0, none⟩)), (5, .pointer (some ⟨r5, 0, none⟩)), (6, .int .i64 i), (119, .pointer (some ⟨b, 0, none⟩)), (121, .int .i64 (g i).pid), (123, .int .i64 (g i).n)])
      (fun _ => [SA none 10 (.slice a len cap) len (fun i => opRow (g i)), Tbl b T, InA r5 inn, F]) (fun _ => True)
    case h =>
      intro K2
      refine s_ieq (fun hκ => ?_) (fun hκ => ?_)
      · rw [hκ]
        refine go_ ?_
        exact s_entF (by repeat (first | exact Ent.nil | refine Ent.per (by repeat (first | with_reducible exact Sel.here | with_reducible apply Sel.there)) ?_ | refine Ent.cons (by repeat (first | with_reducible exact Sel.here | with_reducible apply Sel.there)) ?_)) (s_keep _ (K2 () trivial))
      refine go_ ?_
      refine s_ieq (fun hκ => ?_) (fun hκ => ?_)
      · rw [hκ]
        refine go_ ?_
        exact s_entF (by repeat (first | exact Ent.nil | refine Ent.per (by repeat (first | with_reducible exact Sel.here | with_reducible apply Sel.there)) ?_ | refine Ent.cons (by repeat (first | with_reducible exact Sel.here | with_reducible apply Sel.there)) ?_)) (s_keep _ (K2 () trivial))
      refine go_ ?_
      refine s_ieq (fun hκ => ?_) (fun hκ => ?_)
      · refine go_ ?_
        refine s_call (sp := (by repeat (first | exact Split.nil | apply Split.perx (by repeat (first | with_reducible exact Sel.here | with_reducible apply Sel.there)) (by infer_instance) | apply Split.cons (by repeat (first | with_reducible exact Sel.here | with_reducible apply Sel.there))))) (hs := dup_f hF _ _) (h := ?_)
        rintro v Bs ⟨T', ⟨⟨r, e, rfl⟩, hF'⟩, rfl⟩
        refine go_ ?_
        exact s_entF (by repeat (first | exact Ent.nil | refine Ent.per (by repeat (first | with_reducible exact Sel.here | with_reducible apply Sel.there)) ?_ | refine Ent.cons (by repeat (first | with_reducible exact Sel.here | with_reducible apply Sel.there)) ?_)) (s_keep _ (K (T', _) (hF'.mono (by omega))))
      · refine go_ ?_
        exact s_entF (by repeat (first | exact Ent.nil | refine Ent.per (by repeat (first | with_reducible exact Sel.here | with_reducible apply Sel.there)) ?_ | refine Ent.cons (by repeat (first | with_reducible exact Sel.here | with_reducible apply Sel.there)) ?_)) (s_keep _ (K (T, _) (hF.mono (by omega))))
    case K =>
      rintro ⟨⟩ _
      refine s_call (sp := (by repeat (first | exact Split.nil | apply Split.perx (by repeat (first | with_reducible exact Sel.here | with_reducible apply Sel.there)) (by infer_instance) | apply Split.cons (by repeat (first | with_reducible exact Sel.here | with_reducible apply Sel.there))))) (hs := close_f hF _ _) (h := ?_)
      rintro v Bs ⟨T', (⟨e, rfl, he, hF'⟩ | ⟨k, last, rfl, hk2, hF'⟩), rfl⟩
      · refine go_ ?_
        refine s_alloc fun r13 => ?_
        refine go_ ?_
        rw [show (e == 0) = false by simpa using he]
        refine go_ ?_
        rw [show (e == 0) = false by simpa using he]
        refine go_ ?_
        exact s_entF (by repeat (first | exact Ent.nil | refine Ent.per (by repeat (first | with_reducible exact Sel.here | with_reducible apply Sel.there)) ?_ | refine Ent.cons (by repeat (first | with_reducible exact Sel.here | with_reducible apply Sel.there)) ?_)) (s_keep _ (K (T', _) (hF'.mono (by omega))))
      · have hk60 := hF.lim k hk2
        refine go_ ?_
        refine s_alloc fun r13 => ?_
        refine go_ ?_
        rw [show decide (((k : Nat) : Int) < 0) = false by simp]
        refine go_ ?_
        rw [show decide (((k : Nat) : Int) ≥ 70) = false from decide_eq_false (by omega)]
        refine go_ ?_
        refine s_look lk_ldt ?_
        rw [Nat.mul_one, show inC inn k = .bool true by unfold inC; rw [hk2]]
        refine go_ ?_
        refine s_cond last (fun hl => ?_) (fun hl => ?_)
        · subst hl
          refine go_ ?_
          refine s_stt ?_
          rw [Nat.mul_one, in_out]
          refine go_ ?_
          exact s_entF (by repeat (first | exact Ent.nil | refine Ent.per (by repeat (first | with_reducible exact Sel.here | with_reducible apply Sel.there)) ?_ | refine Ent.cons (by repeat (first | with_reducible exact Sel.here | with_reducible apply Sel.there)) ?_)) (s_keep _ (K (T', out inn k) (Fil.mono (by simpa using hF') (by omega))))
        · subst hl
          refine go_ ?_
          exact s_entF (by repeat (first | exact Ent.nil | refine Ent.per (by repeat (first | with_reducible exact Sel.here | with_reducible apply Sel.there)) ?_ | refine Ent.cons (by repeat (first | with_reducible exact Sel.here | with_reducible apply Sel.there)) ?_)) (s_keep _ (K (T', inn) (Fil.mono (by simpa using hF') (by omega))))
  case K =>
    rintro ⟨T, inn⟩ hF
    dsimp only at hF ⊢
    refine s_loop (fun k : Nat => [(0, .slice a len cap), (4, .pointer (some ⟨b, 0, none⟩)), (5, .pointer (some ⟨r5, 0, none⟩)), (6, .int .i64 i), (16, .int .i64 k)])
      (fun _ => [SA none 10 (.slice a len cap) len (fun i => opRow (g i)), Tbl b T, InA r5 inn, F]) (fun k => k ≤ 60) (fun k => 60 - k) 0 (by omega) (by repeat (first | exact Ent.nil | refine Ent.per (by repeat (first | with_reducible exact Sel.here | with_reducible apply Sel.there)) ?_ | refine Ent.cons (by repeat (first | with_reducible exact Sel.here | with_reducible apply Sel.there)) ?_)) ?_
    intro k hk60 next2
    refine go_ ?_
    refine s_if (fun h3 => ?_) (fun h3 => ?_)
    · refine go_ ?_
      refine s_call (sp := (by repeat (first | exact Split.nil | apply Split.perx (by repeat (first | with_reducible exact Sel.here | with_reducible apply Sel.there)) (by infer_instance) | apply Split.cons (by repeat (first | with_reducible exact Sel.here | with_reducible apply Sel.there))))) (hs := holds_c (fileX k)) (h := ?_)
      rintro v Bs ⟨rfl, rfl⟩
      rw [hF.holds]
      cases hin : inn k
      · rw [if_neg (by simp)]
        refine go_ ?_
        refine s_look lk_ldt ?_
        rw [Nat.mul_one, show inC inn k = .bool false by unfold inC; rw [hin]]
        refine go_ ?_
        exact s_entF (by repeat (first | exact Ent.nil | refine Ent.per (by repeat (first | with_reducible exact Sel.here | with_reducible apply Sel.there)) ?_ | refine Ent.cons (by repeat (first | with_reducible exact Sel.here | with_reducible apply Sel.there)) ?_)) (s_keep _ (next2 (k + 1) (by omega) (by omega)))
      · rw [if_pos rfl]
        refine go_ ?_
        refine s_look lk_ldt ?_
        rw [Nat.mul_one, show inC inn k = .bool true by unfold inC; rw [hin]]
        refine go_ ?_
        exact s_entF (by repeat (first | exact Ent.nil | refine Ent.per (by repeat (first | with_reducible exact Sel.here | with_reducible apply Sel.there)) ?_ | refine Ent.cons (by repeat (first | with_reducible exact Sel.here | with_reducible apply Sel.there)) ?_)) (s_keep _ (next2 (k + 1) (by omega) (by omega)))
    · refine go_ ?_
      exact s_entF (by repeat (first | exact Ent.nil | refine Ent.per (by repeat (first | with_reducible exact Sel.here | with_reducible apply Sel.there)) ?_ | refine Ent.cons (by repeat (first | with_reducible exact Sel.here | with_reducible apply Sel.there)) ?_)) (s_keep _ (next (i + 1, T, inn) ⟨by dsimp only; omega, hF⟩ (by dsimp only; omega)))
end Go.Proofs.Ytimaipclgmcekaa
