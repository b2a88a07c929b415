/- The reference's calls, told by the program's table: Room, Holds. -/
import Derived.Test.YtimaipclgmcekaaProcAB
namespace Go.Proofs.Ytimaipclgmcekaa
open Go.Cam
set_option maxRecDepth 100000
def fdsF (g : Nat → Int) : Nat → Nat → Nat → Nat
  | 0, _, n => n
  | d + 1, f, n => fdsF g d (f + 1) (if g f = 0 then n + 1 else n)
def opsF (T : Tb) : Nat → Nat → Nat → Nat
  | 0, _, n => n
  | d + 1, i, n => opsF T d (i + 1) (if T.us i > 0 then n else n + 1)
def roomF (T : Tb) (pid : Int) : Nat := if T.runs pid = true then fdsF (T.fd pid.toNat) 8 0 0 else 0
set_option maxHeartbeats 1000000 in
theorem r_room {y : Nat} {T : Tb} (pid : Int) : Ctr Try.prog 37 [.pointer (some ⟨y,0,none⟩), .int .i64 pid] [Ref y T]
    (fun v Bs => v = .tuple #[.int .i64 (roomF T pid : Nat), .int .i64 (opsF T 16 0 0 : Nat)] ∧ Bs = [Ref y T]) := by
  refine s_enter 48 [(0, _), (1, _)] (fun F => [_, F]) Try.func37 fun F => ?_
  refine go_ ?_
  refine s_call (sp := (by repeat (first | exact Split.nil | apply Split.perx (by repeat (first | with_reducible exact Sel.here | with_reducible apply Sel.there)) (by infer_instance) | apply Split.cons (by repeat (first | with_reducible exact Sel.here | with_reducible apply Sel.there))))) (hs := r_runs pid) (h := ?_)
  rintro v Bs ⟨rfl, rfl⟩
  refine go_ ?_
  apply s_join (fun q : Nat => [(0, .pointer (some ⟨y, 0, none⟩)), (6, .int .i64 (q : Nat)), (9, .int .i64 0), (10, .int .i64 0)]) (fun _ => [Ref y T, F]) (fun q => q = roomF T pid)
  case h =>
    intro K
    cases hr : T.runs pid
    · refine s_unroll ?_
      refine go_ ?_
      exact s_entF (by repeat (first | exact Ent.nil | refine Ent.per (by repeat (first | with_reducible exact Sel.here | with_reducible apply Sel.there)) ?_ | refine Ent.cons (by repeat (first | with_reducible exact Sel.here | with_reducible apply Sel.there)) ?_)) (s_keep _ (K 0 (by unfold roomF; rw [hr]; rfl)))
    have hp := runs_bd hr
    obtain ⟨p, rfl⟩ : ∃ p : Nat, pid = p := ⟨pid.toNat, by omega⟩
    have e0 : roomF T p = fdsF (T.fd p) 8 0 0 := by unfold roomF; rw [hr, if_pos rfl]; rfl
    refine s_loop (fun x : Nat × Nat => [(0, .pointer (some ⟨y, 0, none⟩)), (1, .int .i64 p), (6, .int .i64 (x.2 : Nat)), (7, .bool true), (8, .int .i64 (x.1 : Nat))]) (fun _ => [Ref y T, F])
      (fun x => x.1 ≤ 8 ∧ x.2 ≤ x.1 ∧ fdsF (T.fd p) (8 - x.1) x.1 x.2 = fdsF (T.fd p) 8 0 0) (fun x => 8 - x.1) (0, 0) ⟨by simp, by simp, rfl⟩ (by repeat (first | exact Ent.nil | refine Ent.per (by repeat (first | with_reducible exact Sel.here | with_reducible apply Sel.there)) ?_ | refine Ent.cons (by repeat (first | with_reducible exact Sel.here | with_reducible apply Sel.there)) ?_)) ?_
    rintro ⟨f, c⟩ ⟨hf, hc, he⟩ next
    dsimp only at hf hc he next ⊢
    refine go_ ?_
    cases h1 : decide ((f : Int) < 8)
    · have h1' : 8 ≤ f := by simp at h1; omega
      have e8 : 8 - f = 0 := by omega
      rw [e8, fdsF] at he
      refine go_ ?_
      exact s_entF (by repeat (first | exact Ent.nil | refine Ent.per (by repeat (first | with_reducible exact Sel.here | with_reducible apply Sel.there)) ?_ | refine Ent.cons (by repeat (first | with_reducible exact Sel.here | with_reducible apply Sel.there)) ?_)) (s_keep _ (K c (by rw [e0]; exact he)))
    have h1' : f < 8 := by simp at h1; omega
    obtain ⟨d, hd⟩ : ∃ d, 8 - f = d + 1 := ⟨7 - f, by omega⟩
    have e8 : 8 - (f + 1) = d := by omega
    rw [hd, fdsF] at he
    refine go_ ?_
    refine s_look (lk_ldv (hv := RT.fd T p f (by omega) (by omega) (by omega))) ?_
    refine go_ ?_
    refine s_ieq (fun h3 => ?_) (fun h3 => ?_)
    · rw [if_pos h3] at he
      refine go_ ?_
      exact s_entF (by repeat (first | exact Ent.nil | refine Ent.per (by repeat (first | with_reducible exact Sel.here | with_reducible apply Sel.there)) ?_ | refine Ent.cons (by repeat (first | with_reducible exact Sel.here | with_reducible apply Sel.there)) ?_)) (s_keep _ (next (f + 1, c + 1) ⟨by dsimp only; omega, by dsimp only; omega, by dsimp only; rw [e8]; exact he⟩ (by dsimp only; omega)))
    · rw [if_neg h3] at he
      refine go_ ?_
      exact s_entF (by repeat (first | exact Ent.nil | refine Ent.per (by repeat (first | with_reducible exact Sel.here | with_reducible apply Sel.there)) ?_ | refine Ent.cons (by repeat (first | with_reducible exact Sel.here | with_reducible apply Sel.there)) ?_)) (s_keep _ (next (f + 1, c) ⟨by dsimp only; omega, by dsimp only; omega, by dsimp only; rw [e8]; exact he⟩ (by dsimp only; omega)))
  case K =>
    rintro q rfl
    refine s_loop (fun x : Nat × Nat => [(0, .pointer (some ⟨y, 0, none⟩)), (6, .int .i64 (roomF T pid : Nat)), (9, .int .i64 (x.2 : Nat)), (10, .int .i64 (x.1 : Nat))]) (fun _ => [Ref y T, F])
      (fun x => x.1 ≤ 16 ∧ x.2 ≤ x.1 ∧ opsF T (16 - x.1) x.1 x.2 = opsF T 16 0 0) (fun x => 16 - x.1) (0, 0) ⟨by simp, by simp, rfl⟩ (by repeat (first | exact Ent.nil | refine Ent.per (by repeat (first | with_reducible exact Sel.here | with_reducible apply Sel.there)) ?_ | refine Ent.cons (by repeat (first | with_reducible exact Sel.here | with_reducible apply Sel.there)) ?_)) ?_
    rintro ⟨i, c⟩ ⟨hi, hc, he⟩ next
    dsimp only at hi hc he next ⊢
    refine go_ ?_
    refine s_if (fun h1 => ?_) (fun h1 => ?_)
    · obtain ⟨d, hd⟩ : ∃ d, 16 - i = d + 1 := ⟨15 - i, by omega⟩
      have e8 : 16 - (i + 1) = d := by omega
      rw [hd, opsF] at he
      refine go_ ?_
      refine s_look (lk_ldv (hv := RT.is T i (by omega))) ?_
      refine go_ ?_
      cases h2 : decide (T.us i > 0)
      · have h2' : ¬ T.us i > 0 := by simpa using h2
        rw [if_neg h2'] at he
        refine go_ ?_
        exact s_entF (by repeat (first | exact Ent.nil | refine Ent.per (by repeat (first | with_reducible exact Sel.here | with_reducible apply Sel.there)) ?_ | refine Ent.cons (by repeat (first | with_reducible exact Sel.here | with_reducible apply Sel.there)) ?_)) (s_keep _ (next (i + 1, c + 1) ⟨by dsimp only; omega, by dsimp only; omega, by dsimp only; rw [e8]; exact he⟩ (by dsimp only; omega)))
      · have h2' : T.us i > 0 := by simpa using h2
        rw [if_pos h2'] at he
        refine go_ ?_
        exact s_entF (by repeat (first | exact Ent.nil | refine Ent.per (by repeat (first | with_reducible exact Sel.here | with_reducible apply Sel.there)) ?_ | refine Ent.cons (by repeat (first | with_reducible exact Sel.here | with_reducible apply Sel.there)) ?_)) (s_keep _ (next (i + 1, c) ⟨by dsimp only; omega, by dsimp only; omega, by dsimp only; rw [e8]; exact he⟩ (by dsimp only; omega)))
    · have e0 : 16 - i = 0 := by omega
      rw [e0, opsF] at he
      subst he
      refine go_ ?_
      exact s_rett (rs := [.tmp 4, .tmp 5]) (vs := [_, _]) Try.func37 rfl (by intro j; refine RVS.tmp _ rfl ?_; refine RVS.tmp _ rfl ?_; exact RVS.nil) rfl (⟨rfl, rfl⟩) (by repeat (first | exact Ent.nil | refine Ent.per (by repeat (first | with_reducible exact Sel.here | with_reducible apply Sel.there)) ?_ | refine Ent.cons (by repeat (first | with_reducible exact Sel.here | with_reducible apply Sel.there)) ?_))
abbrev oL (x : Opn) : List Value := [.int .i64 x.kind, .string x.label, .int .i64 x.ino, .int .i64 x.off, .int .i64 x.flags, .int .i64 x.pipe, .bool x.writer]
set_option maxHeartbeats 2000000 in
theorem r_holds {y : Nat} {T : Tb} (x : Opn) : Ctr Try.prog 28 [.pointer (some ⟨y,0,none⟩), .agg x.vals] [Ref y T] (fun v Bs => v = .int .i64 (T.holds x 16 0 0) ∧ Bs = [Ref y T]) := by
  refine s_enter 62 [(0, _), (1, _)] (fun F => [_, F]) Try.func28 fun F => ?_
  refine s_seq (s_region ?_)
  refine s_box (c := oL x) (fun r3 => ?_) (hc := ⟨rfl, rfl⟩)
  refine go_ ?_
  refine s_loop (fun z : Nat × Nat => [(0, .pointer (some ⟨y, 0, none⟩)), (3, .pointer (some ⟨r3, 0, none⟩)), (5, .int .i64 (z.2 : Nat)), (6, .int .i64 (z.1 : Nat))]) (fun _ => [Ref y T, Box r3 41 (oL x), F])
    (fun z => z.1 ≤ 16 ∧ z.2 ≤ z.1 ∧ T.holds x (16 - z.1) z.1 z.2 = T.holds x 16 0 0) (fun z => 16 - z.1) (0, 0) ⟨by simp, by simp, rfl⟩ (by repeat (first | exact Ent.nil | refine Ent.per (by repeat (first | with_reducible exact Sel.here | with_reducible apply Sel.there)) ?_ | refine Ent.cons (by repeat (first | with_reducible exact Sel.here | with_reducible apply Sel.there)) ?_)) ?_
  rintro ⟨i, c⟩ ⟨hi, hc, he⟩ next
  dsimp only at hi hc he next ⊢
  refine go_ ?_
  refine s_if (fun h1 => ?_) (fun h1 => ?_)
  rotate_left
  · have e0 : 16 - i = 0 := by omega
    rw [e0, Tb.holds] at he
    subst he
    refine go_ ?_
    exact s_ret1 (rs := [.tmp 4]) Try.func28 rfl (by intro j; refine RVS.tmp _ rfl ?_; exact RVS.nil) (⟨rfl, rfl⟩) (by repeat (first | exact Ent.nil | refine Ent.per (by repeat (first | with_reducible exact Sel.here | with_reducible apply Sel.there)) ?_ | refine Ent.cons (by repeat (first | with_reducible exact Sel.here | with_reducible apply Sel.there)) ?_))
  obtain ⟨d, hd⟩ : ∃ d, 16 - i = d + 1 := ⟨15 - i, by omega⟩
  have e8 : 16 - (i + 1) = d := by omega
  rw [hd, Tb.holds] at he
  have yes : T.hold x i = true → T.holds x (16 - (i + 1)) (i + 1) (c + 1) = T.holds x 16 0 0 := fun h => by rw [e8, ← he, if_pos h]
  have no : T.hold x i = false → T.holds x (16 - (i + 1)) (i + 1) c = T.holds x 16 0 0 := fun h => by rw [e8, ← he, if_neg (by simp [h])]
  clear he
  generalize hz : T.op i = z at *
  refine go_ ?_
  refine s_look (lk_ldtN (hv := (ext_op T (n := i) (by omega) (by omega)))) ?_
  rw [hz]
  refine s_alloc fun r7 => ?_
  refine s_stw ?_
  refine s_open (B := Box r7 41 (oL z)) (fun _ _ h => h) ?_
  refine go_ ?_
  refine s_look (lk_ldv (hv := RT.is T i (by omega))) ?_
  refine go_ ?_
  have hold : T.hold x i = (decide (T.us i > 0) && decide (z.kind = x.kind ∧ z.label.toList = x.label.toList ∧ z.ino = x.ino ∧ z.pipe = x.pipe ∧ z.writer = x.writer)) := by
    unfold Tb.hold Opn.same; rw [hz]; simp
  cases h2 : decide (T.us i > 0)
  · refine go_ ?_
    exact s_entF (by repeat (first | exact Ent.nil | refine Ent.per (by repeat (first | with_reducible exact Sel.here | with_reducible apply Sel.there)) ?_ | refine Ent.cons (by repeat (first | with_reducible exact Sel.here | with_reducible apply Sel.there)) ?_)) (s_keep _ (next (i + 1, c) ⟨by dsimp only; omega, by dsimp only; omega, no (by rw [hold, h2, Bool.false_and])⟩ (by dsimp only; omega)))
  rw [h2, Bool.true_and] at hold
  refine go_ ?_
  cases h3 : (z.kind == x.kind)
  · refine go_ ?_
    exact s_entF (by repeat (first | exact Ent.nil | refine Ent.per (by repeat (first | with_reducible exact Sel.here | with_reducible apply Sel.there)) ?_ | refine Ent.cons (by repeat (first | with_reducible exact Sel.here | with_reducible apply Sel.there)) ?_)) (s_keep _ (next (i + 1, c) ⟨by dsimp only; omega, by dsimp only; omega, no (by rw [hold]; simp at h3; simp [h3])⟩ (by dsimp only; omega)))
  simp only [beq_iff_eq] at h3
  refine go_ ?_
  cases h4 : (z.label.toList == x.label.toList)
  · refine go_ ?_
    exact s_entF (by repeat (first | exact Ent.nil | refine Ent.per (by repeat (first | with_reducible exact Sel.here | with_reducible apply Sel.there)) ?_ | refine Ent.cons (by repeat (first | with_reducible exact Sel.here | with_reducible apply Sel.there)) ?_)) (s_keep _ (next (i + 1, c) ⟨by dsimp only; omega, by dsimp only; omega, no (by rw [hold]; simp at h4; simp [h4])⟩ (by dsimp only; omega)))
  simp only [beq_iff_eq] at h4
  refine go_ ?_
  cases h5 : (z.ino == x.ino)
  · refine go_ ?_
    exact s_entF (by repeat (first | exact Ent.nil | refine Ent.per (by repeat (first | with_reducible exact Sel.here | with_reducible apply Sel.there)) ?_ | refine Ent.cons (by repeat (first | with_reducible exact Sel.here | with_reducible apply Sel.there)) ?_)) (s_keep _ (next (i + 1, c) ⟨by dsimp only; omega, by dsimp only; omega, no (by rw [hold]; simp at h5; simp [h5])⟩ (by dsimp only; omega)))
  simp only [beq_iff_eq] at h5
  refine go_ ?_
  cases h6 : (z.pipe == x.pipe)
  · refine go_ ?_
    exact s_entF (by repeat (first | exact Ent.nil | refine Ent.per (by repeat (first | with_reducible exact Sel.here | with_reducible apply Sel.there)) ?_ | refine Ent.cons (by repeat (first | with_reducible exact Sel.here | with_reducible apply Sel.there)) ?_)) (s_keep _ (next (i + 1, c) ⟨by dsimp only; omega, by dsimp only; omega, no (by rw [hold]; simp at h6; simp [h6])⟩ (by dsimp only; omega)))
  simp only [beq_iff_eq] at h6
  refine go_ ?_
  cases h7 : (z.writer == x.writer)
  · refine go_ ?_
    exact s_entF (by repeat (first | exact Ent.nil | refine Ent.per (by repeat (first | with_reducible exact Sel.here | with_reducible apply Sel.there)) ?_ | refine Ent.cons (by repeat (first | with_reducible exact Sel.here | with_reducible apply Sel.there)) ?_)) (s_keep _ (next (i + 1, c) ⟨by dsimp only; omega, by dsimp only; omega, no (by rw [hold]; simp at h7; simp [h7])⟩ (by dsimp only; omega)))
  simp only [beq_iff_eq] at h7
  refine go_ ?_
  exact s_entF (by repeat (first | exact Ent.nil | refine Ent.per (by repeat (first | with_reducible exact Sel.here | with_reducible apply Sel.there)) ?_ | refine Ent.cons (by repeat (first | with_reducible exact Sel.here | with_reducible apply Sel.there)) ?_)) (s_keep _ (next (i + 1, c + 1) ⟨by dsimp only; omega, by dsimp only; omega, yes (by rw [hold]; simp [h3, h4, h5, h6, h7])⟩ (by dsimp only; omega)))
end Go.Proofs.Ytimaipclgmcekaa

/- The program's Room. -/
namespace Go.Proofs.Ytimaipclgmcekaa
open Go.Cam
set_option maxRecDepth 100000
theorem at_c {b : Nat} {T : Tb} (pid : Int) : Ctr Try.prog 24 [.pointer (some ⟨b,0,none⟩), .int .i64 pid] [Tbl b T] (fun v Bs => v = .tuple #[.pointer (if T.runs pid = true then some ⟨b, pid.toNat * 11, none⟩ else none), .int .i64 (if T.runs pid = true then 0 else 25)] ∧ Bs = [Tbl b T]) :=
  Ctr.same fun H M hT => by
    cases hr : T.runs pid
    · exact (at_no hT pid hr).mono fun v H' M' ⟨a, h, m⟩ => ⟨a, h, by rw [m]; exact Ch.refl _ _⟩
    · exact (at_yes hT pid hr).mono fun v H' M' ⟨a, h, m⟩ => ⟨a, h, by rw [m]; exact Ch.refl _ _⟩
theorem ext_fdsP (T : Tb) {o p : Nat} (h : o = p * 11 + 3) (hp : p < 9) : (tab 227 T.cell).extract o (o + 8) = tab 8 fun f => .int .i64 (T.fd p f) := by
  subst h
  rw [extract_tab (by omega), tab_ext (g := fun i => .int .i64 (T.fd p i)) fun i hi => T.cell_fd p i rfl hp hi]
set_option maxHeartbeats 2000000 in
theorem p_room {b : Nat} {T : Tb} (I : Inv T) (pid : Int) : Ctr Try.prog 36 [.pointer (some ⟨b,0,none⟩), .int .i64 pid] [Tbl b T]
    (fun v Bs => v = .tuple #[.int .i64 (roomF T pid : Nat), .int .i64 (opsF T 16 0 0 : Nat)] ∧ Bs = [Tbl b T]) := by
  refine s_enter 47 [(0, _), (1, _)] (fun F => [_, F]) Try.func36 fun F => ?_
  refine go_ ?_
  refine s_call (sp := (by repeat (first | exact Split.nil | apply Split.perx (by repeat (first | with_reducible exact Sel.here | with_reducible apply Sel.there)) (by infer_instance) | apply Split.cons (by repeat (first | with_reducible exact Sel.here | with_reducible apply Sel.there))))) (hs := at_c pid) (h := ?_)
  rintro v Bs ⟨rfl, rfl⟩
  refine go_ ?_
  apply s_join (fun q : Nat => [(0, .pointer (some ⟨b, 0, none⟩)), (4, .int .i64 (q : Nat)), (5, .int .i64 0), (36, .int .i64 0), (35, .agg (tab 128 (fun k => T.cell (99 + k))))]) (fun _ => [.own b (.cells (tab 227 T.cell) 66 (0, 0)), F]) (fun q => q = roomF T pid)
  case h =>
    intro K
    cases hr : T.runs pid
    · refine go_ ?_
      refine s_open (B := .own b (.cells (tab 227 T.cell) 66 (0, 0))) (fun _ _ h => h) ?_
      refine s_look (lk_ldtN (hv := ext_files T)) ?_
      refine go_ ?_
      exact s_entF (by repeat (first | exact Ent.nil | refine Ent.per (by repeat (first | with_reducible exact Sel.here | with_reducible apply Sel.there)) ?_ | refine Ent.cons (by repeat (first | with_reducible exact Sel.here | with_reducible apply Sel.there)) ?_)) (s_keep _ (K 0 (by unfold roomF; rw [hr]; rfl)))
    have hp := runs_bd hr
    obtain ⟨p, rfl⟩ : ∃ p : Nat, pid = p := ⟨pid.toNat, by omega⟩
    have e0 : roomF T p = fdsF (T.fd p) 8 0 0 := by unfold roomF; rw [hr, if_pos rfl]; rfl
    rw [Int.toNat_natCast, if_pos rfl, if_pos rfl]
    refine s_open (B := .own b (.cells (tab 227 T.cell) 66 (0, 0))) (fun _ _ h => h) ?_
    refine go_ ?_
    refine s_look (lk_ldtN (hv := ext_fdsP T (p := p) (by omega) (by omega))) ?_
    refine go_ ?_
    refine s_loop (fun x : Nat × Nat => [(0, .pointer (some ⟨b, 0, none⟩)), (4, .int .i64 (x.2 : Nat)), (5, .int .i64 0), (23, .agg (tab 8 fun f => .int .i64 (T.fd p f))), (24, .int .i64 (x.1 : Nat))]) (fun _ => [.own b (.cells (tab 227 T.cell) 66 (0, 0)), F])
      (fun x => x.1 ≤ 8 ∧ x.2 ≤ x.1 ∧ fdsF (T.fd p) (8 - x.1) x.1 x.2 = fdsF (T.fd p) 8 0 0) (fun x => 8 - x.1) (0, 0) ⟨by simp, by simp, rfl⟩ (by repeat (first | exact Ent.nil | refine Ent.per (by repeat (first | with_reducible exact Sel.here | with_reducible apply Sel.there)) ?_ | refine Ent.cons (by repeat (first | with_reducible exact Sel.here | with_reducible apply Sel.there)) ?_)) ?_
    rintro ⟨f, c⟩ ⟨hf, hc, he⟩ next
    dsimp only at hf hc he next ⊢
    refine go_ ?_
    cases h1 : decide ((f : Int) < 8)
    · have h1' : 8 ≤ f := by simp at h1; omega
      have e8 : 8 - f = 0 := by omega
      rw [e8, fdsF] at he
      refine go_ ?_
      refine s_look (lk_ldtN (hv := ext_files T)) ?_
      refine go_ ?_
      exact s_entF (by repeat (first | exact Ent.nil | refine Ent.per (by repeat (first | with_reducible exact Sel.here | with_reducible apply Sel.there)) ?_ | refine Ent.cons (by repeat (first | with_reducible exact Sel.here | with_reducible apply Sel.there)) ?_)) (s_keep _ (K c (by rw [e0]; exact he)))
    have h1' : f < 8 := by simp at h1; omega
    obtain ⟨d, hd⟩ : ∃ d, 8 - f = d + 1 := ⟨7 - f, by omega⟩
    have e8 : 8 - (f + 1) = d := by omega
    rw [hd, fdsF] at he
    refine go_ ?_
    refine s_look (lk_ixa (i := f) (m := 8) (hv := tab_get h1')) ?_
    refine go_ ?_
    refine s_ieq (fun h3 => ?_) (fun h3 => ?_)
    · rw [if_pos h3] at he
      refine go_ ?_
      exact s_entF (by repeat (first | exact Ent.nil | refine Ent.per (by repeat (first | with_reducible exact Sel.here | with_reducible apply Sel.there)) ?_ | refine Ent.cons (by repeat (first | with_reducible exact Sel.here | with_reducible apply Sel.there)) ?_)) (s_keep _ (next (f + 1, c + 1) ⟨by dsimp only; omega, by dsimp only; omega, by dsimp only; rw [e8]; exact he⟩ (by dsimp only; omega)))
    · rw [if_neg h3] at he
      refine go_ ?_
      exact s_entF (by repeat (first | exact Ent.nil | refine Ent.per (by repeat (first | with_reducible exact Sel.here | with_reducible apply Sel.there)) ?_ | refine Ent.cons (by repeat (first | with_reducible exact Sel.here | with_reducible apply Sel.there)) ?_)) (s_keep _ (next (f + 1, c) ⟨by dsimp only; omega, by dsimp only; omega, by dsimp only; rw [e8]; exact he⟩ (by dsimp only; omega)))
  case K =>
    rintro q rfl
    refine s_loop (fun x : Nat × Nat => [(4, .int .i64 (roomF T pid : Nat)), (5, .int .i64 (x.2 : Nat)), (36, .int .i64 (x.1 : Nat)), (35, .agg (tab 128 (fun k => T.cell (99 + k))))]) (fun _ => [.own b (.cells (tab 227 T.cell) 66 (0, 0)), F])
      (fun x => x.1 ≤ 16 ∧ x.2 ≤ x.1 ∧ opsF T (16 - x.1) x.1 x.2 = opsF T 16 0 0) (fun x => 16 - x.1) (0, 0) ⟨by simp, by simp, rfl⟩ (by repeat (first | exact Ent.nil | refine Ent.per (by repeat (first | with_reducible exact Sel.here | with_reducible apply Sel.there)) ?_ | refine Ent.cons (by repeat (first | with_reducible exact Sel.here | with_reducible apply Sel.there)) ?_)) ?_
    rintro ⟨i, c⟩ ⟨hi, hc, he⟩ next
    dsimp only at hi hc he next ⊢
    refine go_ ?_
    refine s_if (fun h1 => ?_) (fun h1 => ?_)
    · obtain ⟨d, hd⟩ : ∃ d, 16 - i = d + 1 := ⟨15 - i, by omega⟩
      have e8 : 16 - (i + 1) = d := by omega
      have hu := I.us0 i
      rw [hd, opsF] at he
      refine go_ ?_
      rw [ext_file T (i := i) (by omega)]
      refine s_alloc fun r11 => ?_
      refine s_stw ?_
      refine s_open (B := .own r11 (.cells ([.int .i64 (T.op i).kind, .string (T.op i).label, .int .i64 (T.op i).ino, .int .i64 (T.op i).off, .int .i64 (T.op i).flags, .int .i64 (T.op i).pipe, .bool (T.op i).writer, .int .i64 (T.us i)] : List Value).toArray 63 (0, 0))) (fun _ _ h => h) ?_
      refine go_ ?_
      refine s_ieq (fun h2 => ?_) (fun h2 => ?_)
      · rw [if_neg (by omega)] at he
        refine go_ ?_
        exact s_entF (by repeat (first | exact Ent.nil | refine Ent.per (by repeat (first | with_reducible exact Sel.here | with_reducible apply Sel.there)) ?_ | refine Ent.cons (by repeat (first | with_reducible exact Sel.here | with_reducible apply Sel.there)) ?_)) (s_keep _ (next (i + 1, c + 1) ⟨by dsimp only; omega, by dsimp only; omega, by dsimp only; rw [e8]; exact he⟩ (by dsimp only; omega)))
      · rw [if_pos (by omega)] at he
        refine go_ ?_
        exact s_entF (by repeat (first | exact Ent.nil | refine Ent.per (by repeat (first | with_reducible exact Sel.here | with_reducible apply Sel.there)) ?_ | refine Ent.cons (by repeat (first | with_reducible exact Sel.here | with_reducible apply Sel.there)) ?_)) (s_keep _ (next (i + 1, c) ⟨by dsimp only; omega, by dsimp only; omega, by dsimp only; rw [e8]; exact he⟩ (by dsimp only; omega)))
    · have e0 : 16 - i = 0 := by omega
      rw [e0, opsF] at he
      subst he
      refine go_ ?_
      refine s_open (B := Tbl b T) (fun _ _ h => h) ?_
      exact s_rett (rs := [.tmp 4, .tmp 5]) (vs := [_, _]) Try.func36 rfl (by intro j; refine RVS.tmp _ rfl ?_; refine RVS.tmp _ rfl ?_; exact RVS.nil) rfl (⟨rfl, rfl⟩) (by repeat (first | exact Ent.nil | refine Ent.per (by repeat (first | with_reducible exact Sel.here | with_reducible apply Sel.there)) ?_ | refine Ent.cons (by repeat (first | with_reducible exact Sel.here | with_reducible apply Sel.there)) ?_))
end Go.Proofs.Ytimaipclgmcekaa
