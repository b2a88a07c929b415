/- super.May, super.Write: of a superblock without subvolumes. -/
import Derived.Test.YtldonbnjefhfdaaCrsS
namespace Go.Proofs.Ytldonbnjefhfdaa
open Go.Cam
set_option maxRecDepth 100000
theorem swithin_c (x a b : Int) : Ctr Try.prog 63 [.int .i64 x, .int .i64 a, .int .i64 b] [] (fun v Bs => v = .bool (decide (a ≤ x ∧ x ≤ b)) ∧ Bs = []) := by
  refine s_enter 15 [(0, _), (1, _), (2, _)] (fun F => [F]) Try.func63 fun F => ?_
  refine go_ ?_
  cases h : decide (a ≤ x) with
  | false =>
    have := of_decide_eq_false h
    refine go_ ?_
    exact s_ret1 (rs := [.tmp 6]) Try.func63 rfl (by intro j; refine RVS.tmp _ rfl ?_; exact RVS.nil) (⟨by rw [decide_eq_false]; omega, rfl⟩) (by repeat (first | exact Ent.nil | refine Ent.per (by repeat (first | with_reducible exact Sel.here | with_reducible apply Sel.there)) ?_ | refine Ent.cons (by repeat (first | with_reducible exact Sel.here | with_reducible apply Sel.there)) ?_))
  | true =>
    have := of_decide_eq_true h
    refine go_ ?_
    exact s_ret1 (rs := [.tmp 6]) Try.func63 rfl (by intro j; refine RVS.tmp _ rfl ?_; exact RVS.nil) (⟨by congr 1; exact decide_eq_decide.2 (by omega), rfl⟩) (by repeat (first | exact Ent.nil | refine Ent.per (by repeat (first | with_reducible exact Sel.here | with_reducible apply Sel.there)) ?_ | refine Ent.cons (by repeat (first | with_reducible exact Sel.here | with_reducible apply Sel.there)) ?_))
abbrev vol0L : List Value := [.string ByteArray.empty, .bool false, .int .i64 0, .int .i64 0]
abbrev vols0L : List Value := [.string ByteArray.empty, .bool false, .int .i64 0, .int .i64 0, .string ByteArray.empty, .bool false, .int .i64 0, .int .i64 0, .string ByteArray.empty, .bool false, .int .i64 0, .int .i64 0, .string ByteArray.empty, .bool false, .int .i64 0, .int .i64 0,
  .string ByteArray.empty, .bool false, .int .i64 0, .int .i64 0, .string ByteArray.empty, .bool false, .int .i64 0, .int .i64 0, .string ByteArray.empty, .bool false, .int .i64 0, .int .i64 0, .string ByteArray.empty, .bool false, .int .i64 0, .int .i64 0]
abbrev supL (g s : Nat) : List Value := .int .i64 (g : Int) :: .int .i64 (s : Int) :: .int .i64 0 :: vols0L
theorem vols0_at : ∀ i, i < 8 → vols0L.toArray.extract (i * 4) (i * 4 + 4) = vol0L.toArray
  | 0, _ => rfl | 1, _ => rfl | 2, _ => rfl | 3, _ => rfl | 4, _ => rfl | 5, _ => rfl | 6, _ => rfl | 7, _ => rfl
instance eq79 : EQ Try.prog 44 (.agg vol0L.toArray) (.agg vol0L.toArray) true := ⟨fun op _ _ => by cases op <;> kernel_rfl, fun w => cst_run _ (by kernel_rfl : cst Try.prog (binOp .eql 44 (.agg vol0L.toArray) (.agg vol0L.toArray)) = some (.bool true)) w, fun w => cst_run _ (by kernel_rfl : cst Try.prog (binOp .neq 44 (.agg vol0L.toArray) (.agg vol0L.toArray)) = some (.bool (!true))) w⟩
def supOk (g s : Nat) : Prop := 1 ≤ g ∧ g ≤ 1099511627775 ∧ 32 ≤ s ∧ s ≤ 2048
set_option maxHeartbeats 4000000 in
theorem smay_c (g s : Nat) (h : supOk g s) : Ctr Try.prog 62 [.agg (supL g s).toArray] [] (fun v Bs => v = .bool true ∧ Bs = []) := by
  obtain ⟨h1, h2, h3, h4⟩ := h
  refine s_enter 69 [(0, _)] (fun F => [F]) Try.func62 fun F => ?_
  refine go_ ?_
  refine s_box fun r1 => ?_
  refine go_ ?_
  refine s_call (sp := (by repeat (first | exact Split.nil | apply Split.perx (by repeat (first | with_reducible exact Sel.here | with_reducible apply Sel.there)) (by infer_instance) | apply Split.cons (by repeat (first | with_reducible exact Sel.here | with_reducible apply Sel.there))))) (hs := swithin_c (g : Int) 1 1099511627775) (h := ?_)
  rintro v Bs ⟨rfl, rfl⟩
  rw [show decide (1 ≤ (g : Int) ∧ (g : Int) ≤ 1099511627775) = true from decide_eq_true (by omega)]
  refine go_ ?_
  refine s_call (sp := (by repeat (first | exact Split.nil | apply Split.perx (by repeat (first | with_reducible exact Sel.here | with_reducible apply Sel.there)) (by infer_instance) | apply Split.cons (by repeat (first | with_reducible exact Sel.here | with_reducible apply Sel.there))))) (hs := swithin_c (s : Int) 32 2048) (h := ?_)
  rintro v Bs ⟨rfl, rfl⟩
  rw [show decide (32 ≤ (s : Int) ∧ (s : Int) ≤ 2048) = true from decide_eq_true (by omega)]
  refine go_ ?_
  refine s_call (sp := (by repeat (first | exact Split.nil | apply Split.perx (by repeat (first | with_reducible exact Sel.here | with_reducible apply Sel.there)) (by infer_instance) | apply Split.cons (by repeat (first | with_reducible exact Sel.here | with_reducible apply Sel.there))))) (hs := swithin_c 0 0 ((s : Int) - 1)) (h := ?_)
  rintro v Bs ⟨rfl, rfl⟩
  rw [show decide ((0 : Int) ≤ 0 ∧ 0 ≤ (s : Int) - 1) = true from decide_eq_true (by omega)]
  refine go_ ?_
  refine s_alloc fun r4 => ?_
  refine go_ ?_
  refine s_loop (fun i : Nat => [(3, .int .i64 ((s : Int) - 1)), (4, .pointer (some ⟨r4, 0, none⟩)), (30, .agg vols0L.toArray), (31, .int .i64 i)]) (fun _ => [F]) (fun i => i ≤ 8) (fun i => 8 - i) 0 (by omega) (by repeat (first | exact Ent.nil | refine Ent.per (by repeat (first | with_reducible exact Sel.here | with_reducible apply Sel.there)) ?_ | refine Ent.cons (by repeat (first | with_reducible exact Sel.here | with_reducible apply Sel.there)) ?_)) ?_
  rintro i hi next
  refine go_ ?_
  refine s_if (fun h5 => ?_) (fun h5 => ?_)
  · refine go_ ?_
    rw [vols0_at i (by omega)]
    refine s_alloc fun r6 => ?_
    refine go_ ?_
    refine s_look lk_eqs ?_
    refine go_ ?_
    exact s_entF (by repeat (first | exact Ent.nil | refine Ent.per (by repeat (first | with_reducible exact Sel.here | with_reducible apply Sel.there)) ?_ | refine Ent.cons (by repeat (first | with_reducible exact Sel.here | with_reducible apply Sel.there)) ?_)) (s_keep _ (next (i + 1) (by omega) (by omega)))
  · refine go_ ?_
    exact s_ret1 (rs := [.tmp 2]) Try.func62 rfl (by intro j; refine RVS.tmp _ rfl ?_; exact RVS.nil) (⟨rfl, rfl⟩) (by repeat (first | exact Ent.nil | refine Ent.per (by repeat (first | with_reducible exact Sel.here | with_reducible apply Sel.there)) ?_ | refine Ent.cons (by repeat (first | with_reducible exact Sel.here | with_reducible apply Sel.there)) ?_))
end Go.Proofs.Ytldonbnjefhfdaa
/- super.Write: of a superblock without subvolumes. -/
namespace Go.Proofs.Ytldonbnjefhfdaa
open Go.Cam
set_option maxRecDepth 100000
/-- a superblock's body, k subvolumes of it -/
def supB (s k : Nat) : List Nat := putN s 2 ++ List.replicate (2 + 18 * k) 0
theorem supB_len (s k : Nat) : (supB s k).length = 4 + 18 * k := by simp [supB, putN_len]; omega
theorem supB_bys (s k : Nat) : Bys (supB s k) := (putN_lt _ _).app (Bys.zeros _)
theorem putN_zero (n : Nat) : putN 0 n = List.replicate n 0 := by
  unfold putN
  apply List.ext_getElem
  · simp
  · intro i h1 h2; simp
theorem supB_step (s k : Nat) : ((((supB s k ++ putN 0 1) ++ List.replicate 10 0) ++ putN 0 1) ++ putN 0 2) ++ putN 0 4 = supB s (k + 1) := by
  unfold supB
  simp only [putN_zero, List.append_assoc, List.replicate_append_replicate]
  congr 2
theorem supHd_ok {slot g : Nat} (h2 : g ≤ 1099511627775) (hs : slot ≤ 1) : Head.ok ⟨1, slot, 0, 0, g⟩ := by
  refine ⟨Nat.le_refl _, by show 1 ≤ 6; omega, fun i hi => ?_⟩
  match i, hi with
  | 0, _ => exact Nat.zero_le _
  | 1, _ => show slot ≤ 2047; omega
  | 2, _ => exact Nat.zero_le _
  | 3, _ => exact h2
instance zv192 : ZV Try.prog 132 (.agg (List.replicate 10 (.int .u8 0)).toArray) := ⟨by kernel_rfl⟩
set_option maxHeartbeats 8000000 in
theorem swrite_c (g s slot : Nat) (h : supOk g s) (hs : slot ≤ 1) : Ctr Try.prog 44 [.agg (supL g s).toArray, .int .i64 (slot : Int)] []
    (fun v Bs => ∃ r, v = .tuple #[.slice (some ⟨r, 0, none⟩) 256 256, .int .i64 0] ∧ Bs = [SA none 1 (.slice (some ⟨r, 0, none⟩) 256 256) 256 (byR (sealB ⟨1, slot, 0, 0, g⟩ (supB s 8)))]) := by
  have hso := h
  obtain ⟨h1, h2, h3, h4⟩ := h
  refine s_enter 61 [(0, _), (1, _)] (fun F => [F]) Try.func44 fun F => ?_
  refine go_ ?_
  refine s_box fun r2 => ?_
  refine go_ ?_
  refine s_call (sp := (by repeat (first | exact Split.nil | apply Split.perx (by repeat (first | with_reducible exact Sel.here | with_reducible apply Sel.there)) (by infer_instance) | apply Split.cons (by repeat (first | with_reducible exact Sel.here | with_reducible apply Sel.there))))) (hs := smay_c g s hso) (h := ?_)
  rintro v Bs ⟨rfl, rfl⟩
  refine go_ ?_
  refine s_call (sp := (by repeat (first | exact Split.nil | apply Split.perx (by repeat (first | with_reducible exact Sel.here | with_reducible apply Sel.there)) (by infer_instance) | apply Split.cons (by repeat (first | with_reducible exact Sel.here | with_reducible apply Sel.there))))) (hs := swithin_c (slot : Int) 0 1) (h := ?_)
  rintro v Bs ⟨rfl, rfl⟩
  rw [show decide (0 ≤ (slot : Int) ∧ (slot : Int) ≤ 1) = true from decide_eq_true (by omega)]
  refine go_ ?_
  refine s_drawN 0 [.q 0, .q 1, .q 3, .q 4, .s 2, .s 5, .q 6] ?_
  refine do_ ?_
  refine d_step rfl (st_call (sp := (by repeat (first | exact Split.nil | apply Split.perx (by repeat (first | with_reducible exact Sel.here | with_reducible apply Sel.there)) (by infer_instance) | apply Split.cons (by repeat (first | with_reducible exact Sel.here | with_reducible apply Sel.there))))) (hs := put_f0 s 2 (by omega) (by omega) (by omega))) ?_
  rintro v Bs ⟨Cs, ⟨a1, c1, rfl, rfl⟩, rfl⟩
  refine do_ ?_
  refine d_step rfl (st_call (sp := (by repeat (first | exact Split.nil | apply Split.perx (by repeat (first | with_reducible exact Sel.here | with_reducible apply Sel.there)) (by infer_instance) | apply Split.cons (by repeat (first | with_reducible exact Sel.here | with_reducible apply Sel.there))))) (hs := put_f (putN s 2) 0 2 (by omega) (by omega) (by omega) (by simp [putN_len]))) ?_
  rintro v Bs ⟨Cs, ⟨a2, c2, rfl, rfl⟩, rfl⟩
  rw [show putN s 2 ++ putN 0 2 = supB s 0 by rw [putN_zero]; rfl]
  refine do_ ?_
  refine go_ ?_
  refine s_loop (fun q : Nat × Option Addr × Nat => [(1, .int .i64 slot), (2, .pointer (some ⟨r2, 0, none⟩)), (6, .slice q.2.1 (supB s q.1).length q.2.2), (26, .agg vols0L.toArray), (27, .int .i64 q.1)]) (fun q => [BS (.slice q.2.1 (supB s q.1).length q.2.2) (supB s q.1), Box r2 47 (supL g s), F]) (fun q => q.1 ≤ 8) (fun q => 8 - q.1) (0, a2, c2) (Nat.zero_le _) (by repeat (first | exact Ent.nil | refine Ent.per (by repeat (first | with_reducible exact Sel.here | with_reducible apply Sel.there)) ?_ | refine Ent.cons (by repeat (first | with_reducible exact Sel.here | with_reducible apply Sel.there)) ?_)) ?_
  rintro ⟨k, a, c⟩ hk next
  dsimp only at hk next ⊢
  have hlen := supB_len s k
  refine go_ ?_
  refine s_if (fun h5 => ?_) (fun h5 => ?_)
  · refine go_ ?_
    rw [vols0_at k (by omega)]
    refine s_alloc fun r8 => ?_
    refine go_ ?_
    refine s_step (st_alB (m := 10) (zv := zv192)) ?_
    rintro _ _ ⟨r9, rfl, rfl⟩
    refine go_ ?_
    refine s_drawN 1 [.q 0, .q 1, .q 2, .s 3] ?_
    refine do_ ?_
    refine d_step rfl (st_cpE (b := r9) (off := 0) rfl (by repeat (first | with_reducible exact Sel.here | with_reducible apply Sel.there))) ?_
    rintro v Bs ⟨rfl, rfl⟩
    refine do_ ?_
    refine go_ ?_
    refine s_front (a := BS (.slice a (supB s k).length c) (supB s k)) (by repeat (first | with_reducible exact Sel.here | with_reducible apply Sel.there)) ?_
    refine s_front (a := BA r9 132 (List.replicate 10 0)) (by repeat (first | with_reducible exact Sel.here | with_reducible apply Sel.there)) ?_
    refine s_drawN 2 [.q 0, .q 1, .q 2, .q 3, .q 5, .s 4, .s 6, .q 7] ?_
    refine do_ ?_
    refine d_step rfl (st_call (sp := (by repeat (first | exact Split.nil | apply Split.perx (by repeat (first | with_reducible exact Sel.here | with_reducible apply Sel.there)) (by infer_instance) | apply Split.cons (by repeat (first | with_reducible exact Sel.here | with_reducible apply Sel.there))))) (hs := put_c (supB s k) 0 1 (by omega) (by omega) (by omega) (by omega))) ?_
    rintro v Bs ⟨Cs, ⟨a3, c3, rfl, rfl⟩, rfl⟩
    refine do_ ?_
    haveI := rd_BA (r := r9) (ty := 132) (x := List.replicate 10 0) 0 10 10 (by simp) (Nat.le_refl _)
    refine d_step rfl (st_app (a := a3) (len := (supB s k ++ putN 0 1).length) (cap := c3) (b := some ⟨r9, 0, none⟩) (m := 10) (c := 10) (row2 := byR (((List.replicate 10 0).drop 0).take 10)) (by repeat (first | with_reducible exact Sel.here | with_reducible apply Sel.there)) (by repeat (first | with_reducible exact SelR.here | with_reducible apply SelR.there)) (byR_one _ _) (by simp [putN_len]; omega)) ?_
    rintro v Bs ⟨a4, c4, rfl, rfl⟩
    refine do_ ?_
    refine go_ ?_
    refine s_open (SA.cg (byR ((supB s k ++ putN 0 1) ++ List.replicate 10 0)) fun i hi => ?_) ?_
    · exact byR_cat (supB s k ++ putN 0 1) (List.replicate 10 0) i (by simp at hi ⊢; omega)
    rw [show (supB s k ++ putN 0 1).length + 10 = ((supB s k ++ putN 0 1) ++ List.replicate 10 0).length by simp; omega]
    refine s_fz (e := 5) (v := .slice a4 ((supB s k ++ putN 0 1) ++ List.replicate 10 0).length c4) (by repeat (first | with_reducible exact Sel.here | with_reducible apply Sel.there)) ?_
    refine s_drawN 1 [.q 0, .q 1, .q 3, .q 4, .q 6, .q 7, .s 2, .s 5, .s 8, .q 9] ?_
    refine do_ ?_
    refine d_step rfl (st_call (sp := (by repeat (first | exact Split.nil | apply Split.perx (by repeat (first | with_reducible exact Sel.here | with_reducible apply Sel.there)) (by infer_instance) | apply Split.cons (by repeat (first | with_reducible exact Sel.here | with_reducible apply Sel.there))))) (hs := put_f ((supB s k ++ putN 0 1) ++ List.replicate 10 0) 0 1 (by omega) (by omega) (by omega) (by simp [putN_len]; omega))) ?_
    rintro v Bs ⟨Cs, ⟨a5, c5, rfl, rfl⟩, rfl⟩
    refine do_ ?_
    refine d_step rfl (st_call (sp := (by repeat (first | exact Split.nil | apply Split.perx (by repeat (first | with_reducible exact Sel.here | with_reducible apply Sel.there)) (by infer_instance) | apply Split.cons (by repeat (first | with_reducible exact Sel.here | with_reducible apply Sel.there))))) (hs := put_f (((supB s k ++ putN 0 1) ++ List.replicate 10 0) ++ putN 0 1) 0 2 (by omega) (by omega) (by omega) (by simp [putN_len]; omega))) ?_
    rintro v Bs ⟨Cs, ⟨a6, c6, rfl, rfl⟩, rfl⟩
    refine do_ ?_
    refine d_step rfl (st_call (sp := (by repeat (first | exact Split.nil | apply Split.perx (by repeat (first | with_reducible exact Sel.here | with_reducible apply Sel.there)) (by infer_instance) | apply Split.cons (by repeat (first | with_reducible exact Sel.here | with_reducible apply Sel.there))))) (hs := put_f ((((supB s k ++ putN 0 1) ++ List.replicate 10 0) ++ putN 0 1) ++ putN 0 2) 0 4 (by omega) (by omega) (by omega) (by simp [putN_len]; omega))) ?_
    rintro v Bs ⟨Cs, ⟨a7, c7, rfl, rfl⟩, rfl⟩
    rw [supB_step]
    refine do_ ?_
    refine go_ ?_
    exact s_entF (by repeat (first | exact Ent.nil | refine Ent.per (by repeat (first | with_reducible exact Sel.here | with_reducible apply Sel.there)) ?_ | refine Ent.cons (by repeat (first | with_reducible exact Sel.here | with_reducible apply Sel.there)) ?_)) (s_keep _ (next (k + 1, a7, c7) (by dsimp only; omega) (by dsimp only; omega)))
  · have : k = 8 := by omega
    subst this
    refine go_ ?_
    refine s_call (sp := (by repeat (first | exact Split.nil | apply Split.perx (by repeat (first | with_reducible exact Sel.here | with_reducible apply Sel.there)) (by infer_instance) | apply Split.cons (by repeat (first | with_reducible exact Sel.here | with_reducible apply Sel.there))))) (hs := seal_c ⟨1, slot, 0, 0, g⟩ (supB s 8) (supHd_ok h2 hs) (supB_bys s 8) (by rw [supB_len]; decide)) (h := ?_)
    rintro v Bs ⟨r, rfl, rfl⟩
    refine go_ ?_
    exact s_rett (rs := [.tmp 4, .tmp 5]) (vs := [_, _]) Try.func44 rfl (by intro j; refine RVS.tmp _ rfl ?_; refine RVS.tmp _ rfl ?_; exact RVS.nil) rfl (⟨r, rfl, rfl⟩) (by repeat (first | exact Ent.nil | refine Ent.per (by repeat (first | with_reducible exact Sel.here | with_reducible apply Sel.there)) ?_ | refine Ent.cons (by repeat (first | with_reducible exact Sel.here | with_reducible apply Sel.there)) ?_))
end Go.Proofs.Ytldonbnjefhfdaa
/- seal.Open, seal.Check. -/
namespace Go.Proofs.Ytldonbnjefhfdaa
open Go.Cam
set_option maxRecDepth 100000
theorem take_f {a : Option Addr} {c : Nat} (l : List Nat) (n : Nat) (h1 : 1 ≤ n) (h7 : n ≤ 7) (hs : n ≤ l.length) (hb : Bys l) (hl : l.length < 1000000) : Ctr Try.prog 58 [.slice a l.length c, .int .i64 (n : Int)] [BS (.slice a l.length c) l]
    (fun v Bs => ∃ a' cap, v = .tuple #[.int .i64 (numB (l.take n) : Nat), .slice a' (l.drop n).length cap, .int .i64 0] ∧ Bs = [BS (.slice a' (l.drop n).length cap) (l.drop n)]) :=
  (take_c l n h1 h7 hs hb hl).view fun v Bs ⟨a', cap, hv, hb⟩ => ⟨_, ⟨a', cap, hv, rfl⟩, by rw [hb]; exact View.fz⟩
theorem next_c {r1 : Nat} {a : Option Addr} {c : Nat} (l : List Nat) (k n k2 : Nat) (hk2 : k + n = k2) (h1 : 1 ≤ n) (h7 : n ≤ 7) (hs : k + n ≤ l.length) (hb : Bys l) (hl : l.length < 1000000) :
    Ctr Try.prog 75 [.int .i64 (n : Int), .pointer (some ⟨r1, 0, none⟩)] [Box r1 37 [.slice a (l.drop k).length c], BS (.slice a (l.drop k).length c) (l.drop k)]
    (fun v Bs => ∃ a' c', v = .int .i64 (numB ((l.drop k).take n) : Nat) ∧ Bs = [Box r1 37 [.slice a' (l.drop k2).length c'], BS (.slice a' (l.drop k2).length c') (l.drop k2)]) := by
  subst hk2
  refine s_enter 16 [(0, _), (1, _)] (fun F => [_, _, F]) Try.func75 fun F => ?_
  refine go_ ?_
  refine s_call (sp := (by repeat (first | exact Split.nil | apply Split.perx (by repeat (first | with_reducible exact Sel.here | with_reducible apply Sel.there)) (by infer_instance) | apply Split.cons (by repeat (first | with_reducible exact Sel.here | with_reducible apply Sel.there))))) (hs := take_f (l.drop k) n h1 h7 (by simp; omega) (hb.drop k) (by simp; omega)) (h := ?_)
  rintro v Bs ⟨a', c', rfl, rfl⟩
  rw [List.drop_drop]
  refine go_ ?_
  exact s_ret1 (rs := [.tmp 3]) Try.func75 rfl (by intro j; refine RVS.tmp _ rfl ?_; exact RVS.nil) (⟨a', c', rfl, rfl⟩) (by repeat (first | exact Ent.nil | refine Ent.per (by repeat (first | with_reducible exact Sel.here | with_reducible apply Sel.there)) ?_ | refine Ent.cons (by repeat (first | with_reducible exact Sel.here | with_reducible apply Sel.there)) ?_))
def openH (l : List Nat) : Head := ⟨numB ((l.drop 4).take 1), numB ((l.drop 6).take 2), numB ((l.drop 8).take 2), numB ((l.drop 5).take 1), numB ((l.drop 10).take 5)⟩
abbrev Head.cs (h : Head) : List Value := [.int .i64 (h.kind : Int), .int .i64 (h.addr : Int), .int .i64 (h.count : Int), .int .i64 (h.level : Int), .int .i64 (h.gen : Int)]
/-- whether a sector is a block -/
def openOk (l : List Nat) : Prop := numB ((l.drop 15).take 5) = 0 ∧ numB (l.take 4) = sumB (l.drop 4) ∧ (openH l).ok
instance (l : List Nat) : Decidable (openOk l) := inferInstanceAs (Decidable (_ ∧ _ ∧ _))
abbrev head0 : Value := .agg #[.int .i64 0, .int .i64 0, .int .i64 0, .int .i64 0, .int .i64 0]
set_option maxHeartbeats 4000000 in
theorem open_c {a : Option Addr} {c : Nat} (l : List Nat) (hl : l.length = 256) (hb : Bys l) : Ctr Try.prog 57 [.slice a 256 c] [SA none 1 (.slice a 256 c) 256 (byR l)]
    (fun v Bs => (¬ openOk l ∧ v = .tuple #[head0, .slice none 0 0, .int .i64 3] ∧ Bs = []) ∨
      (openOk l ∧ ∃ a' c', v = .tuple #[(openH l).v, .slice a' 236 c', .int .i64 0] ∧ Bs = [SA none 1 (.slice a' 236 c') 236 (byR (l.drop 20))])) := by
  refine s_enter 51 [(0, _)] (fun F => [_, F]) Try.func57 fun F => ?_
  refine go_ ?_
  refine s_box fun r1 => ?_
  refine s_alloc fun r2 => ?_
  refine go_ ?_
  rw [show (256 : Nat) = (l.drop 0).length from hl.symm]
  refine s_front (a := SA none 1 (.slice a (l.drop 0).length c) (l.drop 0).length (byR l)) (by repeat (first | with_reducible exact Sel.here | with_reducible apply Sel.there)) (s_open (B := BS (.slice a (l.drop 0).length c) (l.drop 0)) (fun _ _ q => q) ?_)
  refine go_ ?_
  refine s_look lk_mkf1 ?_
  refine go_ ?_
  refine s_step (st_callC (sp := (by repeat (first | exact Split.nil | apply Split.perx (by repeat (first | with_reducible exact Sel.here | with_reducible apply Sel.there)) (by infer_instance) | apply Split.cons (by repeat (first | with_reducible exact Sel.here | with_reducible apply Sel.there))))) (hs := next_c l 0 4 4 rfl (by omega) (by omega) (by omega) hb (by omega))) ?_
  rintro v Bs ⟨Cs, ⟨a1, c1, rfl, rfl⟩, rfl⟩
  refine go_ ?_
  refine s_call (sp := (by repeat (first | exact Split.nil | apply Split.perx (by repeat (first | with_reducible exact Sel.here | with_reducible apply Sel.there)) (by infer_instance) | apply Split.cons (by repeat (first | with_reducible exact Sel.here | with_reducible apply Sel.there))))) (hs := sum_n (A := BS (.slice a1 (l.drop 4).length c1) (l.drop 4)) (l.drop 4) rfl (hb.drop 4) (by simp; omega)) (h := ?_)
  rintro v Bs ⟨rfl, rfl⟩
  refine go_ ?_
  have hsl : sumB (l.drop 4) < 4294967296 := moreB_lt 0 (l.drop 4) (by decide) (hb.drop 4)
  rw [show IntKind.i64.wrap ((sumB (l.drop 4) : Nat) : Int) = ((sumB (l.drop 4) : Nat) : Int) from wrap_id (by omega) (by omega)]
  refine s_step (st_callC (sp := (by repeat (first | exact Split.nil | apply Split.perx (by repeat (first | with_reducible exact Sel.here | with_reducible apply Sel.there)) (by infer_instance) | apply Split.cons (by repeat (first | with_reducible exact Sel.here | with_reducible apply Sel.there))))) (hs := next_c l 4 1 5 rfl (by omega) (by omega) (by omega) hb (by omega))) ?_
  rintro v Bs ⟨Cs, ⟨a2, c2, rfl, rfl⟩, rfl⟩
  refine go_ ?_
  refine s_alloc fun r8 => ?_
  refine s_st ?_
  refine go_ ?_
  refine s_step (st_callC (sp := (by repeat (first | exact Split.nil | apply Split.perx (by repeat (first | with_reducible exact Sel.here | with_reducible apply Sel.there)) (by infer_instance) | apply Split.cons (by repeat (first | with_reducible exact Sel.here | with_reducible apply Sel.there))))) (hs := next_c l 5 1 6 rfl (by omega) (by omega) (by omega) hb (by omega))) ?_
  rintro v Bs ⟨Cs, ⟨a3, c3, rfl, rfl⟩, rfl⟩
  refine go_ ?_
  refine s_step (st_callC (sp := (by repeat (first | exact Split.nil | apply Split.perx (by repeat (first | with_reducible exact Sel.here | with_reducible apply Sel.there)) (by infer_instance) | apply Split.cons (by repeat (first | with_reducible exact Sel.here | with_reducible apply Sel.there))))) (hs := next_c l 6 2 8 rfl (by omega) (by omega) (by omega) hb (by omega))) ?_
  rintro v Bs ⟨Cs, ⟨a4, c4, rfl, rfl⟩, rfl⟩
  refine go_ ?_
  refine s_step (st_callC (sp := (by repeat (first | exact Split.nil | apply Split.perx (by repeat (first | with_reducible exact Sel.here | with_reducible apply Sel.there)) (by infer_instance) | apply Split.cons (by repeat (first | with_reducible exact Sel.here | with_reducible apply Sel.there))))) (hs := next_c l 8 2 10 rfl (by omega) (by omega) (by omega) hb (by omega))) ?_
  rintro v Bs ⟨Cs, ⟨a5, c5, rfl, rfl⟩, rfl⟩
  refine go_ ?_
  refine s_step (st_callC (sp := (by repeat (first | exact Split.nil | apply Split.perx (by repeat (first | with_reducible exact Sel.here | with_reducible apply Sel.there)) (by infer_instance) | apply Split.cons (by repeat (first | with_reducible exact Sel.here | with_reducible apply Sel.there))))) (hs := next_c l 10 5 15 rfl (by omega) (by omega) (by omega) hb (by omega))) ?_
  rintro v Bs ⟨Cs, ⟨a6, c6, rfl, rfl⟩, rfl⟩
  refine go_ ?_
  refine s_step (st_callC (sp := (by repeat (first | exact Split.nil | apply Split.perx (by repeat (first | with_reducible exact Sel.here | with_reducible apply Sel.there)) (by infer_instance) | apply Split.cons (by repeat (first | with_reducible exact Sel.here | with_reducible apply Sel.there))))) (hs := next_c l 15 5 20 rfl (by omega) (by omega) (by omega) hb (by omega))) ?_
  rintro v Bs ⟨Cs, ⟨a7, c7, rfl, rfl⟩, rfl⟩
  refine go_ ?_
  have e20 : (l.drop 20).length = 236 := by simp [hl]
  cases hz : ((numB ((l.drop 15).take 5) : Nat) : Int) != 0 with
  | true =>
    have hno : ¬ openOk l := fun h => by have := h.1; simp [this] at hz
    refine go_ ?_
    exact s_rett (rs := [.cell 2 86, .tmp 3, .tmp 4]) (vs := [_, _, _]) Try.func57 rfl (by intro j; refine RVS.cell _ _ rfl (by repeat (first | with_reducible exact Sel.here | with_reducible apply Sel.there)) (by rfl) ?_; refine RVS.tmp _ rfl ?_; refine RVS.tmp _ rfl ?_; exact RVS.nil) rfl (.inl ⟨hno, rfl, rfl⟩) (by repeat (first | exact Ent.nil | refine Ent.per (by repeat (first | with_reducible exact Sel.here | with_reducible apply Sel.there)) ?_ | refine Ent.cons (by repeat (first | with_reducible exact Sel.here | with_reducible apply Sel.there)) ?_))
  | false =>
    have h0 : numB ((l.drop 15).take 5) = 0 := by simpa using hz
    cases hg : ((numB ((l.drop 0).take 4) : Nat) : Int) == ((sumB (l.drop 4) : Nat) : Int) with
    | false =>
      have hno : ¬ openOk l := fun h => by have := h.2.1; rw [List.drop_zero, this] at hg; simp at hg
      refine go_ ?_
      exact s_rett (rs := [.cell 2 86, .tmp 3, .tmp 4]) (vs := [_, _, _]) Try.func57 rfl (by intro j; refine RVS.cell _ _ rfl (by repeat (first | with_reducible exact Sel.here | with_reducible apply Sel.there)) (by rfl) ?_; refine RVS.tmp _ rfl ?_; refine RVS.tmp _ rfl ?_; exact RVS.nil) rfl (.inl ⟨hno, rfl, rfl⟩) (by repeat (first | exact Ent.nil | refine Ent.per (by repeat (first | with_reducible exact Sel.here | with_reducible apply Sel.there)) ?_ | refine Ent.cons (by repeat (first | with_reducible exact Sel.here | with_reducible apply Sel.there)) ?_))
    | true =>
      have h1 : numB (l.take 4) = sumB (l.drop 4) := Int.ofNat.inj (by simpa using hg)
      refine go_ ?_
      refine s_call (sp := (by repeat (first | exact Split.nil | apply Split.perx (by repeat (first | with_reducible exact Sel.here | with_reducible apply Sel.there)) (by infer_instance) | apply Split.cons (by repeat (first | with_reducible exact Sel.here | with_reducible apply Sel.there))))) (hs := hmay_c (openH l)) (h := ?_)
      rintro v Bs ⟨rfl, rfl⟩
      refine go_ ?_
      cases hm : decide (openH l).ok with
      | false =>
        have hno : ¬ openOk l := fun h => of_decide_eq_false hm h.2.2
        refine go_ ?_
        exact s_rett (rs := [.cell 2 86, .tmp 3, .tmp 4]) (vs := [_, _, _]) Try.func57 rfl (by intro j; refine RVS.cell _ _ rfl (by repeat (first | with_reducible exact Sel.here | with_reducible apply Sel.there)) (by rfl) ?_; refine RVS.tmp _ rfl ?_; refine RVS.tmp _ rfl ?_; exact RVS.nil) rfl (.inl ⟨hno, rfl, rfl⟩) (by repeat (first | exact Ent.nil | refine Ent.per (by repeat (first | with_reducible exact Sel.here | with_reducible apply Sel.there)) ?_ | refine Ent.cons (by repeat (first | with_reducible exact Sel.here | with_reducible apply Sel.there)) ?_))
      | true =>
        refine go_ ?_
        refine s_front (a := Box r2 86 [.int .i64 0, .int .i64 0, .int .i64 0, .int .i64 0, .int .i64 0]) (by repeat (first | with_reducible exact Sel.here | with_reducible apply Sel.there)) ?_
        refine s_drawN 1 [.q 0, .q 1, .s 2, .q 3, .q 4] ?_
        refine do_ ?_
        refine d_stepU rfl st_st ?_
        rintro v Bs rfl
        refine do_ ?_
        refine go_ ?_
        refine s_front (a := BS (.slice a7 (l.drop 20).length c7) (l.drop 20)) (by repeat (first | with_reducible exact Sel.here | with_reducible apply Sel.there)) (s_open (B := SA none 1 (.slice a7 (l.drop 20).length c7) (l.drop 20).length (byR (l.drop 20))) (fun _ _ q => q) ?_)
        rw [e20]
        refine s_front (a := Box r2 86 [.int .i64 (numB ((l.drop 4).take 1) : Nat), .int .i64 (numB ((l.drop 6).take 2) : Nat), .int .i64 (numB ((l.drop 8).take 2) : Nat), .int .i64 (numB ((l.drop 5).take 1) : Nat), .int .i64 (numB ((l.drop 10).take 5) : Nat)]) (by repeat (first | with_reducible exact Sel.here | with_reducible apply Sel.there)) (s_open (B := Box r2 86 (openH l).cs) (fun _ _ q => q) ?_)
        exact s_rett (rs := [.cell 2 86, .tmp 3, .tmp 4]) (vs := [_, _, _]) Try.func57 rfl (by intro j; refine RVS.cell _ _ rfl (by repeat (first | with_reducible exact Sel.here | with_reducible apply Sel.there)) (by rfl) ?_; refine RVS.tmp _ rfl ?_; refine RVS.tmp _ rfl ?_; exact RVS.nil) rfl (.inr ⟨⟨h0, h1, of_decide_eq_true hm⟩, a7, c7, rfl, rfl⟩) (by repeat (first | exact Ent.nil | refine Ent.per (by repeat (first | with_reducible exact Sel.here | with_reducible apply Sel.there)) ?_ | refine Ent.cons (by repeat (first | with_reducible exact Sel.here | with_reducible apply Sel.there)) ?_))
end Go.Proofs.Ytldonbnjefhfdaa
/- seal.Check. -/
namespace Go.Proofs.Ytldonbnjefhfdaa
open Go.Cam
set_option maxRecDepth 100000
def checkOk (l : List Nat) (kind addr : Nat) : Prop := openOk l ∧ (openH l).kind = kind ∧ (openH l).addr = addr
instance (l : List Nat) (k a : Nat) : Decidable (checkOk l k a) := inferInstanceAs (Decidable (_ ∧ _ ∧ _))
set_option maxHeartbeats 4000000 in
theorem check_c {a : Option Addr} {c : Nat} (l : List Nat) (kind addr : Nat) (hl : l.length = 256) (hb : Bys l) : Ctr Try.prog 34 [.slice a 256 c, .int .i64 (kind : Int), .int .i64 (addr : Int)] [SA none 1 (.slice a 256 c) 256 (byR l)]
    (fun v Bs => (¬ checkOk l kind addr ∧ v = .tuple #[head0, .slice none 0 0, .int .i64 3] ∧ Bs = []) ∨
      (checkOk l kind addr ∧ ∃ a' c', v = .tuple #[(openH l).v, .slice a' 236 c', .int .i64 0] ∧ Bs = [SA none 1 (.slice a' 236 c') 236 (byR (l.drop 20))])) := by
  refine s_enter 35 [(0, _), (1, _), (2, _)] (fun F => [_, F]) Try.func34 fun F => ?_
  refine go_ ?_
  refine s_alloc fun r6 => ?_
  refine go_ ?_
  refine s_call (sp := (by repeat (first | exact Split.nil | apply Split.perx (by repeat (first | with_reducible exact Sel.here | with_reducible apply Sel.there)) (by infer_instance) | apply Split.cons (by repeat (first | with_reducible exact Sel.here | with_reducible apply Sel.there))))) (hs := open_c l hl hb) (h := ?_)
  rintro v Bs (⟨hno, rfl, rfl⟩ | ⟨hok, a1, c1, rfl, rfl⟩)
  · refine go_ ?_
    refine s_alloc fun r9 => ?_
    refine go_ ?_
    exact s_rett (rs := [.cell 6 86, .tmp 7, .tmp 8]) (vs := [_, _, _]) Try.func34 rfl (by intro j; refine RVS.cell _ _ rfl (by repeat (first | with_reducible exact Sel.here | with_reducible apply Sel.there)) (by rfl) ?_; refine RVS.tmp _ rfl ?_; refine RVS.tmp _ rfl ?_; exact RVS.nil) rfl (.inl ⟨fun h => hno h.1, rfl, rfl⟩) (by repeat (first | exact Ent.nil | refine Ent.per (by repeat (first | with_reducible exact Sel.here | with_reducible apply Sel.there)) ?_ | refine Ent.cons (by repeat (first | with_reducible exact Sel.here | with_reducible apply Sel.there)) ?_))
  · refine go_ ?_
    refine s_alloc fun r9 => ?_
    refine go_ ?_
    cases hk : ((openH l).kind : Int) != (kind : Int) with
    | true =>
      refine go_ ?_
      exact s_rett (rs := [.cell 6 86, .tmp 7, .tmp 8]) (vs := [_, _, _]) Try.func34 rfl (by intro j; refine RVS.cell _ _ rfl (by repeat (first | with_reducible exact Sel.here | with_reducible apply Sel.there)) (by rfl) ?_; refine RVS.tmp _ rfl ?_; refine RVS.tmp _ rfl ?_; exact RVS.nil) rfl (.inl ⟨fun h => by rw [h.2.1] at hk; simp at hk, rfl, rfl⟩) (by repeat (first | exact Ent.nil | refine Ent.per (by repeat (first | with_reducible exact Sel.here | with_reducible apply Sel.there)) ?_ | refine Ent.cons (by repeat (first | with_reducible exact Sel.here | with_reducible apply Sel.there)) ?_))
    | false =>
      have hk2 : (openH l).kind = kind := Int.ofNat.inj (by simpa using hk)
      refine go_ ?_
      refine s_ine (fun h2 => ?_) (fun h2 => ?_)
      · refine go_ ?_
        exact s_rett (rs := [.cell 6 86, .tmp 7, .tmp 8]) (vs := [_, _, _]) Try.func34 rfl (by intro j; refine RVS.cell _ _ rfl (by repeat (first | with_reducible exact Sel.here | with_reducible apply Sel.there)) (by rfl) ?_; refine RVS.tmp _ rfl ?_; refine RVS.tmp _ rfl ?_; exact RVS.nil) rfl (.inl ⟨fun h => h2 (by rw [h.2.2]), rfl, rfl⟩) (by repeat (first | exact Ent.nil | refine Ent.per (by repeat (first | with_reducible exact Sel.here | with_reducible apply Sel.there)) ?_ | refine Ent.cons (by repeat (first | with_reducible exact Sel.here | with_reducible apply Sel.there)) ?_))
      · refine go_ ?_
        exact s_rett (rs := [.cell 6 86, .tmp 7, .tmp 8]) (vs := [_, _, _]) Try.func34 rfl (by intro j; refine RVS.cell _ _ rfl (by repeat (first | with_reducible exact Sel.here | with_reducible apply Sel.there)) (by rfl) ?_; refine RVS.tmp _ rfl ?_; refine RVS.tmp _ rfl ?_; exact RVS.nil) rfl (.inr ⟨⟨hok, hk2, by omega⟩, a1, c1, rfl, rfl⟩) (by repeat (first | exact Ent.nil | refine Ent.per (by repeat (first | with_reducible exact Sel.here | with_reducible apply Sel.there)) ?_ | refine Ent.cons (by repeat (first | with_reducible exact Sel.here | with_reducible apply Sel.there)) ?_))
end Go.Proofs.Ytldonbnjefhfdaa
/- What was sealed is opened. -/
namespace Go.Proofs.Ytldonbnjefhfdaa
open Go.Cam
theorem putN_succ (x n : Nat) : putN x (n + 1) = putN (x / 256) n ++ [x % 256] := by
  unfold putN
  rw [List.range_succ, List.map_append]
  congr 1
  · refine List.map_congr_left fun i hi => ?_
    have := List.mem_range.1 hi
    rw [show n + 1 - 1 - i = (n - 1 - i) + 1 by omega, Nat.pow_succ', ← Nat.div_div_eq_div_mul]
  · simp
theorem numB_putN (x n : Nat) (h : x < 256 ^ n) : numB (putN x n) = x := by
  induction n generalizing x with
  | zero => have : x = 0 := by simpa using h
            subst this; rfl
  | succ n ih =>
    rw [putN_succ, numB_snoc, ih (x / 256) (by rw [Nat.pow_succ] at h; exact Nat.div_lt_of_lt_mul (by rw [Nat.mul_comm]; exact h))]
    omega
theorem take_app {α : Type} {a b : List α} {n : Nat} (h : a.length = n) : (a ++ b).take n = a := List.take_left' h
theorem drop_app {α : Type} {a b : List α} {n : Nat} (h : a.length = n) : (a ++ b).drop n = b := List.drop_left' h
theorem open_seal {h : Head} {body : List Nat} (ho : h.ok) (hb : Bys body) (hl : body.length ≤ 236) : openOk (sealB h body) ∧ openH (sealB h body) = h ∧ (sealB h body).drop 20 = body ++ List.replicate (236 - body.length) 0 := by
  have hg : h.gen < 256 ^ 5 := by have := ho.2.2 3 (by omega); simp only [Head.lo, hdHi] at this; omega
  have hk : h.kind < 256 ^ 1 := by have := ho.2.1; omega
  have hlv : h.level < 256 ^ 1 := by have := ho.2.2 0 (by omega); simp only [Head.lo, hdHi] at this; omega
  have had : h.addr < 256 ^ 2 := by have := ho.2.2 1 (by omega); simp only [Head.lo, hdHi] at this; omega
  have hct : h.count < 256 ^ 2 := by have := ho.2.2 2 (by omega); simp only [Head.lo, hdHi] at this; omega
  have hsm : sumB (sealT h body) < 256 ^ 4 := moreB_lt 0 _ (by decide) (sealT_bys hb)
  have e : sealB h body = putN (sumB (sealT h body)) 4 ++ (putN h.kind 1 ++ (putN h.level 1 ++ (putN h.addr 2 ++ (putN h.count 2 ++ (putN h.gen 5 ++ (List.replicate 5 0 ++ (body ++ List.replicate (236 - body.length) 0))))))) := by
    simp [sealB, sealT, List.append_assoc]
  have d4 : (sealB h body).drop 4 = sealT h body := drop_app (putN_len _ _)
  have s : ∀ (k n : Nat) (x : List Nat), ((sealB h body).drop k).drop n = x → (sealB h body).drop (k + n) = x := fun k n x h => by rw [← List.drop_drop]; exact h
  have e4 : (sealB h body).drop 4 = putN h.kind 1 ++ (putN h.level 1 ++ (putN h.addr 2 ++ (putN h.count 2 ++ (putN h.gen 5 ++ (List.replicate 5 0 ++ (body ++ List.replicate (236 - body.length) 0)))))) := by rw [e]; exact drop_app (putN_len _ _)
  have e5 : (sealB h body).drop 5 = _ := s 4 1 _ ((congrArg (List.drop _) e4).trans (drop_app (putN_len _ _)))
  have e6 : (sealB h body).drop 6 = _ := s 5 1 _ ((congrArg (List.drop _) e5).trans (drop_app (putN_len _ _)))
  have e8 : (sealB h body).drop 8 = _ := s 6 2 _ ((congrArg (List.drop _) e6).trans (drop_app (putN_len _ _)))
  have e10 : (sealB h body).drop 10 = _ := s 8 2 _ ((congrArg (List.drop _) e8).trans (drop_app (putN_len _ _)))
  have e15 : (sealB h body).drop 15 = _ := s 10 5 _ ((congrArg (List.drop _) e10).trans (drop_app (putN_len _ _)))
  have e20 : (sealB h body).drop 20 = _ := s 15 5 _ ((congrArg (List.drop _) e15).trans (drop_app List.length_replicate))
  have hh : openH (sealB h body) = h := by
    unfold openH
    rw [e4, e5, e6, e8, e10, take_app (putN_len _ _), take_app (putN_len _ _), take_app (putN_len _ _), take_app (putN_len _ _), take_app (putN_len _ _), numB_putN _ _ hk, numB_putN _ _ had, numB_putN _ _ hct, numB_putN _ _ hlv, numB_putN _ _ hg]
  refine ⟨⟨?_, ?_, by rw [hh]; exact ho⟩, hh, e20⟩
  · rw [e15, take_app List.length_replicate]; rfl
  · rw [d4]
    show numB ((putN (sumB (sealT h body)) 4 ++ sealT h body).take 4) = _
    rw [take_app (putN_len _ _), numB_putN _ _ hsm]
end Go.Proofs.Ytldonbnjefhfdaa
/- super.Read: of a sector that is none, or of a superblock without subvolumes. -/
namespace Go.Proofs.Ytldonbnjefhfdaa
open Go.Cam
set_option maxRecDepth 100000
abbrev ZB (a : Option Addr) (m c : Nat) : HP := SA none 1 (.slice a m c) m (byR (List.replicate m 0))
theorem numB_zeros (n : Nat) : numB (List.replicate n 0) = 0 := by
  have h := numB_putN 0 n (Nat.pos_of_ne_zero (by simp))
  rwa [putN_zero] at h
theorem bs_zb (a : Option Addr) (m c : Nat) (H M : Heap) (h : (ZB a m c).p H M) : (BS (.slice a (List.replicate m 0).length c) (List.replicate m 0)).p H M := by
  unfold BS; rw [List.length_replicate]; exact h
/-- the next number of noughts -/
theorem rnext_c {r7 : Nat} {a : Option Addr} {c m : Nat} (n : Nat) (h1 : 1 ≤ n) (h7 : n ≤ 7) (hs : n ≤ m) (hm : m < 1000000) :
    Ctr Try.prog 74 [.int .i64 (n : Int), .pointer (some ⟨r7, 0, none⟩)] [Box r7 37 [.slice a m c], ZB a m c]
    (fun v Bs => ∃ a' c', v = .int .i64 0 ∧ Bs = [Box r7 37 [.slice a' (m - n) c'], ZB a' (m - n) c']) := by
  refine s_enter 16 [(0, _), (1, _)] (fun F => [_, _, F]) Try.func74 fun F => ?_
  refine go_ ?_
  refine s_front (a := ZB a m c) (by repeat (first | with_reducible exact Sel.here | with_reducible apply Sel.there)) (s_open (bs_zb a m c) ?_)
  have hl : (List.replicate m 0).length = m := List.length_replicate
  rw [show Value.slice a m c = Value.slice a (List.replicate m 0).length c by rw [hl]]
  refine s_call (sp := (by repeat (first | exact Split.nil | apply Split.perx (by repeat (first | with_reducible exact Sel.here | with_reducible apply Sel.there)) (by infer_instance) | apply Split.cons (by repeat (first | with_reducible exact Sel.here | with_reducible apply Sel.there))))) (hs := take_f (List.replicate m 0) n h1 h7 (by omega) (Bys.zeros _) (by omega)) (h := ?_)
  rintro v Bs ⟨a', c', rfl, rfl⟩
  rw [List.drop_replicate, List.take_replicate, numB_zeros]
  refine go_ ?_
  refine s_front (a := BS (.slice a' (List.replicate (m - n) 0).length c') (List.replicate (m - n) 0)) (by repeat (first | with_reducible exact Sel.here | with_reducible apply Sel.there)) (s_open (B := ZB a' (m - n) c') (fun _ _ q => by unfold BS at q; rw [List.length_replicate] at q; exact q) ?_)
  rw [List.length_replicate]
  exact s_ret1 (rs := [.tmp 3]) Try.func74 rfl (by intro j; refine RVS.tmp _ rfl ?_; exact RVS.nil) (⟨a', c', rfl, rfl⟩) (by repeat (first | exact Ent.nil | refine Ent.per (by repeat (first | with_reducible exact Sel.here | with_reducible apply Sel.there)) ?_ | refine Ent.cons (by repeat (first | with_reducible exact Sel.here | with_reducible apply Sel.there)) ?_))
theorem rnextB_c {r7 : Nat} {a : Option Addr} {c : Nat} (x m n : Nat) (h1 : 1 ≤ n) (h7 : n ≤ 7) (hx : x < 256 ^ n) (hm : n + m < 1000000) :
    Ctr Try.prog 74 [.int .i64 (n : Int), .pointer (some ⟨r7, 0, none⟩)] [Box r7 37 [.slice a (n + m) c], SA none 1 (.slice a (n + m) c) (n + m) (byR (putN x n ++ List.replicate m 0))]
    (fun v Bs => ∃ a' c', v = .int .i64 (x : Nat) ∧ Bs = [Box r7 37 [.slice a' m c'], ZB a' m c']) := by
  refine s_enter 16 [(0, _), (1, _)] (fun F => [_, _, F]) Try.func74 fun F => ?_
  refine go_ ?_
  have hl : (putN x n ++ List.replicate m 0).length = n + m := by simp [putN_len]
  rw [← hl]
  refine s_call (sp := (by repeat (first | exact Split.nil | apply Split.perx (by repeat (first | with_reducible exact Sel.here | with_reducible apply Sel.there)) (by infer_instance) | apply Split.cons (by repeat (first | with_reducible exact Sel.here | with_reducible apply Sel.there))))) (hs := take_f (putN x n ++ List.replicate m 0) n h1 h7 (by omega) ((putN_lt _ _).app (Bys.zeros _)) (by omega)) (h := ?_)
  rintro v Bs ⟨a', c', rfl, rfl⟩
  rw [drop_app (putN_len _ _), take_app (putN_len _ _), numB_putN _ _ hx]
  refine go_ ?_
  refine s_front (a := BS (.slice a' (List.replicate m 0).length c') (List.replicate m 0)) (by repeat (first | with_reducible exact Sel.here | with_reducible apply Sel.there)) (s_open (B := ZB a' m c') (fun _ _ q => by unfold BS at q; rw [List.length_replicate] at q; exact q) ?_)
  rw [List.length_replicate]
  exact s_ret1 (rs := [.tmp 3]) Try.func74 rfl (by intro j; refine RVS.tmp _ rfl ?_; exact RVS.nil) (⟨a', c', rfl, rfl⟩) (by repeat (first | exact Ent.nil | refine Ent.per (by repeat (first | with_reducible exact Sel.here | with_reducible apply Sel.there)) ?_ | refine Ent.cons (by repeat (first | with_reducible exact Sel.here | with_reducible apply Sel.there)) ?_))
set_option maxHeartbeats 8000000 in
theorem sreadBad_c {a : Option Addr} {c : Nat} (l : List Nat) (slot : Nat) (hl : l.length = 256) (hb : Bys l) (hno : ¬ checkOk l 1 slot) : Ctr Try.prog 56 [.slice a 256 c, .int .i64 (slot : Int)] [SA none 1 (.slice a 256 c) 256 (byR l)]
    (fun v Bs => v = .tuple #[.agg (supL 0 0).toArray, .int .i64 3] ∧ Bs = []) := by
  refine s_enter 124 [(0, _), (1, _)] (fun F => [_, F]) Try.func56 fun F => ?_
  refine go_ ?_
  refine s_alloc fun r4 => ?_
  refine go_ ?_
  refine s_call (sp := (by repeat (first | exact Split.nil | apply Split.perx (by repeat (first | with_reducible exact Sel.here | with_reducible apply Sel.there)) (by infer_instance) | apply Split.cons (by repeat (first | with_reducible exact Sel.here | with_reducible apply Sel.there))))) (hs := check_c l 1 slot hl hb) (h := ?_)
  rintro v Bs (⟨_, rfl, rfl⟩ | ⟨hok, _⟩)
  · refine go_ ?_
    refine s_alloc fun r6 => ?_
    refine s_alloc fun r7 => ?_
    refine go_ ?_
    refine s_front (a := Box r4 47 (.int .i64 0 :: .int .i64 0 :: .int .i64 0 :: vols0L)) (by repeat (first | with_reducible exact Sel.here | with_reducible apply Sel.there)) (s_open (B := Box r4 47 (supL 0 0)) (fun _ _ q => q) ?_)
    exact s_rett (rs := [.cell 4 47, .tmp 5]) (vs := [_, _]) Try.func56 rfl (by intro j; refine RVS.cell _ _ rfl (by repeat (first | with_reducible exact Sel.here | with_reducible apply Sel.there)) (by rfl) ?_; refine RVS.tmp _ rfl ?_; exact RVS.nil) rfl (⟨rfl, rfl⟩) (by repeat (first | exact Ent.nil | refine Ent.per (by repeat (first | with_reducible exact Sel.here | with_reducible apply Sel.there)) ?_ | refine Ent.cons (by repeat (first | with_reducible exact Sel.here | with_reducible apply Sel.there)) ?_))
  · exact absurd hok hno
end Go.Proofs.Ytldonbnjefhfdaa
