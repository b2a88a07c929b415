/- super.Read: of a superblock without subvolumes. -/
import Derived.Test.YtldonbnjefhfdaaCrsW
import Derived.Test.YtldonbnjefhfdaaCrsQ
namespace Go.Proofs.Ytldonbnjefhfdaa
open Go.Cam
set_option maxRecDepth 100000
instance eq192 : EQ Try.prog 132 (.agg (bcl (List.replicate 10 0)).toArray) (.agg (bcl (List.replicate 10 0)).toArray) true := ⟨fun op _ _ => by cases op <;> kernel_rfl,
  fun w => cst_run _ (by kernel_rfl : cst Try.prog (binOp .eql 132 (.agg (bcl (List.replicate 10 0)).toArray) (.agg (bcl (List.replicate 10 0)).toArray)) = some (.bool true)) w,
  fun w => cst_run _ (by kernel_rfl : cst Try.prog (binOp .neq 132 (.agg (bcl (List.replicate 10 0)).toArray) (.agg (bcl (List.replicate 10 0)).toArray)) = some (.bool (!true))) w⟩
theorem supL_set (g s : Nat) : ∀ i, i < 8 → SetsL (supL g s) (3 + i * 4) vol0L (supL g s)
  | 0, _ => by infer_instance
  | 1, _ => by infer_instance
  | 2, _ => by infer_instance
  | 3, _ => by infer_instance
  | 4, _ => by infer_instance
  | 5, _ => by infer_instance
  | 6, _ => by infer_instance
  | 7, _ => by infer_instance
theorem supL_fit (g s : Nat) : ∀ i, i < 8 → Nat.ble (3 + i * 4 + 4) (supL g s).length = true
  | 0, _ => rfl | 1, _ => rfl | 2, _ => rfl | 3, _ => rfl | 4, _ => rfl | 5, _ => rfl | 6, _ => rfl | 7, _ => rfl
theorem getD_zeros (k i : Nat) : (List.replicate k 0).getD i 0 = 0 := by
  simp only [List.getD_eq_getElem?_getD, List.getElem?_replicate]; split <;> rfl
instance : U8T Try.prog 5 := ⟨by kernel_rfl⟩
theorem over_zeros (m : Nat) : over (List.replicate 10 0) 0 ((List.replicate m 0).take 10) = List.replicate 10 0 := by
  unfold over
  simp only [List.take_zero, List.nil_append, List.take_replicate, List.length_replicate, List.drop_replicate, List.replicate_append_replicate]
  congr 1; omega
set_option maxHeartbeats 16000000 in
theorem sread_c {a : Option Addr} {c : Nat} (l : List Nat) (g s slot : Nat) (h : supOk g s) (hs : slot ≤ 1) (hl : l = sealB ⟨1, slot, 0, 0, g⟩ (supB s 8)) : Ctr Try.prog 56 [.slice a 256 c, .int .i64 (slot : Int)] [SA none 1 (.slice a 256 c) 256 (byR l)]
    (fun v Bs => v = .tuple #[.agg (supL g s).toArray, .int .i64 0] ∧ Bs = []) := by
  have hso := h
  obtain ⟨h1, h2, h3, h4⟩ := h
  have hho := supHd_ok h2 hs
  have hbl : (supB s 8).length ≤ 236 := by rw [supB_len]; decide
  obtain ⟨o1, o2, o3⟩ := open_seal hho (supB_bys s 8) hbl
  have hlen : l.length = 256 := by rw [hl, sealB_len hbl]
  have hb : Bys l := by rw [hl]; exact sealB_bys (supB_bys s 8)
  rw [← hl] at o1 o2 o3
  have o4 : l.drop 20 = putN s 2 ++ List.replicate 234 0 := by
    rw [o3, supB_len]; unfold supB
    rw [List.append_assoc, List.replicate_append_replicate]
  refine s_enter 124 [(0, _), (1, _)] (fun F => [_, F]) Try.func56 fun F => ?_
  refine go_ ?_
  refine s_alloc fun r4 => ?_
  refine go_ ?_
  refine s_call (sp := (by repeat (first | exact Split.nil | apply Split.perx (by repeat (first | with_reducible exact Sel.here | with_reducible apply Sel.there)) (by infer_instance) | apply Split.cons (by repeat (first | with_reducible exact Sel.here | with_reducible apply Sel.there))))) (hs := check_c l 1 slot hlen hb) (h := ?_)
  rintro v Bs (⟨hno, _⟩ | ⟨_, a1, c1, rfl, rfl⟩)
  · exact absurd ⟨o1, by rw [o2], by rw [o2]⟩ hno
  rw [o2, o4]
  refine go_ ?_
  refine s_alloc fun r6 => ?_
  refine s_alloc fun r7 => ?_
  refine go_ ?_
  refine s_call (sp := (by repeat (first | exact Split.nil | apply Split.perx (by repeat (first | with_reducible exact Sel.here | with_reducible apply Sel.there)) (by infer_instance) | apply Split.cons (by repeat (first | with_reducible exact Sel.here | with_reducible apply Sel.there))))) (hs := swithin_c (slot : Int) 0 1) (h := ?_)
  rintro v Bs ⟨rfl, rfl⟩
  rw [show decide (0 ≤ (slot : Int) ∧ (slot : Int) ≤ 1) = true from decide_eq_true (by omega)]
  refine go_ ?_
  refine s_look lk_mkf1 ?_
  refine go_ ?_
  apply s_join (α := Nat × Option Addr × Nat) (fun q => [(4, .pointer (some ⟨r4, 0, none⟩)), (7, .pointer (some ⟨r7, 0, none⟩)), (9, .bool true), (10, .func (.func 74) #[] #[.pointer (some ⟨r7, 0, none⟩)]), (11, .pointer (some ⟨q.1, 0, none⟩)), (51, .func (.func 74) #[] #[.pointer (some ⟨r7, 0, none⟩)])])
    (fun q => [Box q.1 47 (supL g s), Box r7 37 [.slice q.2.1 234 q.2.2], ZB q.2.1 234 q.2.2, Box r4 47 (.int .i64 0 :: .int .i64 0 :: .int .i64 0 :: vols0L), F]) (fun _ => True)
  case h =>
    intro K
    refine s_front (a := Box r7 37 [.slice a1 236 c1]) (by repeat (first | with_reducible exact Sel.here | with_reducible apply Sel.there)) ?_
    refine s_front (a := SA none 1 (.slice a1 236 c1) 236 (byR (putN s 2 ++ List.replicate 234 0))) (by repeat (first | with_reducible exact Sel.here | with_reducible apply Sel.there)) ?_
    refine s_drawN 2 [.q 0, .q 1, .q 2, .alt2 3 4 5, .s 6] ?_
    refine do_ ?_
    refine d_alt2 ?_ ?_
    · refine d_step rfl (st_callC (sp := (by repeat (first | exact Split.nil | apply Split.perx (by repeat (first | with_reducible exact Sel.here | with_reducible apply Sel.there)) (by infer_instance) | apply Split.cons (by repeat (first | with_reducible exact Sel.here | with_reducible apply Sel.there))))) (hs := rnextB_c s 234 2 (by omega) (by omega) (by omega) (by omega))) ?_
      rintro v Bs ⟨Cs, ⟨a2, c2, rfl, rfl⟩, rfl⟩
      refine do_ ?_
      refine d_alt ?_ ?_
      · refine d_step rfl (st_lk lk_bd2) ?_
        rintro v Bs ⟨rfl, rfl⟩
        refine do_ ?_
        refine d_step rfl st_alloc ?_
        rintro v Bs ⟨r11, rfl, rfl⟩
        refine do_ ?_
        refine d_stepU rfl st_st ?_
        rintro v Bs rfl
        refine do_ ?_
        refine go_ ?_
        refine s_front (a := Box r11 47 (.int .i64 ((⟨1, slot, 0, 0, g⟩ : Head).gen : Int) :: .int .i64 (s : Int) :: .int .i64 0 :: vols0L)) (by repeat (first | with_reducible exact Sel.here | with_reducible apply Sel.there)) (s_open (B := Box r11 47 (supL g s)) (fun _ _ q => q) ?_)
        exact s_entF (by repeat (first | exact Ent.nil | refine Ent.per (by repeat (first | with_reducible exact Sel.here | with_reducible apply Sel.there)) ?_ | refine Ent.cons (by repeat (first | with_reducible exact Sel.here | with_reducible apply Sel.there)) ?_)) (s_keep _ (K (r11, a2, c2) trivial))
      · refine d_step rfl st_alloc ?_
        rintro v Bs ⟨r11, rfl, rfl⟩
        refine do_ ?_
        refine d_step rfl (st_lk lk_bd2) ?_
        rintro v Bs ⟨rfl, rfl⟩
        refine do_ ?_
        refine d_stepU rfl st_st ?_
        rintro v Bs rfl
        refine do_ ?_
        refine go_ ?_
        refine s_front (a := Box r11 47 (.int .i64 ((⟨1, slot, 0, 0, g⟩ : Head).gen : Int) :: .int .i64 (s : Int) :: .int .i64 0 :: vols0L)) (by repeat (first | with_reducible exact Sel.here | with_reducible apply Sel.there)) (s_open (B := Box r11 47 (supL g s)) (fun _ _ q => q) ?_)
        exact s_entF (by repeat (first | exact Ent.nil | refine Ent.per (by repeat (first | with_reducible exact Sel.here | with_reducible apply Sel.there)) ?_ | refine Ent.cons (by repeat (first | with_reducible exact Sel.here | with_reducible apply Sel.there)) ?_)) (s_keep _ (K (r11, a2, c2) trivial))
    · refine d_step rfl st_alloc ?_
      rintro v Bs ⟨r11, rfl, rfl⟩
      refine do_ ?_
      refine d_step rfl (st_callC (sp := (by repeat (first | exact Split.nil | apply Split.perx (by repeat (first | with_reducible exact Sel.here | with_reducible apply Sel.there)) (by infer_instance) | apply Split.cons (by repeat (first | with_reducible exact Sel.here | with_reducible apply Sel.there))))) (hs := rnextB_c s 234 2 (by omega) (by omega) (by omega) (by omega))) ?_
      rintro v Bs ⟨Cs, ⟨a2, c2, rfl, rfl⟩, rfl⟩
      refine do_ ?_
      refine d_step rfl (st_lk lk_bd2) ?_
      rintro v Bs ⟨rfl, rfl⟩
      refine do_ ?_
      refine d_stepU rfl st_st ?_
      rintro v Bs rfl
      refine do_ ?_
      refine go_ ?_
      refine s_front (a := Box r11 47 (.int .i64 ((⟨1, slot, 0, 0, g⟩ : Head).gen : Int) :: .int .i64 (s : Int) :: .int .i64 0 :: vols0L)) (by repeat (first | with_reducible exact Sel.here | with_reducible apply Sel.there)) (s_open (B := Box r11 47 (supL g s)) (fun _ _ q => q) ?_)
      exact s_entF (by repeat (first | exact Ent.nil | refine Ent.per (by repeat (first | with_reducible exact Sel.here | with_reducible apply Sel.there)) ?_ | refine Ent.cons (by repeat (first | with_reducible exact Sel.here | with_reducible apply Sel.there)) ?_)) (s_keep _ (K (r11, a2, c2) trivial))
  case K =>
    rintro ⟨r11, a2, c2⟩ _
    dsimp only
    refine go_ ?_
    refine s_step (st_callC (sp := (by repeat (first | exact Split.nil | apply Split.perx (by repeat (first | with_reducible exact Sel.here | with_reducible apply Sel.there)) (by infer_instance) | apply Split.cons (by repeat (first | with_reducible exact Sel.here | with_reducible apply Sel.there))))) (hs := rnext_c (m := 234) 2 (by omega) (by omega) (by omega) (by omega))) ?_
    rintro v Bs ⟨Cs, ⟨a3, c3, rfl, rfl⟩, rfl⟩
    refine go_ ?_
    rw [show (234 - 2 : Nat) = 232 - 18 * 0 from rfl]
    refine s_loop (fun q : Nat × Option Addr × Nat => [(4, .pointer (some ⟨r4, 0, none⟩)), (7, .pointer (some ⟨r7, 0, none⟩)), (9, .bool true), (10, .func (.func 74) #[] #[.pointer (some ⟨r7, 0, none⟩)]), (11, .pointer (some ⟨r11, 0, none⟩)), (54, .int .i64 q.1)])
      (fun q => [Box r11 47 (supL g s), Box r7 37 [.slice q.2.1 (232 - 18 * q.1) q.2.2], ZB q.2.1 (232 - 18 * q.1) q.2.2, Box r4 47 (.int .i64 0 :: .int .i64 0 :: .int .i64 0 :: vols0L), F]) (fun q => q.1 ≤ 8) (fun q => 8 - q.1) (0, a3, c3) (Nat.zero_le _) (by repeat (first | exact Ent.nil | refine Ent.per (by repeat (first | with_reducible exact Sel.here | with_reducible apply Sel.there)) ?_ | refine Ent.cons (by repeat (first | with_reducible exact Sel.here | with_reducible apply Sel.there)) ?_)) ?_
    rintro ⟨i, a4, c4⟩ hi next
    dsimp only at hi next ⊢
    refine go_ ?_
    refine s_if (fun h5 => ?_) (fun h5 => ?_)
    · have hi8 : i < 8 := by omega
      obtain ⟨m, hm⟩ : ∃ m, 232 - 18 * i = m + 18 := ⟨214 - 18 * i, by omega⟩
      rw [hm]
      refine go_ ?_
      refine s_step (st_callC (sp := (by repeat (first | exact Split.nil | apply Split.perx (by repeat (first | with_reducible exact Sel.here | with_reducible apply Sel.there)) (by infer_instance) | apply Split.cons (by repeat (first | with_reducible exact Sel.here | with_reducible apply Sel.there))))) (hs := rnext_c (m := m + 18) 1 (by omega) (by omega) (by omega) (by omega))) ?_
      rintro v Bs ⟨Cs, ⟨a5, c5, rfl, rfl⟩, rfl⟩
      rw [show m + 18 - 1 = m + 17 by omega]
      refine go_ ?_
      refine s_look (lk_min 0) ?_
      refine go_ ?_
      refine s_step (st_alB (m := 10) (zv := zv192)) ?_
      rintro _ _ ⟨r14, rfl, rfl⟩
      refine go_ ?_
      refine s_front (a := ZB a5 (m + 17) c5) (by repeat (first | with_reducible exact Sel.here | with_reducible apply Sel.there)) ?_
      refine s_front (a := BA r14 132 (List.replicate 10 0)) (by repeat (first | with_reducible exact Sel.here | with_reducible apply Sel.there)) ?_
      refine s_drawN 2 [.q 0, .q 1, .s 2] ?_
      refine do_ ?_
      refine d_step rfl (st_cpB (b := r14) (off := 0) (n' := 10) (u := a5) (c := c5) (o := List.replicate 10 0) (s := List.replicate (m + 17) 0) (by repeat (first | with_reducible exact Upd.here | with_reducible apply Upd.there)) (by repeat (first | with_reducible exact SelR.here | with_reducible apply SelR.there)) List.length_replicate (by simp)) ?_
      rintro v Bs ⟨rfl, rfl⟩
      rw [over_zeros]
      refine do_ ?_
      refine go_ ?_
      refine s_know (a := ZB a5 (m + 17) c5) (by repeat (first | with_reducible exact Sel.here | with_reducible apply Sel.there)) SA.cap (fun hc5 => ?_)
      refine s_look (lk_slc 10 (m + 17) (cap := c5) (by omega) (by omega)) ?_
      refine s_part 10 (m + 17) (by omega) (Nat.le_refl _) (a := a5) (cap := c5) (m := m + 17) (by repeat (first | with_reducible exact Sel.here | with_reducible apply Sel.there)) ?_
      rw [show m + 17 - 10 = m + 7 by omega]
      generalize sladdr a5 1 10 c5 = a6
      generalize c5 - 10 = c6
      refine s_open (SA.cg (byR (List.replicate (m + 7) 0)) fun q hq => by unfold byR; rw [getD_zeros, getD_zeros]) ?_
      refine go_ ?_
      rw [show decide ((0 : Int) ≤ 10) = true from rfl]
      refine s_alloc fun r15 => ?_
      refine go_ ?_
      refine s_step (st_alB (m := 10) (zv := zv192)) ?_
      rintro _ _ ⟨r16, rfl, rfl⟩
      refine go_ ?_
      refine s_drawN 1 [.q 0, .q 1, .q 2, .s 3] ?_
      refine do_ ?_
      refine d_step rfl (st_cpE (b := r16) (off := 0) rfl (by repeat (first | with_reducible exact Sel.here | with_reducible apply Sel.there))) ?_
      rintro v Bs ⟨rfl, rfl⟩
      refine do_ ?_
      refine go_ ?_
      refine s_front (a := SA none 1 (.slice a6 (m + 7) c6) (m + 7) (byR (List.replicate (m + 7) 0))) (by repeat (first | with_reducible exact Sel.here | with_reducible apply Sel.there)) ?_
      refine s_step (st_callC (sp := (by repeat (first | exact Split.nil | apply Split.perx (by repeat (first | with_reducible exact Sel.here | with_reducible apply Sel.there)) (by infer_instance) | apply Split.cons (by repeat (first | with_reducible exact Sel.here | with_reducible apply Sel.there))))) (hs := rnext_c (a := a6) (c := c6) (m := m + 7) 1 (by omega) (by omega) (by omega) (by omega))) ?_
      rintro v Bs ⟨Cs, ⟨a7, c7, rfl, rfl⟩, rfl⟩
      rw [show m + 7 - 1 = m + 6 by omega]
      refine go_ ?_
      refine s_step (st_callC (sp := (by repeat (first | exact Split.nil | apply Split.perx (by repeat (first | with_reducible exact Sel.here | with_reducible apply Sel.there)) (by infer_instance) | apply Split.cons (by repeat (first | with_reducible exact Sel.here | with_reducible apply Sel.there))))) (hs := rnext_c (a := a7) (c := c7) (m := m + 6) 2 (by omega) (by omega) (by omega) (by omega))) ?_
      rintro v Bs ⟨Cs, ⟨a8, c8, rfl, rfl⟩, rfl⟩
      rw [show m + 6 - 2 = m + 4 by omega]
      refine go_ ?_
      refine s_step (st_callC (sp := (by repeat (first | exact Split.nil | apply Split.perx (by repeat (first | with_reducible exact Sel.here | with_reducible apply Sel.there)) (by infer_instance) | apply Split.cons (by repeat (first | with_reducible exact Sel.here | with_reducible apply Sel.there))))) (hs := rnext_c (a := a8) (c := c8) (m := m + 4) 4 (by omega) (by omega) (by omega) (by omega))) ?_
      rintro v Bs ⟨Cs, ⟨a9, c9, rfl, rfl⟩, rfl⟩
      rw [show m + 4 - 4 = m by omega]
      refine go_ ?_
      rw [show ((0 : Int) == 1) = false from rfl]
      refine s_look lk_eqs ?_
      refine go_ ?_
      refine s_st (c := supL g s) (c' := supL g s) (h := ?_) (hc := supL_set g s i hi8) (hl := supL_fit g s i hi8)
      rw [show decide ((0 : Int) ≤ 1) = true from rfl]
      obtain rfl : m = 232 - 18 * (i + 1) := by omega
      refine go_ ?_
      exact s_entF (by repeat (first | exact Ent.nil | refine Ent.per (by repeat (first | with_reducible exact Sel.here | with_reducible apply Sel.there)) ?_ | refine Ent.cons (by repeat (first | with_reducible exact Sel.here | with_reducible apply Sel.there)) ?_)) (s_keep _ (next (i + 1, a9, c9) (by dsimp only; omega) (by dsimp only; omega)))
    · have : i = 8 := by omega
      subst this
      refine go_ ?_
      rw [show 232 - 18 * 8 = 88 from rfl]
      refine s_loop (fun q : Nat => [(4, .pointer (some ⟨r4, 0, none⟩)), (9, .bool true), (11, .pointer (some ⟨r11, 0, none⟩)), (103, .slice a4 88 c4), (104, .int .i64 ((88 : Nat) : Int)), (105, .int .i64 q)])
        (fun _ => [Box r11 47 (supL g s), ZB a4 88 c4, Box r4 47 (.int .i64 0 :: .int .i64 0 :: .int .i64 0 :: vols0L), F]) (fun q => q ≤ 88) (fun q => 88 - q) 0 (Nat.zero_le _) (by repeat (first | exact Ent.nil | refine Ent.per (by repeat (first | with_reducible exact Sel.here | with_reducible apply Sel.there)) ?_ | refine Ent.cons (by repeat (first | with_reducible exact Sel.here | with_reducible apply Sel.there)) ?_)) ?_
      rintro q hq next
      refine go_ ?_
      refine s_if (fun h5 => ?_) (fun h5 => ?_)
      · refine go_ ?_
        rw [getD_zeros]
        refine go_ ?_
        exact s_entF (by repeat (first | exact Ent.nil | refine Ent.per (by repeat (first | with_reducible exact Sel.here | with_reducible apply Sel.there)) ?_ | refine Ent.cons (by repeat (first | with_reducible exact Sel.here | with_reducible apply Sel.there)) ?_)) (s_keep _ (next (q + 1) (by omega) (by omega)))
      · refine go_ ?_
        refine s_call (sp := (by repeat (first | exact Split.nil | apply Split.perx (by repeat (first | with_reducible exact Sel.here | with_reducible apply Sel.there)) (by infer_instance) | apply Split.cons (by repeat (first | with_reducible exact Sel.here | with_reducible apply Sel.there))))) (hs := smay_c g s hso) (h := ?_)
        rintro v Bs ⟨rfl, rfl⟩
        refine go_ ?_
        refine s_front (a := Box r4 47 (.int .i64 (g : Int) :: .int .i64 (s : Int) :: .int .i64 0 :: vols0L)) (by repeat (first | with_reducible exact Sel.here | with_reducible apply Sel.there)) (s_open (B := Box r4 47 (supL g s)) (fun _ _ q => q) ?_)
        exact s_rett (rs := [.cell 4 47, .tmp 5]) (vs := [_, _]) Try.func56 rfl (by intro j; refine RVS.cell _ _ rfl (by repeat (first | with_reducible exact Sel.here | with_reducible apply Sel.there)) (by rfl) ?_; refine RVS.tmp _ rfl ?_; exact RVS.nil) rfl (⟨rfl, rfl⟩) (by repeat (first | exact Ent.nil | refine Ent.per (by repeat (first | with_reducible exact Sel.here | with_reducible apply Sel.there)) ?_ | refine Ent.cons (by repeat (first | with_reducible exact Sel.here | with_reducible apply Sel.there)) ?_))
end Go.Proofs.Ytldonbnjefhfdaa
/- super.Newer. -/
namespace Go.Proofs.Ytldonbnjefhfdaa
open Go.Cam
set_option maxRecDepth 100000
/-- what a sector of a superblock has: none, or a superblock of a generation -/
def IsSup (s slot : Nat) (l : List Nat) : Option Nat → Prop
  | none => l.length = 256 ∧ Bys l ∧ ¬ checkOk l 1 slot
  | some g => supOk g s ∧ l = sealB ⟨1, slot, 0, 0, g⟩ (supB s 8)
set_option maxHeartbeats 4000000 in
theorem snewerB_c {a b : Option Addr} {c d : Nat} {la lb : List Nat} (s g : Nat) (ha : IsSup s 0 la none) (hb : IsSup s 1 lb (some g)) :
    Ctr Try.prog 32 [.slice a 256 c, .slice b 256 d] [SA none 1 (.slice a 256 c) 256 (byR la), SA none 1 (.slice b 256 d) 256 (byR lb)]
    (fun v Bs => v = .tuple #[.agg (supL g s).toArray, .int .i64 1, .int .i64 0] ∧ Bs = []) := by
  refine s_enter 43 [(0, _), (1, _)] (fun F => [_, _, F]) Try.func32 fun F => ?_
  refine go_ ?_
  refine s_alloc fun r4 => ?_
  refine go_ ?_
  refine s_call (sp := (by repeat (first | exact Split.nil | apply Split.perx (by repeat (first | with_reducible exact Sel.here | with_reducible apply Sel.there)) (by infer_instance) | apply Split.cons (by repeat (first | with_reducible exact Sel.here | with_reducible apply Sel.there))))) (hs := sreadBad_c la 0 ha.1 ha.2.1 ha.2.2) (h := ?_)
  rintro v Bs ⟨rfl, rfl⟩
  refine go_ ?_
  refine s_alloc fun r7 => ?_
  refine go_ ?_
  refine s_front (a := SA none 1 (.slice b 256 d) 256 (byR lb)) (by repeat (first | with_reducible exact Sel.here | with_reducible apply Sel.there)) ?_
  refine s_call (sp := (by repeat (first | exact Split.nil | apply Split.perx (by repeat (first | with_reducible exact Sel.here | with_reducible apply Sel.there)) (by infer_instance) | apply Split.cons (by repeat (first | with_reducible exact Sel.here | with_reducible apply Sel.there))))) (hs := sread_c lb g s 1 hb.1 (by omega) hb.2) (h := ?_)
  rintro v Bs ⟨rfl, rfl⟩
  refine go_ ?_
  refine s_alloc fun r9 => ?_
  refine go_ ?_
  refine s_front (a := Box r4 47 (.int .i64 (g : Int) :: .int .i64 (s : Int) :: .int .i64 0 :: vols0L)) (by repeat (first | with_reducible exact Sel.here | with_reducible apply Sel.there)) (s_open (B := Box r4 47 (supL g s)) (fun _ _ q => q) ?_)
  exact s_rett (rs := [.cell 4 47, .tmp 5, .tmp 6]) (vs := [_, _, _]) Try.func32 rfl (by intro j; refine RVS.cell _ _ rfl (by repeat (first | with_reducible exact Sel.here | with_reducible apply Sel.there)) (by rfl) ?_; refine RVS.tmp _ rfl ?_; refine RVS.tmp _ rfl ?_; exact RVS.nil) rfl (⟨rfl, rfl⟩) (by repeat (first | exact Ent.nil | refine Ent.per (by repeat (first | with_reducible exact Sel.here | with_reducible apply Sel.there)) ?_ | refine Ent.cons (by repeat (first | with_reducible exact Sel.here | with_reducible apply Sel.there)) ?_))
set_option maxHeartbeats 4000000 in
theorem snewerA_c {a b : Option Addr} {c d : Nat} {la lb : List Nat} (s g : Nat) (ha : IsSup s 0 la (some g)) (hb : IsSup s 1 lb none) :
    Ctr Try.prog 32 [.slice a 256 c, .slice b 256 d] [SA none 1 (.slice a 256 c) 256 (byR la), SA none 1 (.slice b 256 d) 256 (byR lb)]
    (fun v Bs => v = .tuple #[.agg (supL g s).toArray, .int .i64 0, .int .i64 0] ∧ Bs = []) := by
  refine s_enter 43 [(0, _), (1, _)] (fun F => [_, _, F]) Try.func32 fun F => ?_
  refine go_ ?_
  refine s_alloc fun r4 => ?_
  refine go_ ?_
  refine s_call (sp := (by repeat (first | exact Split.nil | apply Split.perx (by repeat (first | with_reducible exact Sel.here | with_reducible apply Sel.there)) (by infer_instance) | apply Split.cons (by repeat (first | with_reducible exact Sel.here | with_reducible apply Sel.there))))) (hs := sread_c la g s 0 ha.1 (by omega) ha.2) (h := ?_)
  rintro v Bs ⟨rfl, rfl⟩
  refine go_ ?_
  refine s_alloc fun r7 => ?_
  refine go_ ?_
  refine s_front (a := SA none 1 (.slice b 256 d) 256 (byR lb)) (by repeat (first | with_reducible exact Sel.here | with_reducible apply Sel.there)) ?_
  refine s_call (sp := (by repeat (first | exact Split.nil | apply Split.perx (by repeat (first | with_reducible exact Sel.here | with_reducible apply Sel.there)) (by infer_instance) | apply Split.cons (by repeat (first | with_reducible exact Sel.here | with_reducible apply Sel.there))))) (hs := sreadBad_c lb 1 hb.1 hb.2.1 hb.2.2) (h := ?_)
  rintro v Bs ⟨rfl, rfl⟩
  refine go_ ?_
  refine s_alloc fun r9 => ?_
  refine go_ ?_
  refine s_front (a := Box r4 47 (.int .i64 (g : Int) :: .int .i64 (s : Int) :: .int .i64 0 :: vols0L)) (by repeat (first | with_reducible exact Sel.here | with_reducible apply Sel.there)) (s_open (B := Box r4 47 (supL g s)) (fun _ _ q => q) ?_)
  exact s_rett (rs := [.cell 4 47, .tmp 5, .tmp 6]) (vs := [_, _, _]) Try.func32 rfl (by intro j; refine RVS.cell _ _ rfl (by repeat (first | with_reducible exact Sel.here | with_reducible apply Sel.there)) (by rfl) ?_; refine RVS.tmp _ rfl ?_; refine RVS.tmp _ rfl ?_; exact RVS.nil) rfl (⟨rfl, rfl⟩) (by repeat (first | exact Ent.nil | refine Ent.per (by repeat (first | with_reducible exact Sel.here | with_reducible apply Sel.there)) ?_ | refine Ent.cons (by repeat (first | with_reducible exact Sel.here | with_reducible apply Sel.there)) ?_))
set_option maxHeartbeats 4000000 in
theorem snewerAB_c {a b : Option Addr} {c d : Nat} {la lb : List Nat} (s g h : Nat) (hgh : g < h) (ha : IsSup s 0 la (some g)) (hb : IsSup s 1 lb (some h)) :
    Ctr Try.prog 32 [.slice a 256 c, .slice b 256 d] [SA none 1 (.slice a 256 c) 256 (byR la), SA none 1 (.slice b 256 d) 256 (byR lb)]
    (fun v Bs => v = .tuple #[.agg (supL h s).toArray, .int .i64 1, .int .i64 0] ∧ Bs = []) := by
  refine s_enter 43 [(0, _), (1, _)] (fun F => [_, _, F]) Try.func32 fun F => ?_
  refine go_ ?_
  refine s_alloc fun r4 => ?_
  refine go_ ?_
  refine s_call (sp := (by repeat (first | exact Split.nil | apply Split.perx (by repeat (first | with_reducible exact Sel.here | with_reducible apply Sel.there)) (by infer_instance) | apply Split.cons (by repeat (first | with_reducible exact Sel.here | with_reducible apply Sel.there))))) (hs := sread_c la g s 0 ha.1 (by omega) ha.2) (h := ?_)
  rintro v Bs ⟨rfl, rfl⟩
  refine go_ ?_
  refine s_alloc fun r7 => ?_
  refine go_ ?_
  refine s_front (a := SA none 1 (.slice b 256 d) 256 (byR lb)) (by repeat (first | with_reducible exact Sel.here | with_reducible apply Sel.there)) ?_
  refine s_call (sp := (by repeat (first | exact Split.nil | apply Split.perx (by repeat (first | with_reducible exact Sel.here | with_reducible apply Sel.there)) (by infer_instance) | apply Split.cons (by repeat (first | with_reducible exact Sel.here | with_reducible apply Sel.there))))) (hs := sread_c lb h s 1 hb.1 (by omega) hb.2) (h := ?_)
  rintro v Bs ⟨rfl, rfl⟩
  refine go_ ?_
  refine s_alloc fun r9 => ?_
  refine go_ ?_
  rw [show decide ((h : Int) > (g : Int)) = true from decide_eq_true (by omega)]
  refine go_ ?_
  refine s_front (a := Box r4 47 (.int .i64 (h : Int) :: .int .i64 (s : Int) :: .int .i64 0 :: vols0L)) (by repeat (first | with_reducible exact Sel.here | with_reducible apply Sel.there)) (s_open (B := Box r4 47 (supL h s)) (fun _ _ q => q) ?_)
  exact s_rett (rs := [.cell 4 47, .tmp 5, .tmp 6]) (vs := [_, _, _]) Try.func32 rfl (by intro j; refine RVS.cell _ _ rfl (by repeat (first | with_reducible exact Sel.here | with_reducible apply Sel.there)) (by rfl) ?_; refine RVS.tmp _ rfl ?_; refine RVS.tmp _ rfl ?_; exact RVS.nil) rfl (⟨rfl, rfl⟩) (by repeat (first | exact Ent.nil | refine Ent.per (by repeat (first | with_reducible exact Sel.here | with_reducible apply Sel.there)) ?_ | refine Ent.cons (by repeat (first | with_reducible exact Sel.here | with_reducible apply Sel.there)) ?_))
set_option maxHeartbeats 4000000 in
theorem snewerBA_c {a b : Option Addr} {c d : Nat} {la lb : List Nat} (s g h : Nat) (hgh : h ≤ g) (ha : IsSup s 0 la (some g)) (hb : IsSup s 1 lb (some h)) :
    Ctr Try.prog 32 [.slice a 256 c, .slice b 256 d] [SA none 1 (.slice a 256 c) 256 (byR la), SA none 1 (.slice b 256 d) 256 (byR lb)]
    (fun v Bs => v = .tuple #[.agg (supL g s).toArray, .int .i64 0, .int .i64 0] ∧ Bs = []) := by
  refine s_enter 43 [(0, _), (1, _)] (fun F => [_, _, F]) Try.func32 fun F => ?_
  refine go_ ?_
  refine s_alloc fun r4 => ?_
  refine go_ ?_
  refine s_call (sp := (by repeat (first | exact Split.nil | apply Split.perx (by repeat (first | with_reducible exact Sel.here | with_reducible apply Sel.there)) (by infer_instance) | apply Split.cons (by repeat (first | with_reducible exact Sel.here | with_reducible apply Sel.there))))) (hs := sread_c la g s 0 ha.1 (by omega) ha.2) (h := ?_)
  rintro v Bs ⟨rfl, rfl⟩
  refine go_ ?_
  refine s_alloc fun r7 => ?_
  refine go_ ?_
  refine s_front (a := SA none 1 (.slice b 256 d) 256 (byR lb)) (by repeat (first | with_reducible exact Sel.here | with_reducible apply Sel.there)) ?_
  refine s_call (sp := (by repeat (first | exact Split.nil | apply Split.perx (by repeat (first | with_reducible exact Sel.here | with_reducible apply Sel.there)) (by infer_instance) | apply Split.cons (by repeat (first | with_reducible exact Sel.here | with_reducible apply Sel.there))))) (hs := sread_c lb h s 1 hb.1 (by omega) hb.2) (h := ?_)
  rintro v Bs ⟨rfl, rfl⟩
  refine go_ ?_
  refine s_alloc fun r9 => ?_
  refine go_ ?_
  rw [show decide ((h : Int) > (g : Int)) = false from decide_eq_false (by omega)]
  refine go_ ?_
  refine s_front (a := Box r4 47 (.int .i64 (g : Int) :: .int .i64 (s : Int) :: .int .i64 0 :: vols0L)) (by repeat (first | with_reducible exact Sel.here | with_reducible apply Sel.there)) (s_open (B := Box r4 47 (supL g s)) (fun _ _ q => q) ?_)
  exact s_rett (rs := [.cell 4 47, .tmp 5, .tmp 6]) (vs := [_, _, _]) Try.func32 rfl (by intro j; refine RVS.cell _ _ rfl (by repeat (first | with_reducible exact Sel.here | with_reducible apply Sel.there)) (by rfl) ?_; refine RVS.tmp _ rfl ?_; refine RVS.tmp _ rfl ?_; exact RVS.nil) rfl (⟨rfl, rfl⟩) (by repeat (first | exact Ent.nil | refine Ent.per (by repeat (first | with_reducible exact Sel.here | with_reducible apply Sel.there)) ?_ | refine Ent.cons (by repeat (first | with_reducible exact Sel.here | with_reducible apply Sel.there)) ?_))
end Go.Proofs.Ytldonbnjefhfdaa
/- pool: write, areaAt, area. -/
namespace Go.Proofs.Ytldonbnjefhfdaa
open Go.Cam
set_option maxRecDepth 100000
def Dr.writes (σ : Dr) : List (Nat × List Nat) → Dr × Bool
  | [] => σ.flush
  | x :: ws => if (σ.write x.1 x.2).2 then (σ.write x.1 x.2).1.writes ws else ((σ.write x.1 x.2).1, false)
abbrev secRow (w : Nat → Option Addr × Nat) (ws : List (Nat × List Nat)) (i : Nat) : List Value := [.int .i64 ((ws.getD i default).1 : Nat), .slice (w i).1 256 (w i).2]
abbrev secFam (w : Nat → Option Addr × Nat) (ws : List (Nat × List Nat)) (i : Nat) : HP := SA none 1 (.slice (w i).1 256 (w i).2) 256 (byR (ws.getD i default).2)
def WsOk (n : Nat) (ws : List (Nat × List Nat)) : Prop := ∀ x ∈ ws, x.1 < n ∧ Sec x.2
theorem Dr.write_n (σ : Dr) (s : Nat) (l : List Nat) : (σ.write s l).1.n = σ.n ∧ (σ.write s l).1.steps ≤ σ.steps + 1 := by
  obtain ⟨e1, _, _, _, e5, _⟩ := σ.step_same
  unfold Dr.write; split <;> exact ⟨e1, e5⟩
set_option maxHeartbeats 4000000 in
theorem pwrite_c (b : Nat) (σ : Dr) (w : Nat → Option Addr × Nat) (ws : List (Nat × List Nat)) {a : Option Addr} {c : Nat} (hw : WsOk σ.n ws) (hst : σ.steps + ws.length < 1000000000) : Ctr Try.prog 18 [.pointer (some ⟨b, 0, none⟩), .slice a ws.length c] [DrA b σ, SA none 2 (.slice a ws.length c) ws.length (secRow w ws), Fam ws.length (secFam w ws)]
    (fun v Bs => v = .int .i64 (if (σ.writes ws).2 then 0 else 4) ∧ Bs = [DrA b (σ.writes ws).1]) := by
  refine s_enter 26 [(0, _), (1, _)] (fun F => [_, _, _, F]) Try.func18 fun F => ?_
  refine go_ ?_
  refine s_loop (fun q : Nat × Dr => [(0, .pointer (some ⟨b, 0, none⟩)), (4, .int .i64 0), (8, .slice a ws.length c), (9, .int .i64 (ws.length : Nat)), (10, .int .i64 q.1)]) (fun q => [DrA b q.2, SA none 2 (.slice a ws.length c) ws.length (secRow w ws), Fam ws.length (secFam w ws), F])
    (fun q => q.1 ≤ ws.length ∧ q.2.n = σ.n ∧ q.2.steps ≤ σ.steps + q.1 ∧ q.2.writes (ws.drop q.1) = σ.writes ws) (fun q => ws.length - q.1) (0, σ) ⟨Nat.zero_le _, rfl, Nat.le_refl _, rfl⟩ (by repeat (first | exact Ent.nil | refine Ent.per (by repeat (first | with_reducible exact Sel.here | with_reducible apply Sel.there)) ?_ | refine Ent.cons (by repeat (first | with_reducible exact Sel.here | with_reducible apply Sel.there)) ?_)) ?_
  rintro ⟨i, σi⟩ ⟨hi, hn, hs, he⟩ next
  dsimp only at hi hn hs he next ⊢
  refine go_ ?_
  refine s_if (fun h => ?_) (fun h => ?_)
  · have hi2 : i < ws.length := by omega
    have hx : ws.getD i default = ws[i] := by simp [List.getD_eq_getElem?_getD, hi2]
    have hm := hw ws[i] (List.getElem_mem hi2)
    rw [List.drop_eq_getElem_cons hi2, Dr.writes] at he
    refine go_ ?_
    refine s_alloc fun r6 => ?_
    refine go_ ?_
    refine s_get i (F := secFam w ws) (m := ws.length) (by repeat (first | with_reducible exact Sel.here | with_reducible apply Sel.there)) hi2 ?_
    refine s_open (B := SA none 1 (.slice (w i).1 256 (w i).2) 256 (byR (ws.getD i default).2)) (fun _ _ q => q) ?_
    rw [hx]
    refine s_call (sp := (by repeat (first | exact Split.nil | apply Split.perx (by repeat (first | with_reducible exact Sel.here | with_reducible apply Sel.there)) (by infer_instance) | apply Split.cons (by repeat (first | with_reducible exact Sel.here | with_reducible apply Sel.there))))) (hs := dwrite_c b σi ws[i].1 ws[i].2 (by omega) hm.2 (by omega)) (h := ?_)
    rintro v Bs ⟨rfl, rfl⟩
    cases hok : (σi.write ws[i].1 ws[i].2).2 with
    | false =>
      rw [hok] at he
      refine go_ ?_
      have e2 : σ.writes ws = ((σi.write ws[i].1 ws[i].2).1, false) := he.symm
      rw [e2]
      exact s_ret1 (rs := [.tmp 4]) Try.func18 rfl (by intro j; refine RVS.tmp _ rfl ?_; exact RVS.nil) (⟨rfl, rfl⟩) (by repeat (first | exact Ent.nil | refine Ent.per (by repeat (first | with_reducible exact Sel.here | with_reducible apply Sel.there)) ?_ | refine Ent.cons (by repeat (first | with_reducible exact Sel.here | with_reducible apply Sel.there)) ?_))
    | true =>
      rw [hok] at he
      refine go_ ?_
      obtain ⟨g1, g2⟩ := σi.write_n ws[i].1 ws[i].2
      exact s_entF (by repeat (first | exact Ent.nil | refine Ent.per (by repeat (first | with_reducible exact Sel.here | with_reducible apply Sel.there)) ?_ | refine Ent.cons (by repeat (first | with_reducible exact Sel.here | with_reducible apply Sel.there)) ?_)) (s_keep _ (next (i + 1, (σi.write ws[i].1 ws[i].2).1) ⟨by dsimp only; omega, by dsimp only; omega, by dsimp only; omega, he⟩ (by dsimp only; omega)))
  · have : i = ws.length := by omega
    subst this
    rw [List.drop_length, Dr.writes] at he
    refine go_ ?_
    refine s_call (sp := (by repeat (first | exact Split.nil | apply Split.perx (by repeat (first | with_reducible exact Sel.here | with_reducible apply Sel.there)) (by infer_instance) | apply Split.cons (by repeat (first | with_reducible exact Sel.here | with_reducible apply Sel.there))))) (hs := dflush_c b σi (by omega)) (h := ?_)
    rintro v Bs ⟨rfl, rfl⟩
    rw [he]
    refine go_ ?_
    exact s_ret1 (rs := [.tmp 4]) Try.func18 rfl (by intro j; refine RVS.tmp _ rfl ?_; exact RVS.nil) (⟨rfl, rfl⟩) (by repeat (first | exact Ent.nil | refine Ent.per (by repeat (first | with_reducible exact Sel.here | with_reducible apply Sel.there)) ?_ | refine Ent.cons (by repeat (first | with_reducible exact Sel.here | with_reducible apply Sel.there)) ?_))
theorem pwrite_n (b : Nat) (σ : Dr) (w : Nat → Option Addr × Nat) (ws : List (Nat × List Nat)) {a : Option Addr} {m c : Nat} (hm : ws.length = m) (hw : WsOk σ.n ws) (hst : σ.steps + m < 1000000000) : Ctr Try.prog 18 [.pointer (some ⟨b, 0, none⟩), .slice a m c] [DrA b σ, SA none 2 (.slice a m c) m (secRow w ws), Fam m (secFam w ws)]
    (fun v Bs => v = .int .i64 (if (σ.writes ws).2 then 0 else 4) ∧ Bs = [DrA b (σ.writes ws).1]) := by
  subst hm; exact pwrite_c b σ w ws hw hst
def areaAtN (n g : Nat) : Nat := 2 + g % 2 * areaN n
theorem areaAt_c (n g : Nat) (h : n < 100000) (hg : g < 1000000000000000) : Ctr Try.prog 33 [.int .i64 (n : Int), .int .i64 (g : Int)] [] (fun v Bs => v = .tuple #[.int .i64 (areaAtN n g : Nat), .int .i64 (areaN n : Nat)] ∧ Bs = []) := by
  refine s_enter 17 [(0, _), (1, _)] (fun F => [F]) Try.func33 fun F => ?_
  refine go_ ?_
  refine s_call (sp := (by repeat (first | exact Split.nil | apply Split.perx (by repeat (first | with_reducible exact Sel.here | with_reducible apply Sel.there)) (by infer_instance) | apply Split.cons (by repeat (first | with_reducible exact Sel.here | with_reducible apply Sel.there))))) (hs := areas_c n h) (h := ?_)
  rintro v Bs ⟨rfl, rfl⟩
  refine go_ ?_
  have ha : areaN n < 100000 := by unfold areaN; omega
  have e1 : (g : Int).tmod 2 = ((g % 2 : Nat) : Int) := by rw [Int.tmod_eq_emod_of_nonneg (by omega)]; omega
  have e2 : ((g % 2 : Nat) : Int) * ((areaN n : Nat) : Int) = ((g % 2 * areaN n : Nat) : Int) := by rw [Int.natCast_mul]
  have e3 : g % 2 * areaN n ≤ 1 * areaN n := Nat.mul_le_mul_right _ (by omega)
  rw [e1, e2, wrap_id (x := ((g % 2 * areaN n : Nat) : Int)) (by omega) (by omega), wrap_id (x := 2 + ((g % 2 * areaN n : Nat) : Int)) (by omega) (by omega), show 2 + ((g % 2 * areaN n : Nat) : Int) = ((areaAtN n g : Nat) : Int) by unfold areaAtN; omega]
  exact s_rett (rs := [.tmp 4, .tmp 5]) (vs := [_, _]) Try.func33 rfl (by intro j; refine RVS.tmp _ rfl ?_; refine RVS.tmp _ rfl ?_; exact RVS.nil) rfl (⟨rfl, rfl⟩) (by repeat (first | exact Ent.nil | refine Ent.per (by repeat (first | with_reducible exact Sel.here | with_reducible apply Sel.there)) ?_ | refine Ent.cons (by repeat (first | with_reducible exact Sel.here | with_reducible apply Sel.there)) ?_))
/-- the sectors of counts -/
def areaW (σ : Ct) (n g : Nat) (k : Nat) : List (Nat × List Nat) := (List.range k).map fun i => (areaAtN n g + i, sealB ⟨2, areaAtN n g + i, 0, 0, g⟩ (σ.bodyN i 118))
theorem areaW_len (σ : Ct) (n g k : Nat) : (areaW σ n g k).length = k := by simp [areaW]
theorem areaW_succ (σ : Ct) (n g k : Nat) : areaW σ n g (k + 1) = areaW σ n g k ++ [(areaAtN n g + k, sealB ⟨2, areaAtN n g + k, 0, 0, g⟩ (σ.bodyN k 118))] := by simp [areaW, List.range_succ]
theorem areaW_get (σ : Ct) (n g k i : Nat) (hi : i < k) : (areaW σ n g k).getD i default = (areaAtN n g + i, sealB ⟨2, areaAtN n g + i, 0, 0, g⟩ (σ.bodyN i 118)) := by simp [areaW, List.getD_eq_getElem?_getD, hi]
def wset (w : Nat → Option Addr × Nat) (i : Nat) (x : Option Addr × Nat) : Nat → Option Addr × Nat := fun q => if q = i then x else w q
theorem areaAtN_lt {n : Nat} (g : Nat) (h : 32 ≤ n) (h2 : n ≤ 2048) : areaAtN n g + areaN n < n := by
  have e3 : g % 2 * areaN n ≤ 1 * areaN n := Nat.mul_le_mul_right _ (by omega)
  unfold areaAtN
  have : 2 + 2 * areaN n < n := by unfold areaN; omega
  omega
theorem areaHd_ok {n g i : Nat} (h : 32 ≤ n) (h2 : n ≤ 2048) (hg : g ≤ 1099511627775) (hi : i < areaN n) : Head.ok ⟨2, areaAtN n g + i, 0, 0, g⟩ := by
  have := areaAtN_lt g h h2
  refine ⟨by show 1 ≤ 2; omega, by show 2 ≤ 6; omega, fun q hq => ?_⟩
  match q, hq with
  | 0, _ => exact Nat.zero_le _
  | 1, _ => show areaAtN n g + i ≤ 2047; omega
  | 2, _ => exact Nat.zero_le _
  | 3, _ => exact hg
set_option maxHeartbeats 4000000 in
theorem parea_c (b : Nat) (σ : Ct) (g : Nat) (h1 : 32 ≤ σ.n) (h2 : σ.n ≤ 2048) (hg : g ≤ 1099511627775) : Ctr Try.prog 43 [.pointer (some ⟨b, 0, none⟩), .int .i64 (σ.n : Int), .int .i64 (g : Int)] [CtA b σ]
    (fun v Bs => ∃ a c w, v = .slice a (areaN σ.n) c ∧ Bs = [CtA b σ, SA none 2 (.slice a (areaN σ.n) c) (areaN σ.n) (secRow w (areaW σ σ.n g (areaN σ.n))), Fam (areaN σ.n) (secFam w (areaW σ σ.n g (areaN σ.n)))]) := by
  have hlt := areaAtN_lt g h1 h2
  refine s_enter 45 [(0, _), (1, _), (2, _)] (fun F => [_, F]) Try.func43 fun F => ?_
  refine go_ ?_
  refine s_call (sp := (by repeat (first | exact Split.nil | apply Split.perx (by repeat (first | with_reducible exact Sel.here | with_reducible apply Sel.there)) (by infer_instance) | apply Split.cons (by repeat (first | with_reducible exact Sel.here | with_reducible apply Sel.there))))) (hs := areaAt_c σ.n g (by omega) (by omega)) (h := ?_)
  rintro v Bs ⟨rfl, rfl⟩
  refine go_ ?_
  refine s_newO (e := 61) (sz := 2) (row := secRow (fun _ => (none, 0)) (areaW σ σ.n g 0)) ?_
  refine s_fam0 (F := secFam (fun _ => (none, 0)) (areaW σ σ.n g 0)) ?_
  refine s_loop (fun q : Nat × (Nat → Option Addr × Nat) × Option Addr × Nat => [(0, .pointer (some ⟨b, 0, none⟩)), (2, .int .i64 g), (7, .int .i64 (areaAtN σ.n g : Nat)), (9, .slice q.2.2.1 q.1 q.2.2.2), (19, .int .i64 (areaN σ.n : Nat)), (20, .int .i64 q.1)])
    (fun q => [CtA b σ, SO 61 2 (.slice q.2.2.1 q.1 q.2.2.2) q.1 (secRow q.2.1 (areaW σ σ.n g q.1)), Fam q.1 (secFam q.2.1 (areaW σ σ.n g q.1)), F]) (fun q => q.1 ≤ areaN σ.n) (fun q => areaN σ.n - q.1) (0, fun _ => (none, 0), none, 0) (Nat.zero_le _) (by repeat (first | exact Ent.nil | refine Ent.per (by repeat (first | with_reducible exact Sel.here | with_reducible apply Sel.there)) ?_ | refine Ent.cons (by repeat (first | with_reducible exact Sel.here | with_reducible apply Sel.there)) ?_)) ?_
  rintro ⟨i, w, a, c⟩ hi next
  dsimp only at hi next ⊢
  refine go_ ?_
  refine s_if (fun h => ?_) (fun h => ?_)
  · have hi2 : i < areaN σ.n := by omega
    refine go_ ?_
    have hbl := σ.bodyN_len i 118
    refine s_call (sp := (by repeat (first | exact Split.nil | apply Split.perx (by repeat (first | with_reducible exact Sel.here | with_reducible apply Sel.there)) (by infer_instance) | apply Split.cons (by repeat (first | with_reducible exact Sel.here | with_reducible apply Sel.there))))) (hs := cbody_c b σ i hi2) (h := ?_)
    rintro v Bs ⟨a2, c2, rfl, rfl⟩
    refine go_ ?_
    refine s_call (sp := (by repeat (first | exact Split.nil | apply Split.perx (by repeat (first | with_reducible exact Sel.here | with_reducible apply Sel.there)) (by infer_instance) | apply Split.cons (by repeat (first | with_reducible exact Sel.here | with_reducible apply Sel.there))))) (hs := seal_n ⟨2, areaAtN σ.n g + i, 0, 0, g⟩ (σ.bodyN i 118) hbl (areaHd_ok h1 h2 hg hi2) (σ.bodyN_bys i 118) (by decide)) (h := ?_)
    rintro v Bs ⟨r, rfl, rfl⟩
    refine go_ ?_
    refine s_step (st_bs1 (sz := 2) (cells := [.int .i64 (areaAtN σ.n g + i : Nat), .slice (some ⟨r, 0, none⟩) 256 256]) rfl) ?_
    rintro _ _ ⟨a3, rfl, rfl⟩
    refine go_ ?_
    refine s_step (st_appO (a := a) (len := i) (cap := c) (b := a3) (m := 1) (c := 1) (by repeat (first | with_reducible exact Sel.here | with_reducible apply Sel.there)) (by repeat (first | with_reducible exact SelR.here | with_reducible apply SelR.there)) (by rw [flat_one]; rfl)) ?_
    rintro _ _ ⟨a4, c4, rfl, rfl⟩
    refine s_open (SO.cg (secRow (wset w i (some ⟨r, 0, none⟩, 256)) (areaW σ σ.n g (i + 1))) fun q hq => ?_) ?_
    · unfold rcat secRow wset
      by_cases hq2 : q < i
      · rw [if_pos hq2, areaW_get _ _ _ _ _ hq2, areaW_get _ _ _ _ _ hq, if_neg (by omega)]
      · have : q = i := by omega
        subst this
        rw [if_neg hq2, areaW_get _ _ _ _ _ hq, if_pos rfl]
    refine s_front (a := Fam i (secFam w (areaW σ σ.n g i))) (by repeat (first | with_reducible exact Sel.here | with_reducible apply Sel.there)) (s_open (Fam.cg (secFam (wset w i (some ⟨r, 0, none⟩, 256)) (areaW σ σ.n g (i + 1))) fun q hq H M hh => ?_) ?_)
    · unfold secFam wset at *
      rw [areaW_get _ _ _ _ _ (by omega)] at hh
      rw [areaW_get _ _ _ _ _ (by omega), if_neg (by omega)]; exact hh
    refine s_front (a := SA none 1 (.slice (some ⟨r, 0, none⟩) 256 256) 256 (byR (sealB ⟨2, areaAtN σ.n g + i, 0, 0, g⟩ (σ.bodyN i 118)))) (by repeat (first | with_reducible exact Sel.here | with_reducible apply Sel.there)) (s_open (B := secFam (wset w i (some ⟨r, 0, none⟩, 256)) (areaW σ σ.n g (i + 1)) i) (fun _ _ q => ?_) ?_)
    · unfold secFam wset; rw [areaW_get _ _ _ _ _ (by omega), if_pos rfl]; exact q
    refine s_famS (m := i) (F := secFam (wset w i (some ⟨r, 0, none⟩, 256)) (areaW σ σ.n g (i + 1))) (by repeat (first | with_reducible exact Sel.here | with_reducible apply Sel.there)) (by repeat (first | with_reducible exact Sel.here | with_reducible apply Sel.there)) ?_
    refine go_ ?_
    exact s_entF (by repeat (first | exact Ent.nil | refine Ent.per (by repeat (first | with_reducible exact Sel.here | with_reducible apply Sel.there)) ?_ | refine Ent.cons (by repeat (first | with_reducible exact Sel.here | with_reducible apply Sel.there)) ?_)) (s_keep _ (next (i + 1, wset w i (some ⟨r, 0, none⟩, 256), a4, c4) (by dsimp only; omega) (by dsimp only; omega)))
  · have : i = areaN σ.n := by omega
    subst this
    refine go_ ?_
    refine s_fzO (e := 61) (v := .slice a (areaN σ.n) c) (by repeat (first | with_reducible exact Sel.here | with_reducible apply Sel.there)) ?_
    exact s_ret1 (rs := [.tmp 6]) Try.func43 rfl (by intro j; refine RVS.tmp _ rfl ?_; exact RVS.nil) (⟨a, c, w, rfl, rfl⟩) (by repeat (first | exact Ent.nil | refine Ent.per (by repeat (first | with_reducible exact Sel.here | with_reducible apply Sel.there)) ?_ | refine Ent.cons (by repeat (first | with_reducible exact Sel.here | with_reducible apply Sel.there)) ?_))
end Go.Proofs.Ytldonbnjefhfdaa
