/- super.Read: of a sector that is none, or of a superblock without subvolumes. -/
import Derived.Test.YtgbbcpfnmkeijaaGreatGrtM
namespace Go.Proofs.YtgbbcpfnmkeijaaGreat
open Go.Cam
set_option maxRecDepth 100000
abbrev ZB (a : Option Addr) (m c : Nat) : HP := SA none 1 (.slice a m c) m (byR (List.replicate m 0))
theorem numB_zeros (n : Nat) : numB (List.replicate n 0) = 0 := by
  have h := numB_putN 0 n (Nat.pos_of_ne_zero (by simp))
  rwa [putN_zero] at h
theorem bs_zb (a : Option Addr) (m c : Nat) (H M : Heap) (h : (ZB a m c).p H M) : (BS (.slice a (List.replicate m 0).length c) (List.replicate m 0)).p H M := by
  unfold BS; rw [List.length_replicate]; exact h
/-- the next number of noughts -/
theorem rnext_c {r7 : Nat} {a : Option Addr} {c m : Nat} (n : Nat) (h1 : 1 ≤ n) (h7 : n ≤ 7) (hs : n ≤ m) (hm : m < 1000000) :
    Ctr Tryz.prog 116 [.int .i64 (n : Int), .pointer (some ⟨r7, 0, none⟩)] [Box r7 45 [.slice a m c], ZB a m c]
    (fun v Bs => ∃ a' c', v = .int .i64 0 ∧ Bs = [Box r7 45 [.slice a' (m - n) c'], ZB a' (m - n) c']) := by
  refine s_enter 16 [(0, _), (1, _)] (fun F => [_, _, F]) Tryz.func116 fun F => ?_
  refine go_ ?_
  refine s_front (a := ZB a m c) (by repeat (first | with_reducible exact Sel.here | with_reducible apply Sel.there)) (s_open (bs_zb a m c) ?_)
  have hl : (List.replicate m 0).length = m := List.length_replicate
  rw [show Value.slice a m c = Value.slice a (List.replicate m 0).length c by rw [hl]]
  refine s_call (sp := (by repeat (first | exact Split.nil | apply Split.perx (by repeat (first | with_reducible exact Sel.here | with_reducible apply Sel.there)) (by infer_instance) | apply Split.cons (by repeat (first | with_reducible exact Sel.here | with_reducible apply Sel.there))))) (hs := take_f (List.replicate m 0) n h1 h7 (by omega) (Bys.zeros _) (by omega)) (h := ?_)
  rintro v Bs ⟨a', c', rfl, rfl⟩
  rw [List.drop_replicate, List.take_replicate, numB_zeros]
  refine go_ ?_
  refine s_front (a := BS (.slice a' (List.replicate (m - n) 0).length c') (List.replicate (m - n) 0)) (by repeat (first | with_reducible exact Sel.here | with_reducible apply Sel.there)) (s_open (B := ZB a' (m - n) c') (fun _ _ q => by unfold BS at q; rw [List.length_replicate] at q; exact q) ?_)
  rw [List.length_replicate]
  exact s_ret1 (rs := [.tmp 3]) Tryz.func116 rfl (by intro j; refine RVS.tmp _ rfl ?_; exact RVS.nil) (⟨a', c', rfl, rfl⟩) (by repeat (first | exact Ent.nil | refine Ent.per (by repeat (first | with_reducible exact Sel.here | with_reducible apply Sel.there)) ?_ | refine Ent.cons (by repeat (first | with_reducible exact Sel.here | with_reducible apply Sel.there)) ?_))
theorem rnextB_c {r7 : Nat} {a : Option Addr} {c : Nat} (x m n : Nat) (h1 : 1 ≤ n) (h7 : n ≤ 7) (hx : x < 256 ^ n) (hm : n + m < 1000000) :
    Ctr Tryz.prog 116 [.int .i64 (n : Int), .pointer (some ⟨r7, 0, none⟩)] [Box r7 45 [.slice a (n + m) c], SA none 1 (.slice a (n + m) c) (n + m) (byR (putN x n ++ List.replicate m 0))]
    (fun v Bs => ∃ a' c', v = .int .i64 (x : Nat) ∧ Bs = [Box r7 45 [.slice a' m c'], ZB a' m c']) := by
  refine s_enter 16 [(0, _), (1, _)] (fun F => [_, _, F]) Tryz.func116 fun F => ?_
  refine go_ ?_
  have hl : (putN x n ++ List.replicate m 0).length = n + m := by simp [putN_len]
  rw [← hl]
  refine s_call (sp := (by repeat (first | exact Split.nil | apply Split.perx (by repeat (first | with_reducible exact Sel.here | with_reducible apply Sel.there)) (by infer_instance) | apply Split.cons (by repeat (first | with_reducible exact Sel.here | with_reducible apply Sel.there))))) (hs := take_f (putN x n ++ List.replicate m 0) n h1 h7 (by omega) ((putN_lt _ _).app (Bys.zeros _)) (by omega)) (h := ?_)
  rintro v Bs ⟨a', c', rfl, rfl⟩
  rw [drop_app (putN_len _ _), take_app (putN_len _ _), numB_putN _ _ hx]
  refine go_ ?_
  refine s_front (a := BS (.slice a' (List.replicate m 0).length c') (List.replicate m 0)) (by repeat (first | with_reducible exact Sel.here | with_reducible apply Sel.there)) (s_open (B := ZB a' m c') (fun _ _ q => by unfold BS at q; rw [List.length_replicate] at q; exact q) ?_)
  rw [List.length_replicate]
  exact s_ret1 (rs := [.tmp 3]) Tryz.func116 rfl (by intro j; refine RVS.tmp _ rfl ?_; exact RVS.nil) (⟨a', c', rfl, rfl⟩) (by repeat (first | exact Ent.nil | refine Ent.per (by repeat (first | with_reducible exact Sel.here | with_reducible apply Sel.there)) ?_ | refine Ent.cons (by repeat (first | with_reducible exact Sel.here | with_reducible apply Sel.there)) ?_))
set_option maxHeartbeats 8000000 in
theorem sreadBad_c {a : Option Addr} {c : Nat} (l : List Nat) (slot : Nat) (hl : l.length = 256) (hb : Bys l) (hno : ¬ checkOk l 1 slot) : Ctr Tryz.prog 96 [.slice a 256 c, .int .i64 (slot : Int)] [SA none 1 (.slice a 256 c) 256 (byR l)]
    (fun v Bs => v = .tuple #[.agg (supL 0 0).toArray, .int .i64 3] ∧ Bs = []) := by
  refine s_enter 124 [(0, _), (1, _)] (fun F => [_, F]) Tryz.func96 fun F => ?_
  refine go_ ?_
  refine s_alloc fun r4 => ?_
  refine go_ ?_
  refine s_call (sp := (by repeat (first | exact Split.nil | apply Split.perx (by repeat (first | with_reducible exact Sel.here | with_reducible apply Sel.there)) (by infer_instance) | apply Split.cons (by repeat (first | with_reducible exact Sel.here | with_reducible apply Sel.there))))) (hs := check_c l 1 slot hl hb) (h := ?_)
  rintro v Bs (⟨_, rfl, rfl⟩ | ⟨hok, _⟩)
  · refine go_ ?_
    refine s_alloc fun r6 => ?_
    refine s_alloc fun r7 => ?_
    refine go_ ?_
    refine s_front (a := Box r4 68 (.int .i64 0 :: .int .i64 0 :: .int .i64 0 :: vols0L)) (by repeat (first | with_reducible exact Sel.here | with_reducible apply Sel.there)) (s_open (B := Box r4 68 (supL 0 0)) (fun _ _ q => q) ?_)
    exact s_rett (rs := [.cell 4 68, .tmp 5]) (vs := [_, _]) Tryz.func96 rfl (by intro j; refine RVS.cell _ _ rfl (by repeat (first | with_reducible exact Sel.here | with_reducible apply Sel.there)) (by rfl) ?_; refine RVS.tmp _ rfl ?_; exact RVS.nil) rfl (⟨rfl, rfl⟩) (by repeat (first | exact Ent.nil | refine Ent.per (by repeat (first | with_reducible exact Sel.here | with_reducible apply Sel.there)) ?_ | refine Ent.cons (by repeat (first | with_reducible exact Sel.here | with_reducible apply Sel.there)) ?_))
  · exact absurd hok hno
end Go.Proofs.YtgbbcpfnmkeijaaGreat
/- super.Read: of a superblock without subvolumes. -/
namespace Go.Proofs.YtgbbcpfnmkeijaaGreat
open Go.Cam
set_option maxRecDepth 100000
instance eq192 : EQ Tryz.prog 174 (.agg (bcl (List.replicate 10 0)).toArray) (.agg (bcl (List.replicate 10 0)).toArray) true := ⟨fun op _ _ => by cases op <;> kernel_rfl,
  fun w => cst_run _ (by kernel_rfl : cst Tryz.prog (binOp .eql 174 (.agg (bcl (List.replicate 10 0)).toArray) (.agg (bcl (List.replicate 10 0)).toArray)) = some (.bool true)) w,
  fun w => cst_run _ (by kernel_rfl : cst Tryz.prog (binOp .neq 174 (.agg (bcl (List.replicate 10 0)).toArray) (.agg (bcl (List.replicate 10 0)).toArray)) = some (.bool (!true))) w⟩
theorem supL_set (g s : Nat) : ∀ i, i < 8 → SetsL (supL g s) (3 + i * 4) vol0L (supL g s)
  | 0, _ => by infer_instance
  | 1, _ => by infer_instance
  | 2, _ => by infer_instance
  | 3, _ => by infer_instance
  | 4, _ => by infer_instance
  | 5, _ => by infer_instance
  | 6, _ => by infer_instance
  | 7, _ => by infer_instance
theorem supL_fit (g s : Nat) : ∀ i, i < 8 → Nat.ble (3 + i * 4 + 4) (supL g s).length = true
  | 0, _ => rfl | 1, _ => rfl | 2, _ => rfl | 3, _ => rfl | 4, _ => rfl | 5, _ => rfl | 6, _ => rfl | 7, _ => rfl
theorem getD_zeros (k i : Nat) : (List.replicate k 0).getD i 0 = 0 := by
  simp only [List.getD_eq_getElem?_getD, List.getElem?_replicate]; split <;> rfl
instance : U8T Tryz.prog 5 := ⟨by kernel_rfl⟩
theorem over_zeros (m : Nat) : over (List.replicate 10 0) 0 ((List.replicate m 0).take 10) = List.replicate 10 0 := by
  unfold over
  simp only [List.take_zero, List.nil_append, List.take_replicate, List.length_replicate, List.drop_replicate, List.replicate_append_replicate]
  congr 1; omega
set_option maxHeartbeats 16000000 in
theorem sread_c {a : Option Addr} {c : Nat} (l : List Nat) (g s slot : Nat) (h : supOk g s) (hs : slot ≤ 1) (hl : l = sealB ⟨1, slot, 0, 0, g⟩ (supB s 8)) : Ctr Tryz.prog 96 [.slice a 256 c, .int .i64 (slot : Int)] [SA none 1 (.slice a 256 c) 256 (byR l)]
    (fun v Bs => v = .tuple #[.agg (supL g s).toArray, .int .i64 0] ∧ Bs = []) := by
  have hso := h
  obtain ⟨h1, h2, h3, h4⟩ := h
  have hho := supHd_ok h2 hs
  have hbl : (supB s 8).length ≤ 236 := by rw [supB_len]; decide
  obtain ⟨o1, o2, o3⟩ := open_seal hho (supB_bys s 8) hbl
  have hlen : l.length = 256 := by rw [hl, sealB_len hbl]
  have hb : Bys l := by rw [hl]; exact sealB_bys (supB_bys s 8)
  rw [← hl] at o1 o2 o3
  have o4 : l.drop 20 = putN s 2 ++ List.replicate 234 0 := by
    rw [o3, supB_len]; unfold supB
    rw [List.append_assoc, List.replicate_append_replicate]
  refine s_enter 124 [(0, _), (1, _)] (fun F => [_, F]) Tryz.func96 fun F => ?_
  refine go_ ?_
  refine s_alloc fun r4 => ?_
  refine go_ ?_
  refine s_call (sp := (by repeat (first | exact Split.nil | apply Split.perx (by repeat (first | with_reducible exact Sel.here | with_reducible apply Sel.there)) (by infer_instance) | apply Split.cons (by repeat (first | with_reducible exact Sel.here | with_reducible apply Sel.there))))) (hs := check_c l 1 slot hlen hb) (h := ?_)
  rintro v Bs (⟨hno, _⟩ | ⟨_, a1, c1, rfl, rfl⟩)
  · exact absurd ⟨o1, by rw [o2], by rw [o2]⟩ hno
  rw [o2, o4]
  refine go_ ?_
  refine s_alloc fun r6 => ?_
  refine s_alloc fun r7 => ?_
  refine go_ ?_
  refine s_call (sp := (by repeat (first | exact Split.nil | apply Split.perx (by repeat (first | with_reducible exact Sel.here | with_reducible apply Sel.there)) (by infer_instance) | apply Split.cons (by repeat (first | with_reducible exact Sel.here | with_reducible apply Sel.there))))) (hs := swithin_c (slot : Int) 0 1) (h := ?_)
  rintro v Bs ⟨rfl, rfl⟩
  rw [show decide (0 ≤ (slot : Int) ∧ (slot : Int) ≤ 1) = true from decide_eq_true (by omega)]
  refine go_ ?_
  refine s_look lk_mkf1 ?_
  refine go_ ?_
  apply s_join (α := Nat × Option Addr × Nat) (fun q => [(4, .pointer (some ⟨r4, 0, none⟩)), (7, .pointer (some ⟨r7, 0, none⟩)), (9, .bool true), (10, .func (.func 116) #[] #[.pointer (some ⟨r7, 0, none⟩)]), (11, .pointer (some ⟨q.1, 0, none⟩)), (51, .func (.func 116) #[] #[.pointer (some ⟨r7, 0, none⟩)])])
    (fun q => [Box q.1 68 (supL g s), Box r7 45 [.slice q.2.1 234 q.2.2], ZB q.2.1 234 q.2.2, Box r4 68 (.int .i64 0 :: .int .i64 0 :: .int .i64 0 :: vols0L), F]) (fun _ => True)
  case h =>
    intro K
    refine s_front (a := Box r7 45 [.slice a1 236 c1]) (by repeat (first | with_reducible exact Sel.here | with_reducible apply Sel.there)) ?_
    refine s_front (a := SA none 1 (.slice a1 236 c1) 236 (byR (putN s 2 ++ List.replicate 234 0))) (by repeat (first | with_reducible exact Sel.here | with_reducible apply Sel.there)) ?_
    refine s_drawN 2 [.q 0, .q 1, .q 2, .alt2 3 4 5, .s 6] ?_
    refine do_ ?_
    refine d_alt2 ?_ ?_
    · refine d_step rfl (st_callC (sp := (by repeat (first | exact Split.nil | apply Split.perx (by repeat (first | with_reducible exact Sel.here | with_reducible apply Sel.there)) (by infer_instance) | apply Split.cons (by repeat (first | with_reducible exact Sel.here | with_reducible apply Sel.there))))) (hs := rnextB_c s 234 2 (by omega) (by omega) (by omega) (by omega))) ?_
      rintro v Bs ⟨Cs, ⟨a2, c2, rfl, rfl⟩, rfl⟩
      refine do_ ?_
      refine d_alt ?_ ?_
      · refine d_step rfl (st_lk lk_bd2) ?_
        rintro v Bs ⟨rfl, rfl⟩
        refine do_ ?_
        refine d_step rfl st_alloc ?_
        rintro v Bs ⟨r11, rfl, rfl⟩
        refine do_ ?_
        refine d_stepU rfl st_st ?_
        rintro v Bs rfl
        refine do_ ?_
        refine go_ ?_
        refine s_front (a := Box r11 68 (.int .i64 ((⟨1, slot, 0, 0, g⟩ : Head).gen : Int) :: .int .i64 (s : Int) :: .int .i64 0 :: vols0L)) (by repeat (first | with_reducible exact Sel.here | with_reducible apply Sel.there)) (s_open (B := Box r11 68 (supL g s)) (fun _ _ q => q) ?_)
        exact s_entF (by repeat (first | exact Ent.nil | refine Ent.per (by repeat (first | with_reducible exact Sel.here | with_reducible apply Sel.there)) ?_ | refine Ent.cons (by repeat (first | with_reducible exact Sel.here | with_reducible apply Sel.there)) ?_)) (s_keep _ (K (r11, a2, c2) trivial))
      · refine d_step rfl st_alloc ?_
        rintro v Bs ⟨r11, rfl, rfl⟩
        refine do_ ?_
        refine d_step rfl (st_lk lk_bd2) ?_
        rintro v Bs ⟨rfl, rfl⟩
        refine do_ ?_
        refine d_stepU rfl st_st ?_
        rintro v Bs rfl
        refine do_ ?_
        refine go_ ?_
        refine s_front (a := Box r11 68 (.int .i64 ((⟨1, slot, 0, 0, g⟩ : Head).gen : Int) :: .int .i64 (s : Int) :: .int .i64 0 :: vols0L)) (by repeat (first | with_reducible exact Sel.here | with_reducible apply Sel.there)) (s_open (B := Box r11 68 (supL g s)) (fun _ _ q => q) ?_)
        exact s_entF (by repeat (first | exact Ent.nil | refine Ent.per (by repeat (first | with_reducible exact Sel.here | with_reducible apply Sel.there)) ?_ | refine Ent.cons (by repeat (first | with_reducible exact Sel.here | with_reducible apply Sel.there)) ?_)) (s_keep _ (K (r11, a2, c2) trivial))
    · refine d_step rfl st_alloc ?_
      rintro v Bs ⟨r11, rfl, rfl⟩
      refine do_ ?_
      refine d_step rfl (st_callC (sp := (by repeat (first | exact Split.nil | apply Split.perx (by repeat (first | with_reducible exact Sel.here | with_reducible apply Sel.there)) (by infer_instance) | apply Split.cons (by repeat (first | with_reducible exact Sel.here | with_reducible apply Sel.there))))) (hs := rnextB_c s 234 2 (by omega) (by omega) (by omega) (by omega))) ?_
      rintro v Bs ⟨Cs, ⟨a2, c2, rfl, rfl⟩, rfl⟩
      refine do_ ?_
      refine d_step rfl (st_lk lk_bd2) ?_
      rintro v Bs ⟨rfl, rfl⟩
      refine do_ ?_
      refine d_stepU rfl st_st ?_
      rintro v Bs rfl
      refine do_ ?_
      refine go_ ?_
      refine s_front (a := Box r11 68 (.int .i64 ((⟨1, slot, 0, 0, g⟩ : Head).gen : Int) :: .int .i64 (s : Int) :: .int .i64 0 :: vols0L)) (by repeat (first | with_reducible exact Sel.here | with_reducible apply Sel.there)) (s_open (B := Box r11 68 (supL g s)) (fun _ _ q => q) ?_)
      exact s_entF (by repeat (first | exact Ent.nil | refine Ent.per (by repeat (first | with_reducible exact Sel.here | with_reducible apply Sel.there)) ?_ | refine Ent.cons (by repeat (first | with_reducible exact Sel.here | with_reducible apply Sel.there)) ?_)) (s_keep _ (K (r11, a2, c2) trivial))
  case K =>
    rintro ⟨r11, a2, c2⟩ _
    dsimp only
    refine go_ ?_
    refine s_step (st_callC (sp := (by repeat (first | exact Split.nil | apply Split.perx (by repeat (first | with_reducible exact Sel.here | with_reducible apply Sel.there)) (by infer_instance) | apply Split.cons (by repeat (first | with_reducible exact Sel.here | with_reducible apply Sel.there))))) (hs := rnext_c (m := 234) 2 (by omega) (by omega) (by omega) (by omega))) ?_
    rintro v Bs ⟨Cs, ⟨a3, c3, rfl, rfl⟩, rfl⟩
    refine go_ ?_
    rw [show (234 - 2 : Nat) = 232 - 18 * 0 from rfl]
    refine s_loop (fun q : Nat × Option Addr × Nat => [(4, .pointer (some ⟨r4, 0, none⟩)), (7, .pointer (some ⟨r7, 0, none⟩)), (9, .bool true), (10, .func (.func 116) #[] #[.pointer (some ⟨r7, 0, none⟩)]), (11, .pointer (some ⟨r11, 0, none⟩)), (54, .int .i64 q.1)])
      (fun q => [Box r11 68 (supL g s), Box r7 45 [.slice q.2.1 (232 - 18 * q.1) q.2.2], ZB q.2.1 (232 - 18 * q.1) q.2.2, Box r4 68 (.int .i64 0 :: .int .i64 0 :: .int .i64 0 :: vols0L), F]) (fun q => q.1 ≤ 8) (fun q => 8 - q.1) (0, a3, c3) (Nat.zero_le _) (by repeat (first | exact Ent.nil | refine Ent.per (by repeat (first | with_reducible exact Sel.here | with_reducible apply Sel.there)) ?_ | refine Ent.cons (by repeat (first | with_reducible exact Sel.here | with_reducible apply Sel.there)) ?_)) ?_
    rintro ⟨i, a4, c4⟩ hi next
    dsimp only at hi next ⊢
    refine go_ ?_
    refine s_if (fun h5 => ?_) (fun h5 => ?_)
    · have hi8 : i < 8 := by omega
      obtain ⟨m, hm⟩ : ∃ m, 232 - 18 * i = m + 18 := ⟨214 - 18 * i, by omega⟩
      rw [hm]
      refine go_ ?_
      refine s_step (st_callC (sp := (by repeat (first | exact Split.nil | apply Split.perx (by repeat (first | with_reducible exact Sel.here | with_reducible apply Sel.there)) (by infer_instance) | apply Split.cons (by repeat (first | with_reducible exact Sel.here | with_reducible apply Sel.there))))) (hs := rnext_c (m := m + 18) 1 (by omega) (by omega) (by omega) (by omega))) ?_
      rintro v Bs ⟨Cs, ⟨a5, c5, rfl, rfl⟩, rfl⟩
      rw [show m + 18 - 1 = m + 17 by omega]
      refine go_ ?_
      refine s_look (lk_min 0) ?_
      refine go_ ?_
      refine s_step (st_alB (m := 10) (zv := zv192)) ?_
      rintro _ _ ⟨r14, rfl, rfl⟩
      refine go_ ?_
      refine s_front (a := ZB a5 (m + 17) c5) (by repeat (first | with_reducible exact Sel.here | with_reducible apply Sel.there)) ?_
      refine s_front (a := BA r14 174 (List.replicate 10 0)) (by repeat (first | with_reducible exact Sel.here | with_reducible apply Sel.there)) ?_
      refine s_drawN 2 [.q 0, .q 1, .s 2] ?_
      refine do_ ?_
      refine d_step rfl (st_cpB (b := r14) (off := 0) (n' := 10) (u := a5) (c := c5) (o := List.replicate 10 0) (s := List.replicate (m + 17) 0) (by repeat (first | with_reducible exact Upd.here | with_reducible apply Upd.there)) (by repeat (first | with_reducible exact SelR.here | with_reducible apply SelR.there)) List.length_replicate (by simp)) ?_
      rintro v Bs ⟨rfl, rfl⟩
      rw [over_zeros]
      refine do_ ?_
      refine go_ ?_
      refine s_know (a := ZB a5 (m + 17) c5) (by repeat (first | with_reducible exact Sel.here | with_reducible apply Sel.there)) SA.cap (fun hc5 => ?_)
      refine s_look (lk_slc 10 (m + 17) (cap := c5) (by omega) (by omega)) ?_
      refine s_part 10 (m + 17) (by omega) (Nat.le_refl _) (a := a5) (cap := c5) (m := m + 17) (by repeat (first | with_reducible exact Sel.here | with_reducible apply Sel.there)) ?_
      rw [show m + 17 - 10 = m + 7 by omega]
      generalize sladdr a5 1 10 c5 = a6
      generalize c5 - 10 = c6
      refine s_open (SA.cg (byR (List.replicate (m + 7) 0)) fun q hq => by unfold byR; rw [getD_zeros, getD_zeros]) ?_
      refine go_ ?_
      rw [show decide ((0 : Int) ≤ 10) = true from rfl]
      refine s_alloc fun r15 => ?_
      refine go_ ?_
      refine s_step (st_alB (m := 10) (zv := zv192)) ?_
      rintro _ _ ⟨r16, rfl, rfl⟩
      refine go_ ?_
      refine s_drawN 1 [.q 0, .q 1, .q 2, .s 3] ?_
      refine do_ ?_
      refine d_step rfl (st_cpE (b := r16) (off := 0) rfl (by repeat (first | with_reducible exact Sel.here | with_reducible apply Sel.there))) ?_
      rintro v Bs ⟨rfl, rfl⟩
      refine do_ ?_
      refine go_ ?_
      refine s_front (a := SA none 1 (.slice a6 (m + 7) c6) (m + 7) (byR (List.replicate (m + 7) 0))) (by repeat (first | with_reducible exact Sel.here | with_reducible apply Sel.there)) ?_
      refine s_step (st_callC (sp := (by repeat (first | exact Split.nil | apply Split.perx (by repeat (first | with_reducible exact Sel.here | with_reducible apply Sel.there)) (by infer_instance) | apply Split.cons (by repeat (first | with_reducible exact Sel.here | with_reducible apply Sel.there))))) (hs := rnext_c (a := a6) (c := c6) (m := m + 7) 1 (by omega) (by omega) (by omega) (by omega))) ?_
      rintro v Bs ⟨Cs, ⟨a7, c7, rfl, rfl⟩, rfl⟩
      rw [show m + 7 - 1 = m + 6 by omega]
      refine go_ ?_
      refine s_step (st_callC (sp := (by repeat (first | exact Split.nil | apply Split.perx (by repeat (first | with_reducible exact Sel.here | with_reducible apply Sel.there)) (by infer_instance) | apply Split.cons (by repeat (first | with_reducible exact Sel.here | with_reducible apply Sel.there))))) (hs := rnext_c (a := a7) (c := c7) (m := m + 6) 2 (by omega) (by omega) (by omega) (by omega))) ?_
      rintro v Bs ⟨Cs, ⟨a8, c8, rfl, rfl⟩, rfl⟩
      rw [show m + 6 - 2 = m + 4 by omega]
      refine go_ ?_
      refine s_step (st_callC (sp := (by repeat (first | exact Split.nil | apply Split.perx (by repeat (first | with_reducible exact Sel.here | with_reducible apply Sel.there)) (by infer_instance) | apply Split.cons (by repeat (first | with_reducible exact Sel.here | with_reducible apply Sel.there))))) (hs := rnext_c (a := a8) (c := c8) (m := m + 4) 4 (by omega) (by omega) (by omega) (by omega))) ?_
      rintro v Bs ⟨Cs, ⟨a9, c9, rfl, rfl⟩, rfl⟩
      rw [show m + 4 - 4 = m by omega]
      refine go_ ?_
      rw [show ((0 : Int) == 1) = false from rfl]
      refine s_look lk_eqs ?_
      refine go_ ?_
      refine s_st (c := supL g s) (c' := supL g s) (h := ?_) (hc := supL_set g s i hi8) (hl := supL_fit g s i hi8)
      rw [show decide ((0 : Int) ≤ 1) = true from rfl]
      obtain rfl : m = 232 - 18 * (i + 1) := by omega
      refine go_ ?_
      exact s_entF (by repeat (first | exact Ent.nil | refine Ent.per (by repeat (first | with_reducible exact Sel.here | with_reducible apply Sel.there)) ?_ | refine Ent.cons (by repeat (first | with_reducible exact Sel.here | with_reducible apply Sel.there)) ?_)) (s_keep _ (next (i + 1, a9, c9) (by dsimp only; omega) (by dsimp only; omega)))
    · have : i = 8 := by omega
      subst this
      refine go_ ?_
      rw [show 232 - 18 * 8 = 88 from rfl]
      refine s_loop (fun q : Nat => [(4, .pointer (some ⟨r4, 0, none⟩)), (9, .bool true), (11, .pointer (some ⟨r11, 0, none⟩)), (103, .slice a4 88 c4), (104, .int .i64 ((88 : Nat) : Int)), (105, .int .i64 q)])
        (fun _ => [Box r11 68 (supL g s), ZB a4 88 c4, Box r4 68 (.int .i64 0 :: .int .i64 0 :: .int .i64 0 :: vols0L), F]) (fun q => q ≤ 88) (fun q => 88 - q) 0 (Nat.zero_le _) (by repeat (first | exact Ent.nil | refine Ent.per (by repeat (first | with_reducible exact Sel.here | with_reducible apply Sel.there)) ?_ | refine Ent.cons (by repeat (first | with_reducible exact Sel.here | with_reducible apply Sel.there)) ?_)) ?_
      rintro q hq next
      refine go_ ?_
      refine s_if (fun h5 => ?_) (fun h5 => ?_)
      · refine go_ ?_
        rw [getD_zeros]
        refine go_ ?_
        exact s_entF (by repeat (first | exact Ent.nil | refine Ent.per (by repeat (first | with_reducible exact Sel.here | with_reducible apply Sel.there)) ?_ | refine Ent.cons (by repeat (first | with_reducible exact Sel.here | with_reducible apply Sel.there)) ?_)) (s_keep _ (next (q + 1) (by omega) (by omega)))
      · refine go_ ?_
        refine s_call (sp := (by repeat (first | exact Split.nil | apply Split.perx (by repeat (first | with_reducible exact Sel.here | with_reducible apply Sel.there)) (by infer_instance) | apply Split.cons (by repeat (first | with_reducible exact Sel.here | with_reducible apply Sel.there))))) (hs := smay_c g s hso) (h := ?_)
        rintro v Bs ⟨rfl, rfl⟩
        refine go_ ?_
        refine s_front (a := Box r4 68 (.int .i64 (g : Int) :: .int .i64 (s : Int) :: .int .i64 0 :: vols0L)) (by repeat (first | with_reducible exact Sel.here | with_reducible apply Sel.there)) (s_open (B := Box r4 68 (supL g s)) (fun _ _ q => q) ?_)
        exact s_rett (rs := [.cell 4 68, .tmp 5]) (vs := [_, _]) Tryz.func96 rfl (by intro j; refine RVS.cell _ _ rfl (by repeat (first | with_reducible exact Sel.here | with_reducible apply Sel.there)) (by rfl) ?_; refine RVS.tmp _ rfl ?_; exact RVS.nil) rfl (⟨rfl, rfl⟩) (by repeat (first | exact Ent.nil | refine Ent.per (by repeat (first | with_reducible exact Sel.here | with_reducible apply Sel.there)) ?_ | refine Ent.cons (by repeat (first | with_reducible exact Sel.here | with_reducible apply Sel.there)) ?_))
end Go.Proofs.YtgbbcpfnmkeijaaGreat
/- super.Newer. -/
namespace Go.Proofs.YtgbbcpfnmkeijaaGreat
open Go.Cam
set_option maxRecDepth 100000
/-- what a sector of a superblock has: none, or a superblock of a generation -/
def IsSup (s slot : Nat) (l : List Nat) : Option Nat → Prop
  | none => l.length = 256 ∧ Bys l ∧ ¬ checkOk l 1 slot
  | some g => supOk g s ∧ l = sealB ⟨1, slot, 0, 0, g⟩ (supB s 8)
set_option maxHeartbeats 4000000 in
theorem snewerB_c {a b : Option Addr} {c d : Nat} {la lb : List Nat} (s g : Nat) (ha : IsSup s 0 la none) (hb : IsSup s 1 lb (some g)) :
    Ctr Tryz.prog 61 [.slice a 256 c, .slice b 256 d] [SA none 1 (.slice a 256 c) 256 (byR la), SA none 1 (.slice b 256 d) 256 (byR lb)]
    (fun v Bs => v = .tuple #[.agg (supL g s).toArray, .int .i64 1, .int .i64 0] ∧ Bs = []) := by
  refine s_enter 43 [(0, _), (1, _)] (fun F => [_, _, F]) Tryz.func61 fun F => ?_
  refine go_ ?_
  refine s_alloc fun r4 => ?_
  refine go_ ?_
  refine s_call (sp := (by repeat (first | exact Split.nil | apply Split.perx (by repeat (first | with_reducible exact Sel.here | with_reducible apply Sel.there)) (by infer_instance) | apply Split.cons (by repeat (first | with_reducible exact Sel.here | with_reducible apply Sel.there))))) (hs := sreadBad_c la 0 ha.1 ha.2.1 ha.2.2) (h := ?_)
  rintro v Bs ⟨rfl, rfl⟩
  refine go_ ?_
  refine s_alloc fun r7 => ?_
  refine go_ ?_
  refine s_front (a := SA none 1 (.slice b 256 d) 256 (byR lb)) (by repeat (first | with_reducible exact Sel.here | with_reducible apply Sel.there)) ?_
  refine s_call (sp := (by repeat (first | exact Split.nil | apply Split.perx (by repeat (first | with_reducible exact Sel.here | with_reducible apply Sel.there)) (by infer_instance) | apply Split.cons (by repeat (first | with_reducible exact Sel.here | with_reducible apply Sel.there))))) (hs := sread_c lb g s 1 hb.1 (by omega) hb.2) (h := ?_)
  rintro v Bs ⟨rfl, rfl⟩
  refine go_ ?_
  refine s_alloc fun r9 => ?_
  refine go_ ?_
  refine s_front (a := Box r4 68 (.int .i64 (g : Int) :: .int .i64 (s : Int) :: .int .i64 0 :: vols0L)) (by repeat (first | with_reducible exact Sel.here | with_reducible apply Sel.there)) (s_open (B := Box r4 68 (supL g s)) (fun _ _ q => q) ?_)
  exact s_rett (rs := [.cell 4 68, .tmp 5, .tmp 6]) (vs := [_, _, _]) Tryz.func61 rfl (by intro j; refine RVS.cell _ _ rfl (by repeat (first | with_reducible exact Sel.here | with_reducible apply Sel.there)) (by rfl) ?_; refine RVS.tmp _ rfl ?_; refine RVS.tmp _ rfl ?_; exact RVS.nil) rfl (⟨rfl, rfl⟩) (by repeat (first | exact Ent.nil | refine Ent.per (by repeat (first | with_reducible exact Sel.here | with_reducible apply Sel.there)) ?_ | refine Ent.cons (by repeat (first | with_reducible exact Sel.here | with_reducible apply Sel.there)) ?_))
set_option maxHeartbeats 4000000 in
theorem snewerA_c {a b : Option Addr} {c d : Nat} {la lb : List Nat} (s g : Nat) (ha : IsSup s 0 la (some g)) (hb : IsSup s 1 lb none) :
    Ctr Tryz.prog 61 [.slice a 256 c, .slice b 256 d] [SA none 1 (.slice a 256 c) 256 (byR la), SA none 1 (.slice b 256 d) 256 (byR lb)]
    (fun v Bs => v = .tuple #[.agg (supL g s).toArray, .int .i64 0, .int .i64 0] ∧ Bs = []) := by
  refine s_enter 43 [(0, _), (1, _)] (fun F => [_, _, F]) Tryz.func61 fun F => ?_
  refine go_ ?_
  refine s_alloc fun r4 => ?_
  refine go_ ?_
  refine s_call (sp := (by repeat (first | exact Split.nil | apply Split.perx (by repeat (first | with_reducible exact Sel.here | with_reducible apply Sel.there)) (by infer_instance) | apply Split.cons (by repeat (first | with_reducible exact Sel.here | with_reducible apply Sel.there))))) (hs := sread_c la g s 0 ha.1 (by omega) ha.2) (h := ?_)
  rintro v Bs ⟨rfl, rfl⟩
  refine go_ ?_
  refine s_alloc fun r7 => ?_
  refine go_ ?_
  refine s_front (a := SA none 1 (.slice b 256 d) 256 (byR lb)) (by repeat (first | with_reducible exact Sel.here | with_reducible apply Sel.there)) ?_
  refine s_call (sp := (by repeat (first | exact Split.nil | apply Split.perx (by repeat (first | with_reducible exact Sel.here | with_reducible apply Sel.there)) (by infer_instance) | apply Split.cons (by repeat (first | with_reducible exact Sel.here | with_reducible apply Sel.there))))) (hs := sreadBad_c lb 1 hb.1 hb.2.1 hb.2.2) (h := ?_)
  rintro v Bs ⟨rfl, rfl⟩
  refine go_ ?_
  refine s_alloc fun r9 => ?_
  refine go_ ?_
  refine s_front (a := Box r4 68 (.int .i64 (g : Int) :: .int .i64 (s : Int) :: .int .i64 0 :: vols0L)) (by repeat (first | with_reducible exact Sel.here | with_reducible apply Sel.there)) (s_open (B := Box r4 68 (supL g s)) (fun _ _ q => q) ?_)
  exact s_rett (rs := [.cell 4 68, .tmp 5, .tmp 6]) (vs := [_, _, _]) Tryz.func61 rfl (by intro j; refine RVS.cell _ _ rfl (by repeat (first | with_reducible exact Sel.here | with_reducible apply Sel.there)) (by rfl) ?_; refine RVS.tmp _ rfl ?_; refine RVS.tmp _ rfl ?_; exact RVS.nil) rfl (⟨rfl, rfl⟩) (by repeat (first | exact Ent.nil | refine Ent.per (by repeat (first | with_reducible exact Sel.here | with_reducible apply Sel.there)) ?_ | refine Ent.cons (by repeat (first | with_reducible exact Sel.here | with_reducible apply Sel.there)) ?_))
set_option maxHeartbeats 4000000 in
theorem snewerAB_c {a b : Option Addr} {c d : Nat} {la lb : List Nat} (s g h : Nat) (hgh : g < h) (ha : IsSup s 0 la (some g)) (hb : IsSup s 1 lb (some h)) :
    Ctr Tryz.prog 61 [.slice a 256 c, .slice b 256 d] [SA none 1 (.slice a 256 c) 256 (byR la), SA none 1 (.slice b 256 d) 256 (byR lb)]
    (fun v Bs => v = .tuple #[.agg (supL h s).toArray, .int .i64 1, .int .i64 0] ∧ Bs = []) := by
  refine s_enter 43 [(0, _), (1, _)] (fun F => [_, _, F]) Tryz.func61 fun F => ?_
  refine go_ ?_
  refine s_alloc fun r4 => ?_
  refine go_ ?_
  refine s_call (sp := (by repeat (first | exact Split.nil | apply Split.perx (by repeat (first | with_reducible exact Sel.here | with_reducible apply Sel.there)) (by infer_instance) | apply Split.cons (by repeat (first | with_reducible exact Sel.here | with_reducible apply Sel.there))))) (hs := sread_c la g s 0 ha.1 (by omega) ha.2) (h := ?_)
  rintro v Bs ⟨rfl, rfl⟩
  refine go_ ?_
  refine s_alloc fun r7 => ?_
  refine go_ ?_
  refine s_front (a := SA none 1 (.slice b 256 d) 256 (byR lb)) (by repeat (first | with_reducible exact Sel.here | with_reducible apply Sel.there)) ?_
  refine s_call (sp := (by repeat (first | exact Split.nil | apply Split.perx (by repeat (first | with_reducible exact Sel.here | with_reducible apply Sel.there)) (by infer_instance) | apply Split.cons (by repeat (first | with_reducible exact Sel.here | with_reducible apply Sel.there))))) (hs := sread_c lb h s 1 hb.1 (by omega) hb.2) (h := ?_)
  rintro v Bs ⟨rfl, rfl⟩
  refine go_ ?_
  refine s_alloc fun r9 => ?_
  refine go_ ?_
  rw [show decide ((h : Int) > (g : Int)) = true from decide_eq_true (by omega)]
  refine go_ ?_
  refine s_front (a := Box r4 68 (.int .i64 (h : Int) :: .int .i64 (s : Int) :: .int .i64 0 :: vols0L)) (by repeat (first | with_reducible exact Sel.here | with_reducible apply Sel.there)) (s_open (B := Box r4 68 (supL h s)) (fun _ _ q => q) ?_)
  exact s_rett (rs := [.cell 4 68, .tmp 5, .tmp 6]) (vs := [_, _, _]) Tryz.func61 rfl (by intro j; refine RVS.cell _ _ rfl (by repeat (first | with_reducible exact Sel.here | with_reducible apply Sel.there)) (by rfl) ?_; refine RVS.tmp _ rfl ?_; refine RVS.tmp _ rfl ?_; exact RVS.nil) rfl (⟨rfl, rfl⟩) (by repeat (first | exact Ent.nil | refine Ent.per (by repeat (first | with_reducible exact Sel.here | with_reducible apply Sel.there)) ?_ | refine Ent.cons (by repeat (first | with_reducible exact Sel.here | with_reducible apply Sel.there)) ?_))
set_option maxHeartbeats 4000000 in
theorem snewerBA_c {a b : Option Addr} {c d : Nat} {la lb : List Nat} (s g h : Nat) (hgh : h ≤ g) (ha : IsSup s 0 la (some g)) (hb : IsSup s 1 lb (some h)) :
    Ctr Tryz.prog 61 [.slice a 256 c, .slice b 256 d] [SA none 1 (.slice a 256 c) 256 (byR la), SA none 1 (.slice b 256 d) 256 (byR lb)]
    (fun v Bs => v = .tuple #[.agg (supL g s).toArray, .int .i64 0, .int .i64 0] ∧ Bs = []) := by
  refine s_enter 43 [(0, _), (1, _)] (fun F => [_, _, F]) Tryz.func61 fun F => ?_
  refine go_ ?_
  refine s_alloc fun r4 => ?_
  refine go_ ?_
  refine s_call (sp := (by repeat (first | exact Split.nil | apply Split.perx (by repeat (first | with_reducible exact Sel.here | with_reducible apply Sel.there)) (by infer_instance) | apply Split.cons (by repeat (first | with_reducible exact Sel.here | with_reducible apply Sel.there))))) (hs := sread_c la g s 0 ha.1 (by omega) ha.2) (h := ?_)
  rintro v Bs ⟨rfl, rfl⟩
  refine go_ ?_
  refine s_alloc fun r7 => ?_
  refine go_ ?_
  refine s_front (a := SA none 1 (.slice b 256 d) 256 (byR lb)) (by repeat (first | with_reducible exact Sel.here | with_reducible apply Sel.there)) ?_
  refine s_call (sp := (by repeat (first | exact Split.nil | apply Split.perx (by repeat (first | with_reducible exact Sel.here | with_reducible apply Sel.there)) (by infer_instance) | apply Split.cons (by repeat (first | with_reducible exact Sel.here | with_reducible apply Sel.there))))) (hs := sread_c lb h s 1 hb.1 (by omega) hb.2) (h := ?_)
  rintro v Bs ⟨rfl, rfl⟩
  refine go_ ?_
  refine s_alloc fun r9 => ?_
  refine go_ ?_
  rw [show decide ((h : Int) > (g : Int)) = false from decide_eq_false (by omega)]
  refine go_ ?_
  refine s_front (a := Box r4 68 (.int .i64 (g : Int) :: .int .i64 (s : Int) :: .int .i64 0 :: vols0L)) (by repeat (first | with_reducible exact Sel.here | with_reducible apply Sel.there)) (s_open (B := Box r4 68 (supL g s)) (fun _ _ q => q) ?_)
  exact s_rett (rs := [.cell 4 68, .tmp 5, .tmp 6]) (vs := [_, _, _]) Tryz.func61 rfl (by intro j; refine RVS.cell _ _ rfl (by repeat (first | with_reducible exact Sel.here | with_reducible apply Sel.there)) (by rfl) ?_; refine RVS.tmp _ rfl ?_; refine RVS.tmp _ rfl ?_; exact RVS.nil) rfl (⟨rfl, rfl⟩) (by repeat (first | exact Ent.nil | refine Ent.per (by repeat (first | with_reducible exact Sel.here | with_reducible apply Sel.there)) ?_ | refine Ent.cons (by repeat (first | with_reducible exact Sel.here | with_reducible apply Sel.there)) ?_))
end Go.Proofs.YtgbbcpfnmkeijaaGreat
