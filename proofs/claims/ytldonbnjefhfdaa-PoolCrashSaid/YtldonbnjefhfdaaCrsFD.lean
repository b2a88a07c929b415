/- PoolCrash. -/
import Derived.Test.YtldonbnjefhfdaaCrsT1
import Derived.Test.YtldonbnjefhfdaaCrsBB
namespace Go.Proofs.Ytldonbnjefhfdaa
open Go.Cam
set_option maxRecDepth 100000
set_option maxHeartbeats 32000000 in
theorem crash_c (n : Int) (hn : -9223372036854775808 ≤ n ∧ n ≤ 9223372036854775807) {a0 a1 : Option Addr} {c0 c1 : Nat} (w0 w1 : Nat → Option Addr × Nat) (l0 l1 : List (List Nat)) (hl0 : l0.length < 9223372036854775808) (hl1 : l1.length < 9223372036854775808)
    (hb0 : ∀ i, i < l0.length → Bys (l0.getD i [])) (hb1 : ∀ i, i < l1.length → Bys (l1.getD i [])) (st : Int) (hst : -9223372036854775808 ≤ st ∧ st ≤ 9223372036854775807) {ka : Option Addr} {kc : Nat} (keep : List Int) (hkl : keep.length < 9223372036854775808) (hko : KeepOk keep) :
    Ctr Try.prog 3 [.int .i64 n, .agg #[.slice a0 l0.length c0, .slice a1 l1.length c1], .agg #[.int .i64 st, .slice ka keep.length kc]]
    [SA none 1 (.slice a0 l0.length c0) l0.length (blR w0 l0), Fam l0.length (blF w0 l0), SA none 1 (.slice a1 l1.length c1) l1.length (blR w1 l1), Fam l1.length (blF w1 l1), SA none 1 (.slice ka keep.length kc) keep.length (pathR keep)] (fun v Bs => v = .bool true ∧ Bs = []) := by
  refine s_enter 215 [(0, _), (1, _), (2, _)] (fun F => [_, _, _, _, _, F]) Try.func3 fun F => ?_
  refine go_ ?_
  refine s_box fun r4 => ?_
  refine s_box fun r5 => ?_
  refine go_ ?_
  refine s_call (sp := (by repeat (first | exact Split.nil | apply Split.perx (by repeat (first | with_reducible exact Sel.here | with_reducible apply Sel.there)) (by infer_instance) | apply Split.cons (by repeat (first | with_reducible exact Sel.here | with_reducible apply Sel.there))))) (hs := shown9_c) (h := ?_)
  rintro v Bs ⟨rfl, rfl⟩
  refine go_ ?_
  refine s_call (sp := (by repeat (first | exact Split.nil | apply Split.perx (by repeat (first | with_reducible exact Sel.here | with_reducible apply Sel.there)) (by infer_instance) | apply Split.cons (by repeat (first | with_reducible exact Sel.here | with_reducible apply Sel.there))))) (hs := kind_c n 32 hn (by decide) (by decide)) (h := ?_)
  rintro v Bs ⟨rfl, rfl⟩
  have hk := kindI_lt n (show 0 < 32 by decide)
  generalize hK : kindI n 32 = k0 at *
  refine go_ ?_
  rw [show (32 : Int) + (k0 : Int) = ((32 + k0 : Nat) : Int) by omega]
  generalize hKK : 32 + k0 = N at *
  have hN1 : 32 ≤ N := by omega
  have hN2 : N ≤ 63 := by omega
  refine s_call (sp := (by repeat (first | exact Split.nil | apply Split.perx (by repeat (first | with_reducible exact Sel.here | with_reducible apply Sel.there)) (by infer_instance) | apply Split.cons (by repeat (first | with_reducible exact Sel.here | with_reducible apply Sel.there))))) (hs := dnew_c N hN1 (by omega)) (h := ?_)
  rintro v Bs ⟨b, rfl, rfl⟩
  have hon0 : (Dr.new N).on := ⟨rfl, by show (-1 : Int) < 0; decide⟩
  obtain ⟨f1, f2, f3, f4⟩ := Dr.fmt_mnt hon0 (by exact hN1) (by show N ≤ 2048; omega)
  have f5 := fmt_sup hon0 (by exact hN1) (by show N ≤ 2048; omega)
  have f4' : (Dr.new N).fmt.steps ≤ 200 := by have : (Dr.new N).steps = 0 := rfl; omega
  refine go_ ?_
  refine s_call (sp := (by repeat (first | exact Split.nil | apply Split.perx (by repeat (first | with_reducible exact Sel.here | with_reducible apply Sel.there)) (by infer_instance) | apply Split.cons (by repeat (first | with_reducible exact Sel.here | with_reducible apply Sel.there))))) (hs := pformat_c b (Dr.new N) hon0 (by show 0 < _; decide) (by exact hN1) (by show N ≤ 2048; omega)) (h := ?_)
  rintro v Bs ⟨p, bc, m, rfl, rfl⟩
  have f2 : (Dr.new N).fmt.n = N := f2
  have f5 : IsSup N (1 % 2) ((Dr.new N).fmt.lastS (1 % 2)) (some 1) := f5
  generalize (Dr.new N).fmt = σd at *
  have hfN : firstN N = 4 := by unfold firstN areaN; omega
  have haN : areaN N = 1 := by unfold areaN; omega
  have t0 : Tx N (Ct.new N) 0 l0 [] (Ct.new N) (fun _ => none) := Tx.begin rfl ⟨fun _ _ _ => ⟨rfl, rfl⟩⟩ (fun _ => Nat.zero_le _) (fun _ h => absurd rfl h)
  refine go_ ?_
  rw [show (Dr.new N).n = N from rfl]
  refine s_obs0 ?_
  refine s_front (a := MG m (fun _ => none)) (by repeat (first | with_reducible exact Sel.here | with_reducible apply Sel.there)) (s_open (B := MG m (bmap fun _ => none)) (fun _ _ q => q) ?_)
  refine s_look (lk_bda (ps := []) (sz := 1) #[.slice none 0 0, .slice none 0 0]) ?_
  refine s_alloc fun r12 => ?_
  refine go_ ?_
  refine s_unroll ?_
  refine go_ ?_
  apply s_join (α := List Int × (Option Addr × Nat) × Ct × (Int → Option OB)) (fun q => [(4, .pointer (some ⟨r4, 0, none⟩)), (5, .pointer (some ⟨r5, 0, none⟩)), (8, .pointer (some ⟨b, 0, none⟩)), (10, .pointer (some ⟨p, 0, none⟩)), (12, .pointer (some ⟨r12, 0, none⟩)), (98, .bool true), (99, .pointer (some ⟨p, 0, none⟩)), (13, .int .i64 0)])
    (fun q => [Box r12 36 [.slice q.2.1.1 q.1.length q.2.1.2, .slice none 0 0], SO 3 1 (.slice q.2.1.1 q.1.length q.2.1.2) q.1.length (pathR q.1), PoB p b 1 N bc m, CtA bc q.2.2.1, MG m (bmap q.2.2.2), Obs q.2.2.2, DrA b σd, Box r5 26 [.int .i64 st, .slice ka keep.length kc], Box r4 23 [.slice a0 l0.length c0, .slice a1 l1.length c1], SA none 1 (.slice a0 l0.length c0) l0.length (blR w0 l0), Fam l0.length (blF w0 l0), SA none 1 (.slice a1 l1.length c1) l1.length (blR w1 l1), Fam l1.length (blF w1 l1), SA none 1 (.slice ka keep.length kc) keep.length (pathR keep), F]) (fun q => q.1.length ≤ 8 ∧ Tx N (Ct.new N) (0 + q.1.length) l0 q.1 q.2.2.1 q.2.2.2)
  case h =>
    intro K
    refine s_newO (e := 3) (sz := 1) (row := pathR []) ?_
    refine s_open (B := SO 3 1 (.slice none ([] : List Int).length 0) ([] : List Int).length (pathR [])) (fun _ _ q => q) ?_
    refine s_front (a := Box r12 36 [.slice none 0 0, .slice none 0 0]) (by repeat (first | with_reducible exact Sel.here | with_reducible apply Sel.there)) (s_open (B := Box r12 36 [.slice none ([] : List Int).length 0, .slice none 0 0]) (fun _ _ q => q) ?_)
    refine s_loop (fun q : Nat × List Int × (Option Addr × Nat) × Ct × (Int → Option OB) => [(4, .pointer (some ⟨r4, 0, none⟩)), (5, .pointer (some ⟨r5, 0, none⟩)), (8, .pointer (some ⟨b, 0, none⟩)), (10, .pointer (some ⟨p, 0, none⟩)), (12, .pointer (some ⟨r12, 0, none⟩)), (13, .int .i64 0), (14, .int .i64 q.1)])
      (fun q => [Box r12 36 [.slice q.2.2.1.1 q.2.1.length q.2.2.1.2, .slice none 0 0], SO 3 1 (.slice q.2.2.1.1 q.2.1.length q.2.2.1.2) q.2.1.length (pathR q.2.1), PoB p b 1 N bc m, CtA bc q.2.2.2.1, MG m (bmap q.2.2.2.2), Obs q.2.2.2.2, DrA b σd, Box r5 26 [.int .i64 st, .slice ka keep.length kc], Box r4 23 [.slice a0 l0.length c0, .slice a1 l1.length c1], SA none 1 (.slice a0 l0.length c0) l0.length (blR w0 l0), Fam l0.length (blF w0 l0), SA none 1 (.slice a1 l1.length c1) l1.length (blR w1 l1), Fam l1.length (blF w1 l1), SA none 1 (.slice ka keep.length kc) keep.length (pathR keep), F])
      (fun q => q.1 ≤ 8 ∧ q.2.1.length = q.1 ∧ Tx N (Ct.new N) (0 + q.2.1.length) l0 q.2.1 q.2.2.2.1 q.2.2.2.2) (fun q => 8 - q.1) (0, [], (none, 0), (Ct.new N), fun _ => none)
      ⟨Nat.zero_le _, rfl, t0⟩ (by repeat (first | exact Ent.nil | refine Ent.per (by repeat (first | with_reducible exact Sel.here | with_reducible apply Sel.there)) ?_ | refine Ent.cons (by repeat (first | with_reducible exact Sel.here | with_reducible apply Sel.there)) ?_)) ?_
    rintro ⟨i, ks, ⟨ak, ck⟩, σ, g⟩ ⟨hi, hki, htx⟩ next
    dsimp only at hi hki htx next ⊢
    refine go_ ?_
    cases h1 : decide ((i : Int) < (l0.length : Int)) with
    | false =>
      refine go_ ?_
      exact s_entF (by repeat (first | exact Ent.nil | refine Ent.per (by repeat (first | with_reducible exact Sel.here | with_reducible apply Sel.there)) ?_ | refine Ent.cons (by repeat (first | with_reducible exact Sel.here | with_reducible apply Sel.there)) ?_)) (s_keep _ (K (ks, (ak, ck), σ, g) ⟨by dsimp only; omega, htx⟩))
    | true =>
      have h1' := of_decide_eq_true h1
      have hi2 : i < l0.length := by omega
      refine go_ ?_
      refine s_if (fun h2 => ?_) (fun h2 => ?_)
      · refine go_ ?_
        generalize hL : l0.getD i [] = li at *
        generalize hW : w0 i = wi at *
        refine s_get i (F := blF w0 l0) (m := l0.length) (by repeat (first | with_reducible exact Sel.here | with_reducible apply Sel.there)) hi2 ?_
        refine s_open (B := BS (.slice wi.1 li.length wi.2) li) (fun _ _ q => by rw [← hW, ← hL]; exact q) ?_
        refine s_know (a := BS (.slice wi.1 li.length wi.2) li) (by repeat (first | with_reducible exact Sel.here | with_reducible apply Sel.there)) (fun H M q => SA.cap H M q) fun hcap => ?_
        have hli : Bys li := by rw [← hL]; exact hb0 i hi2
        apply s_join (α := Nat) (fun q => [(4, .pointer (some ⟨r4, 0, none⟩)), (5, .pointer (some ⟨r5, 0, none⟩)), (8, .pointer (some ⟨b, 0, none⟩)), (10, .pointer (some ⟨p, 0, none⟩)), (12, .pointer (some ⟨r12, 0, none⟩)), (13, .int .i64 0), (14, .int .i64 i), (15, .slice wi.1 (li.take 128).length q), (81, .pointer (some ⟨p, 0, none⟩)), (82, .slice wi.1 (li.take 128).length q)])
          (fun q => [BS (.slice wi.1 (li.take 128).length q) (li.take 128), Box r12 36 [.slice ak ks.length ck, .slice none 0 0], SO 3 1 (.slice ak ks.length ck) ks.length (pathR ks), PoB p b 1 N bc m, CtA bc σ, MG m (bmap g), Obs g, DrA b σd, Box r5 26 [.int .i64 st, .slice ka keep.length kc], Box r4 23 [.slice a0 l0.length c0, .slice a1 l1.length c1], SA none 1 (.slice a0 l0.length c0) l0.length (blR w0 l0), Fam l0.length (blF w0 l0), SA none 1 (.slice a1 l1.length c1) l1.length (blR w1 l1), Fam l1.length (blF w1 l1), SA none 1 (.slice ka keep.length kc) keep.length (pathR keep), F]) (fun _ => True)
        case h =>
          intro K2
          refine s_if (fun h3 => ?_) (fun h3 => ?_)
          · refine go_ ?_
            refine s_look (lk_slc (a := wi.1) (len := li.length) (cap := wi.2) 0 128 (by omega) (by omega)) ?_
            refine s_part 0 128 (by omega) (by omega) (a := wi.1) (m := li.length) (cap := wi.2) (by repeat (first | with_reducible exact Sel.here | with_reducible apply Sel.there)) ?_
            refine s_open (BS.part li 128 (by omega)) ?_
            refine go_ ?_
            rw [sladdr0, show (128 - 0 : Nat) = (li.take 128).length by rw [List.length_take]; omega]
            exact s_entF (by repeat (first | exact Ent.nil | refine Ent.per (by repeat (first | with_reducible exact Sel.here | with_reducible apply Sel.there)) ?_ | refine Ent.cons (by repeat (first | with_reducible exact Sel.here | with_reducible apply Sel.there)) ?_)) (s_keep _ (K2 _ trivial))
          · refine go_ ?_
            have et : li.take 128 = li := List.take_of_length_le (by omega)
            rw [et] at K2
            exact s_entF (by repeat (first | exact Ent.nil | refine Ent.per (by repeat (first | with_reducible exact Sel.here | with_reducible apply Sel.there)) ?_ | refine Ent.cons (by repeat (first | with_reducible exact Sel.here | with_reducible apply Sel.there)) ?_)) (s_keep _ (K2 _ trivial))
        case K =>
          intro cq _
          have hl8 : (li.take 128).length ≤ 128 := by rw [List.length_take]; omega
          have hbt : Bys (li.take 128) := fun x hx => hli x (List.mem_of_mem_take hx)
          have hsn := htx.n
          obtain ⟨j, j1, j2, j3, j4⟩ := htx.fr.some (by rw [hsn]; omega)
          rw [hsn] at j2 j3
          have q1 := fun a c => htx.put j2 j3 (by omega) j4 (by omega) (by rw [hki, hL]; exact hbt) a c
          rw [hki, hL] at q1
          generalize li.take 128 = lt at *
          refine go_ ?_
          refine s_call (sp := (by repeat (first | exact Split.nil | apply Split.perx (by repeat (first | with_reducible exact Sel.here | with_reducible apply Sel.there)) (by infer_instance) | apply Split.cons (by repeat (first | with_reducible exact Sel.here | with_reducible apply Sel.there))))) (hs := pputB_c p b 1 N bc m σ g (a := wi.1) (c := cq) lt hl8) (h := ?_)
          rintro v Bs (⟨j', a2, c2, hj', rfl, rfl⟩ | ⟨hj', _⟩)
          · rw [j1] at hj'; cases hj'
            have q1 := q1 a2 c2
            refine go_ ?_
            refine s_step (st_bs1 (sz := 1) (cells := [.int .i64 j]) rfl) ?_
            rintro _ _ ⟨a3, rfl, rfl⟩
            refine go_ ?_
            refine s_step (st_appO (a := ak) (len := ks.length) (cap := ck) (b := a3) (m := 1) (c := 1) (by repeat (first | with_reducible exact Sel.here | with_reducible apply Sel.there)) (by repeat (first | with_reducible exact SelR.here | with_reducible apply SelR.there)) (by rw [flat_one]; rfl)) ?_
            rintro _ _ ⟨a4, c4, rfl, rfl⟩
            refine s_open (SO.cg (pathR (ks ++ [(j : Int)])) fun q hq => ?_) ?_
            · unfold rcat pathR
              by_cases hq2 : q < ks.length
              · rw [if_pos hq2, List.getD_eq_getElem?_getD, List.getD_eq_getElem?_getD, List.getElem?_append_left hq2]
              · have : q = ks.length := by omega
                subst this
                rw [if_neg hq2]; simp [List.getD_eq_getElem?_getD]
            rw [show ks.length + 1 = (ks ++ [(j : Int)]).length by simp]
            refine go_ ?_
            exact s_entF (by repeat (first | exact Ent.nil | refine Ent.per (by repeat (first | with_reducible exact Sel.here | with_reducible apply Sel.there)) ?_ | refine Ent.cons (by repeat (first | with_reducible exact Sel.here | with_reducible apply Sel.there)) ?_)) (s_keep _ (next (i + 1, ks ++ [(j : Int)], (a4, c4), { σ with now := nset σ.now j 1 }, bset g (j : Int) ⟨5, lt, a2, c2⟩) ⟨by dsimp only; omega, by simp [hki], by dsimp only; rw [List.length_append, List.length_singleton, ← Nat.add_assoc, hki]; exact q1⟩ (by dsimp only; omega)))
          · rw [j1] at hj'; cases hj'
      · refine go_ ?_
        exact s_entF (by repeat (first | exact Ent.nil | refine Ent.per (by repeat (first | with_reducible exact Sel.here | with_reducible apply Sel.there)) ?_ | refine Ent.cons (by repeat (first | with_reducible exact Sel.here | with_reducible apply Sel.there)) ?_)) (s_keep _ (K (ks, (ak, ck), σ, g) ⟨by dsimp only; omega, htx⟩))
  case K =>
    rintro ⟨ks0, ⟨ak0, ck0⟩, σ1, g1⟩ ⟨hk0, h1⟩
    dsimp only at hk0 h1 ⊢
    rw [Nat.zero_add] at h1
    have hc1 := h1.cmt hN1 (by omega)
    have hn1 := h1.n
    have hpc := pcommit_c p b 1 bc m σ1 g1 σd (by omega) (by omega) (by omega) (by omega) (by decide) hc1.bm
    rw [hn1, show (1 : Nat) + 1 = 2 from rfl, show (⟨N, σ1.now, σ1.now⟩ : Ct) = { σ1 with done := σ1.now } by rw [← hn1]] at hpc
    obtain ⟨o1, o2, o3, _, _, o6⟩ := Dr.on_commit f1 σ1 g1 2
    have o7 := Dr.commit_st σd σ1 g1 2
    rw [hn1, haN] at o7
    rw [o1] at hpc
    have t1 : Tx N { σ1 with done := σ1.now } ks0.length l1 [] { σ1 with done := σ1.now } (fun _ => none) := h1.next
    have hTT := fun (ks1 : List Int) (σ2 : Ct) (g2 : Int → Option OB) (h2 : Tx N { σ1 with done := σ1.now } (ks0.length + ks1.length) l1 ks1 σ2 g2) (s : Nat) => two_tx hN1 hN2 f1 f2 f5 h1 h2 s keep rfl
    refine s_call (sp := (by repeat (first | exact Split.nil | apply Split.perx (by repeat (first | with_reducible exact Sel.here | with_reducible apply Sel.there)) (by infer_instance) | apply Split.cons (by repeat (first | with_reducible exact Sel.here | with_reducible apply Sel.there))))) (hs := hpc) (h := ?_)
    rintro v Bs (⟨_, rfl, rfl⟩ | ⟨hf, _⟩)
    rotate_left
    · cases hf
    generalize hσd1 : (σd.commit σ1 g1 2).1 = σd1 at *
    refine go_ ?_
    refine s_again ?_
    refine s_front (a := MG m (fun _ => none)) (by repeat (first | with_reducible exact Sel.here | with_reducible apply Sel.there)) (s_open (B := MG m (bmap fun _ => none)) (fun _ _ q => q) ?_)
    refine s_obs0 ?_
    refine go_ ?_
    apply s_join (α := List Int × (Option Addr × Nat) × Ct × (Int → Option OB)) (fun q => [(4, .pointer (some ⟨r4, 0, none⟩)), (5, .pointer (some ⟨r5, 0, none⟩)), (8, .pointer (some ⟨b, 0, none⟩)), (10, .pointer (some ⟨p, 0, none⟩)), (12, .pointer (some ⟨r12, 0, none⟩)), (103, .pointer (some ⟨b, 0, none⟩)), (105, .int .i64 st)])
      (fun q => [Box r12 36 [.slice ak0 ks0.length ck0, .slice q.2.1.1 q.1.length q.2.1.2], SO 3 1 (.slice q.2.1.1 q.1.length q.2.1.2) q.1.length (pathR q.1), SO 3 1 (.slice ak0 ks0.length ck0) ks0.length (pathR ks0), PoB p b 2 N bc m, CtA bc q.2.2.1, MG m (bmap q.2.2.2), Obs q.2.2.2, DrA b σd1, Box r5 26 [.int .i64 st, .slice ka keep.length kc], Box r4 23 [.slice a0 l0.length c0, .slice a1 l1.length c1], SA none 1 (.slice a0 l0.length c0) l0.length (blR w0 l0), Fam l0.length (blF w0 l0), SA none 1 (.slice a1 l1.length c1) l1.length (blR w1 l1), Fam l1.length (blF w1 l1), SA none 1 (.slice ka keep.length kc) keep.length (pathR keep), F]) (fun q => q.1.length ≤ 8 ∧ Tx N { σ1 with done := σ1.now } (ks0.length + q.1.length) l1 q.1 q.2.2.1 q.2.2.2)
    case h =>
      intro K
      refine s_newO (e := 3) (sz := 1) (row := pathR []) ?_
      refine s_open (B := SO 3 1 (.slice none ([] : List Int).length 0) ([] : List Int).length (pathR [])) (fun _ _ q => q) ?_
      refine s_front (a := Box r12 36 [.slice ak0 ks0.length ck0, .slice none 0 0]) (by repeat (first | with_reducible exact Sel.here | with_reducible apply Sel.there)) (s_open (B := Box r12 36 [.slice ak0 ks0.length ck0, .slice none ([] : List Int).length 0]) (fun _ _ q => q) ?_)
      refine s_loop (fun q : Nat × List Int × (Option Addr × Nat) × Ct × (Int → Option OB) => [(4, .pointer (some ⟨r4, 0, none⟩)), (5, .pointer (some ⟨r5, 0, none⟩)), (8, .pointer (some ⟨b, 0, none⟩)), (10, .pointer (some ⟨p, 0, none⟩)), (12, .pointer (some ⟨r12, 0, none⟩)), (13, .int .i64 1), (14, .int .i64 q.1)])
        (fun q => [Box r12 36 [.slice ak0 ks0.length ck0, .slice q.2.2.1.1 q.2.1.length q.2.2.1.2], SO 3 1 (.slice q.2.2.1.1 q.2.1.length q.2.2.1.2) q.2.1.length (pathR q.2.1), SO 3 1 (.slice ak0 ks0.length ck0) ks0.length (pathR ks0), PoB p b 2 N bc m, CtA bc q.2.2.2.1, MG m (bmap q.2.2.2.2), Obs q.2.2.2.2, DrA b σd1, Box r5 26 [.int .i64 st, .slice ka keep.length kc], Box r4 23 [.slice a0 l0.length c0, .slice a1 l1.length c1], SA none 1 (.slice a0 l0.length c0) l0.length (blR w0 l0), Fam l0.length (blF w0 l0), SA none 1 (.slice a1 l1.length c1) l1.length (blR w1 l1), Fam l1.length (blF w1 l1), SA none 1 (.slice ka keep.length kc) keep.length (pathR keep), F])
        (fun q => q.1 ≤ 8 ∧ q.2.1.length = q.1 ∧ Tx N { σ1 with done := σ1.now } (ks0.length + q.2.1.length) l1 q.2.1 q.2.2.2.1 q.2.2.2.2) (fun q => 8 - q.1) (0, [], (none, 0), { σ1 with done := σ1.now }, fun _ => none)
        ⟨Nat.zero_le _, rfl, t1⟩ (by repeat (first | exact Ent.nil | refine Ent.per (by repeat (first | with_reducible exact Sel.here | with_reducible apply Sel.there)) ?_ | refine Ent.cons (by repeat (first | with_reducible exact Sel.here | with_reducible apply Sel.there)) ?_)) ?_
      rintro ⟨i, ks, ⟨ak, ck⟩, σ, g⟩ ⟨hi, hki, htx⟩ next
      dsimp only at hi hki htx next ⊢
      refine go_ ?_
      cases h1 : decide ((i : Int) < (l1.length : Int)) with
      | false =>
        refine go_ ?_
        refine s_again ?_
        refine go_ ?_
        exact s_entF (by repeat (first | exact Ent.nil | refine Ent.per (by repeat (first | with_reducible exact Sel.here | with_reducible apply Sel.there)) ?_ | refine Ent.cons (by repeat (first | with_reducible exact Sel.here | with_reducible apply Sel.there)) ?_)) (s_keep _ (K (ks, (ak, ck), σ, g) ⟨by dsimp only; omega, htx⟩))
      | true =>
        have h1' := of_decide_eq_true h1
        have hi2 : i < l1.length := by omega
        refine go_ ?_
        refine s_if (fun h2 => ?_) (fun h2 => ?_)
        · refine go_ ?_
          generalize hL : l1.getD i [] = li at *
          generalize hW : w1 i = wi at *
          refine s_get i (F := blF w1 l1) (m := l1.length) (by repeat (first | with_reducible exact Sel.here | with_reducible apply Sel.there)) hi2 ?_
          refine s_open (B := BS (.slice wi.1 li.length wi.2) li) (fun _ _ q => by rw [← hW, ← hL]; exact q) ?_
          refine s_know (a := BS (.slice wi.1 li.length wi.2) li) (by repeat (first | with_reducible exact Sel.here | with_reducible apply Sel.there)) (fun H M q => SA.cap H M q) fun hcap => ?_
          have hli : Bys li := by rw [← hL]; exact hb1 i hi2
          apply s_join (α := Nat) (fun q => [(4, .pointer (some ⟨r4, 0, none⟩)), (5, .pointer (some ⟨r5, 0, none⟩)), (8, .pointer (some ⟨b, 0, none⟩)), (10, .pointer (some ⟨p, 0, none⟩)), (12, .pointer (some ⟨r12, 0, none⟩)), (13, .int .i64 1), (14, .int .i64 i), (15, .slice wi.1 (li.take 128).length q), (81, .pointer (some ⟨p, 0, none⟩)), (82, .slice wi.1 (li.take 128).length q)])
            (fun q => [BS (.slice wi.1 (li.take 128).length q) (li.take 128), Box r12 36 [.slice ak0 ks0.length ck0, .slice ak ks.length ck], SO 3 1 (.slice ak ks.length ck) ks.length (pathR ks), SO 3 1 (.slice ak0 ks0.length ck0) ks0.length (pathR ks0), PoB p b 2 N bc m, CtA bc σ, MG m (bmap g), Obs g, DrA b σd1, Box r5 26 [.int .i64 st, .slice ka keep.length kc], Box r4 23 [.slice a0 l0.length c0, .slice a1 l1.length c1], SA none 1 (.slice a0 l0.length c0) l0.length (blR w0 l0), Fam l0.length (blF w0 l0), SA none 1 (.slice a1 l1.length c1) l1.length (blR w1 l1), Fam l1.length (blF w1 l1), SA none 1 (.slice ka keep.length kc) keep.length (pathR keep), F]) (fun _ => True)
          case h =>
            intro K2
            refine s_if (fun h3 => ?_) (fun h3 => ?_)
            · refine go_ ?_
              refine s_look (lk_slc (a := wi.1) (len := li.length) (cap := wi.2) 0 128 (by omega) (by omega)) ?_
              refine s_part 0 128 (by omega) (by omega) (a := wi.1) (m := li.length) (cap := wi.2) (by repeat (first | with_reducible exact Sel.here | with_reducible apply Sel.there)) ?_
              refine s_open (BS.part li 128 (by omega)) ?_
              refine go_ ?_
              rw [sladdr0, show (128 - 0 : Nat) = (li.take 128).length by rw [List.length_take]; omega]
              exact s_entF (by repeat (first | exact Ent.nil | refine Ent.per (by repeat (first | with_reducible exact Sel.here | with_reducible apply Sel.there)) ?_ | refine Ent.cons (by repeat (first | with_reducible exact Sel.here | with_reducible apply Sel.there)) ?_)) (s_keep _ (K2 _ trivial))
            · refine go_ ?_
              have et : li.take 128 = li := List.take_of_length_le (by omega)
              rw [et] at K2
              exact s_entF (by repeat (first | exact Ent.nil | refine Ent.per (by repeat (first | with_reducible exact Sel.here | with_reducible apply Sel.there)) ?_ | refine Ent.cons (by repeat (first | with_reducible exact Sel.here | with_reducible apply Sel.there)) ?_)) (s_keep _ (K2 _ trivial))
          case K =>
            intro cq _
            have hl8 : (li.take 128).length ≤ 128 := by rw [List.length_take]; omega
            have hbt : Bys (li.take 128) := fun x hx => hli x (List.mem_of_mem_take hx)
            have hsn := htx.n
            obtain ⟨j, j1, j2, j3, j4⟩ := htx.fr.some (by rw [hsn]; omega)
            rw [hsn] at j2 j3
            have q1 := fun a c => htx.put j2 j3 (by omega) j4 (by omega) (by rw [hki, hL]; exact hbt) a c
            rw [hki, hL] at q1
            generalize li.take 128 = lt at *
            refine go_ ?_
            refine s_call (sp := (by repeat (first | exact Split.nil | apply Split.perx (by repeat (first | with_reducible exact Sel.here | with_reducible apply Sel.there)) (by infer_instance) | apply Split.cons (by repeat (first | with_reducible exact Sel.here | with_reducible apply Sel.there))))) (hs := pputB_c p b 2 N bc m σ g (a := wi.1) (c := cq) lt hl8) (h := ?_)
            rintro v Bs (⟨j', a2, c2, hj', rfl, rfl⟩ | ⟨hj', _⟩)
            · rw [j1] at hj'; cases hj'
              have q1 := q1 a2 c2
              refine go_ ?_
              refine s_step (st_bs1 (sz := 1) (cells := [.int .i64 j]) rfl) ?_
              rintro _ _ ⟨a3, rfl, rfl⟩
              refine go_ ?_
              refine s_step (st_appO (a := ak) (len := ks.length) (cap := ck) (b := a3) (m := 1) (c := 1) (by repeat (first | with_reducible exact Sel.here | with_reducible apply Sel.there)) (by repeat (first | with_reducible exact SelR.here | with_reducible apply SelR.there)) (by rw [flat_one]; rfl)) ?_
              rintro _ _ ⟨a4, c4, rfl, rfl⟩
              refine s_open (SO.cg (pathR (ks ++ [(j : Int)])) fun q hq => ?_) ?_
              · unfold rcat pathR
                by_cases hq2 : q < ks.length
                · rw [if_pos hq2, List.getD_eq_getElem?_getD, List.getD_eq_getElem?_getD, List.getElem?_append_left hq2]
                · have : q = ks.length := by omega
                  subst this
                  rw [if_neg hq2]; simp [List.getD_eq_getElem?_getD]
              rw [show ks.length + 1 = (ks ++ [(j : Int)]).length by simp]
              refine go_ ?_
              refine s_stepU (st_st (b := r12) (off := 1) (m := 1) (c := [.slice ak0 ks0.length ck0, .slice ak ks.length ck]) (c' := [.slice ak0 ks0.length ck0, .slice a4 (ks ++ [(j : Int)]).length c4]) (vs := [.slice a4 (ks ++ [(j : Int)]).length c4]) (v := .slice a4 (ks ++ [(j : Int)]).length c4)) ?_
              rintro _ _ rfl
              refine go_ ?_
              exact s_entF (by repeat (first | exact Ent.nil | refine Ent.per (by repeat (first | with_reducible exact Sel.here | with_reducible apply Sel.there)) ?_ | refine Ent.cons (by repeat (first | with_reducible exact Sel.here | with_reducible apply Sel.there)) ?_)) (s_keep _ (next (i + 1, ks ++ [(j : Int)], (a4, c4), { σ with now := nset σ.now j 1 }, bset g (j : Int) ⟨5, lt, a2, c2⟩) ⟨by dsimp only; omega, by simp [hki], by dsimp only; rw [List.length_append, List.length_singleton, ← Nat.add_assoc, hki]; exact q1⟩ (by dsimp only; omega)))
            · rw [j1] at hj'; cases hj'
        · refine go_ ?_
          refine s_again ?_
          refine go_ ?_
          exact s_entF (by repeat (first | exact Ent.nil | refine Ent.per (by repeat (first | with_reducible exact Sel.here | with_reducible apply Sel.there)) ?_ | refine Ent.cons (by repeat (first | with_reducible exact Sel.here | with_reducible apply Sel.there)) ?_)) (s_keep _ (K (ks, (ak, ck), σ, g) ⟨by dsimp only; omega, htx⟩))
    case K =>
    rintro ⟨ks1, ⟨ak1, ck1⟩, σ2, g2⟩ ⟨hk1, h2⟩
    dsimp only at hk1 h2 ⊢
    have hc2 := h2.cmt hN1 (by omega)
    have hn2 := h2.n
    refine s_call (sp := (by repeat (first | exact Split.nil | apply Split.perx (by repeat (first | with_reducible exact Sel.here | with_reducible apply Sel.there)) (by infer_instance) | apply Split.cons (by repeat (first | with_reducible exact Sel.here | with_reducible apply Sel.there))))) (hs := kind_c st 40 hst (by decide) (by decide)) (h := ?_)
    rintro v Bs ⟨rfl, rfl⟩
    have hks := kindI_lt st (show 0 < 40 by decide)
    generalize hS : kindI st 40 = s at *
    refine go_ ?_
    refine s_call (sp := (by repeat (first | exact Split.nil | apply Split.perx (by repeat (first | with_reducible exact Sel.here | with_reducible apply Sel.there)) (by infer_instance) | apply Split.cons (by repeat (first | with_reducible exact Sel.here | with_reducible apply Sel.there))))) (hs := dfuse_c b σd1 s (by omega)) (h := ?_)
    rintro v Bs ⟨rfl, rfl⟩
    refine go_ ?_
    have hpc2 := pcommit_c p b 2 bc m σ2 g2 { σd1 with fuse := s } (by omega) (by omega) (by show σd1.n = _; omega) (by show σd1.steps < _; omega) (by decide) hc2.bm
    rw [hn2, show (2 : Nat) + 1 = 3 from rfl] at hpc2
    have hT := hTT ks1 σ2 g2 h2 s
    have o8 := Dr.commit_st { σd1 with fuse := s } σ2 g2 3
    rw [hn2, haN] at o8
    have o8 : (Dr.commit { σd1 with fuse := s } σ2 g2 3).1.steps ≤ σd1.steps + N + 1 + 3 := o8
    generalize Dr.commit { σd1 with fuse := s } σ2 g2 3 = cr at *
    apply s_join (α := Int) (fun f => [(4, .pointer (some ⟨r4, 0, none⟩)), (8, .pointer (some ⟨b, 0, none⟩)), (12, .pointer (some ⟨r12, 0, none⟩)), (18, .int .i64 f), (110, .pointer (some ⟨b, 0, none⟩)), (112, .slice ka keep.length kc)])
      (fun _ => [DrA b cr.1, Box r12 36 [.slice ak0 ks0.length ck0, .slice ak1 ks1.length ck1], SO 3 1 (.slice ak1 ks1.length ck1) ks1.length (pathR ks1), SO 3 1 (.slice ak0 ks0.length ck0) ks0.length (pathR ks0), Box r4 23 [.slice a0 l0.length c0, .slice a1 l1.length c1], SA none 1 (.slice a0 l0.length c0) l0.length (blR w0 l0), Fam l0.length (blF w0 l0), SA none 1 (.slice a1 l1.length c1) l1.length (blR w1 l1), Fam l1.length (blF w1 l1), SA none 1 (.slice ka keep.length kc) keep.length (pathR keep), F]) (fun f => f = 0 ∧ cr.2 = true ∨ f = 4 ∧ cr.2 = false)
    case h =>
      intro K
      refine s_call (sp := (by repeat (first | exact Split.nil | apply Split.perx (by repeat (first | with_reducible exact Sel.here | with_reducible apply Sel.there)) (by infer_instance) | apply Split.cons (by repeat (first | with_reducible exact Sel.here | with_reducible apply Sel.there))))) (hs := hpc2) (h := ?_)
      rintro v Bs (⟨hf, rfl, rfl⟩ | ⟨hf, rfl, rfl⟩)
      · refine go_ ?_
        exact s_entF (by repeat (first | exact Ent.nil | refine Ent.per (by repeat (first | with_reducible exact Sel.here | with_reducible apply Sel.there)) ?_ | refine Ent.cons (by repeat (first | with_reducible exact Sel.here | with_reducible apply Sel.there)) ?_)) (s_keep _ (K 0 (.inl ⟨rfl, hf⟩)))
      · refine go_ ?_
        exact s_entF (by repeat (first | exact Ent.nil | refine Ent.per (by repeat (first | with_reducible exact Sel.here | with_reducible apply Sel.there)) ?_ | refine Ent.cons (by repeat (first | with_reducible exact Sel.here | with_reducible apply Sel.there)) ?_)) (s_keep _ (K 4 (.inr ⟨rfl, hf⟩)))
    case K =>
      intro f hf
      refine s_call (sp := (by repeat (first | exact Split.nil | apply Split.perx (by repeat (first | with_reducible exact Sel.here | with_reducible apply Sel.there)) (by infer_instance) | apply Split.cons (by repeat (first | with_reducible exact Sel.here | with_reducible apply Sel.there))))) (hs := dcrash_c b cr.1 (a0 := ka) (c0 := kc) keep hkl hko (by omega)) (h := ?_)
      rintro v Bs ⟨rfl, rfl⟩
      have o9 := (cr.1.crash_spec keep).2.1
      generalize cr.1.crash keep = τ at *
      obtain ⟨hτn, hτon, hcs⟩ := hT
      refine go_ ?_
      rcases hcs with ⟨now, e1, e2, e3, e4, e5⟩ | ⟨now, e2, e3, e4, e5⟩
      · skip
        have hf4 : f = 4 := by
          rcases hf with ⟨_, h⟩ | ⟨h, _⟩
          · rw [e1] at h; cases h
          · exact h
        subst hf4
        have hmo := pmount_c b τ 2 (fun i => σ1.bodyN i 118) hτon.1 (by omega) (by omega) (by omega) (by rw [hτn]; exact e2)
        have hbd := ctNow_body σ1 hc1.w
        rw [hn1] at hbd
        refine s_call (sp := (by repeat (first | exact Split.nil | apply Split.perx (by repeat (first | with_reducible exact Sel.here | with_reducible apply Sel.there)) (by infer_instance) | apply Split.cons (by repeat (first | with_reducible exact Sel.here | with_reducible apply Sel.there))))) (hs := hmo) (h := ?_)
        rintro v Bs ⟨q, bc2, mm, rfl, rfl⟩
        rw [hτn, hbd, ← e3]
        refine go_ ?_
        refine s_front (a := MG mm (fun _ => none)) (by repeat (first | with_reducible exact Sel.here | with_reducible apply Sel.there)) (s_open (B := MG mm (bmap fun _ => none)) (fun _ _ q => q) ?_)
        refine s_call (sp := (by repeat (first | exact Split.nil | apply Split.perx (by repeat (first | with_reducible exact Sel.here | with_reducible apply Sel.there)) (by infer_instance) | apply Split.cons (by repeat (first | with_reducible exact Sel.here | with_reducible apply Sel.there))))) (hs := psuper_c q b 2 N bc2 mm) (h := ?_)
        rintro v Bs ⟨rfl, rfl⟩
        refine go_ ?_
        refine s_unroll ?_
        refine go_ ?_
        refine s_loop (fun i : Nat => [(4, .pointer (some ⟨r4, 0, none⟩)), (12, .pointer (some ⟨r12, 0, none⟩)), (19, .pointer (some ⟨q, 0, none⟩)), (21, .int .i64 2), (22, .int .i64 0), (23, .int .i64 i)])
          (fun _ => [PoB q b 2 N bc2 mm, CtA bc2 ⟨N, now, now⟩, MG mm (bmap fun _ => none), DrA b τ, Box r12 36 [.slice ak0 ks0.length ck0, .slice ak1 ks1.length ck1], SO 3 1 (.slice ak1 ks1.length ck1) ks1.length (pathR ks1), SO 3 1 (.slice ak0 ks0.length ck0) ks0.length (pathR ks0), Box r4 23 [.slice a0 l0.length c0, .slice a1 l1.length c1], SA none 1 (.slice a0 l0.length c0) l0.length (blR w0 l0), Fam l0.length (blF w0 l0), SA none 1 (.slice a1 l1.length c1) l1.length (blR w1 l1), Fam l1.length (blF w1 l1), F]) (fun i => i ≤ ks0.length) (fun i => ks0.length - i) 0 (Nat.zero_le _) (by repeat (first | exact Ent.nil | refine Ent.per (by repeat (first | with_reducible exact Sel.here | with_reducible apply Sel.there)) ?_ | refine Ent.cons (by repeat (first | with_reducible exact Sel.here | with_reducible apply Sel.there)) ?_)) ?_
        intro i hi next
        refine go_ ?_
        refine s_if (fun h => ?_) (fun h => ?_)
        · have hi2 : i < ks0.length := by omega
          obtain ⟨hil, kk, y1, y2, y3, y4, y5⟩ := e4 i hi2
          refine go_ ?_
          rw [y1]
          generalize hL : l0.getD i [] = li at *
          generalize hW : w0 i = wi at *
          have hl8 : (li.take 128).length ≤ 128 := by rw [List.length_take]; omega
          have hbt : Bys (li.take 128) := fun x hx => hb0 i hil x (by rw [hL]; exact List.mem_of_mem_take hx)
          refine s_call (sp := (by repeat (first | exact Split.nil | apply Split.perx (by repeat (first | with_reducible exact Sel.here | with_reducible apply Sel.there)) (by infer_instance) | apply Split.cons (by repeat (first | with_reducible exact Sel.here | with_reducible apply Sel.there))))) (hs := pbytesD_c q b 2 N bc2 mm ⟨N, now, now⟩ (fun _ => none) τ kk 2 (li.take 128) y3 (by show now kk ≠ 0; omega) rfl (by omega) hτon.1 (by omega) hl8 hbt (blkHd_ok (n := N) (by omega) y3 hl8 (by decide)) y5) (h := ?_)
          rintro v Bs ⟨a3, c3, rfl, rfl⟩
          refine go_ ?_
          rw [hL, hW]
          refine s_get i (F := blF w0 l0) (m := l0.length) (by repeat (first | with_reducible exact Sel.here | with_reducible apply Sel.there)) hil ?_
          refine s_open (B := BS (.slice wi.1 li.length wi.2) li) (fun _ _ q => by rw [← hW, ← hL]; exact q) ?_
          refine s_know (a := BS (.slice wi.1 li.length wi.2) li) (by repeat (first | with_reducible exact Sel.here | with_reducible apply Sel.there)) (fun H M q => SA.cap H M q) fun hcap => ?_
          apply s_join (α := Nat) (fun z => [(4, .pointer (some ⟨r4, 0, none⟩)), (12, .pointer (some ⟨r12, 0, none⟩)), (19, .pointer (some ⟨q, 0, none⟩)), (21, .int .i64 2), (22, .int .i64 0), (23, .int .i64 i), (24, .slice a3 (li.take 128).length c3), (26, .slice wi.1 (li.take 128).length z), (180, .bool ((0 : Int) != 0)), (181, .slice a3 (li.take 128).length c3)])
            (fun z => [BS (.slice wi.1 (li.take 128).length z) (li.take 128), BS (.slice a3 (li.take 128).length c3) (li.take 128), PoB q b 2 N bc2 mm, CtA bc2 ⟨N, now, now⟩, MG mm (bmap fun _ => none), DrA b τ, Box r12 36 [.slice ak0 ks0.length ck0, .slice ak1 ks1.length ck1], SO 3 1 (.slice ak1 ks1.length ck1) ks1.length (pathR ks1), SO 3 1 (.slice ak0 ks0.length ck0) ks0.length (pathR ks0), Box r4 23 [.slice a0 l0.length c0, .slice a1 l1.length c1], SA none 1 (.slice a0 l0.length c0) l0.length (blR w0 l0), Fam l0.length (blF w0 l0), SA none 1 (.slice a1 l1.length c1) l1.length (blR w1 l1), Fam l1.length (blF w1 l1), F]) (fun _ => True)
          case h =>
            intro K2
            refine s_if (fun h3 => ?_) (fun h3 => ?_)
            · refine go_ ?_
              refine s_look (lk_slc (a := wi.1) (len := li.length) (cap := wi.2) 0 128 (by omega) (by omega)) ?_
              refine s_part 0 128 (by omega) (by omega) (a := wi.1) (m := li.length) (cap := wi.2) (by repeat (first | with_reducible exact Sel.here | with_reducible apply Sel.there)) ?_
              refine s_open (BS.part li 128 (by omega)) ?_
              refine go_ ?_
              rw [sladdr0, show (128 - 0 : Nat) = (li.take 128).length by rw [List.length_take]; omega]
              exact s_entF (by repeat (first | exact Ent.nil | refine Ent.per (by repeat (first | with_reducible exact Sel.here | with_reducible apply Sel.there)) ?_ | refine Ent.cons (by repeat (first | with_reducible exact Sel.here | with_reducible apply Sel.there)) ?_)) (s_keep _ (K2 _ trivial))
            · refine go_ ?_
              have et : li.take 128 = li := List.take_of_length_le (by omega)
              rw [et] at K2 ⊢
              exact s_entF (by repeat (first | exact Ent.nil | refine Ent.per (by repeat (first | with_reducible exact Sel.here | with_reducible apply Sel.there)) ?_ | refine Ent.cons (by repeat (first | with_reducible exact Sel.here | with_reducible apply Sel.there)) ?_)) (s_keep _ (K2 _ trivial))
          case K =>
            intro cq _
            refine go_ ?_
            refine s_look (lk_b2s (a := a3) (c := c3) (m := (li.take 128).length) (s := li.take 128) (by repeat (first | with_reducible exact SelR.here | with_reducible apply SelR.there)) rfl) ?_
            refine go_ ?_
            refine s_look (lk_b2s (a := wi.1) (c := cq) (m := (li.take 128).length) (s := li.take 128) (by repeat (first | with_reducible exact SelR.here | with_reducible apply SelR.there)) rfl) ?_
            refine go_ ?_
            rw [show (!((strB (li.take 128)).toList == (strB (li.take 128)).toList)) = false by simp]
            refine go_ ?_
            rw [y1]
            refine s_call (sp := (by repeat (first | exact Split.nil | apply Split.perx (by repeat (first | with_reducible exact Sel.here | with_reducible apply Sel.there)) (by infer_instance) | apply Split.cons (by repeat (first | with_reducible exact Sel.here | with_reducible apply Sel.there))))) (hs := pcountN_c q b 2 N bc2 mm ⟨N, now, now⟩ kk y3) (h := ?_)
            rintro v Bs ⟨rfl, rfl⟩
            rw [show ((⟨N, now, now⟩ : Ct).now kk : Nat) = 1 from y4]
            refine go_ ?_
            exact s_entF (by repeat (first | exact Ent.nil | refine Ent.per (by repeat (first | with_reducible exact Sel.here | with_reducible apply Sel.there)) ?_ | refine Ent.cons (by repeat (first | with_reducible exact Sel.here | with_reducible apply Sel.there)) ?_)) (s_keep _ (next (i + 1) (by omega) (by omega)))
        · refine go_ ?_
          refine s_again ?_
          refine go_ ?_
          cases hz : ((ks1.length : Int) == 0) with
          | true =>
            refine go_ ?_
            exact s_ret1 (rs := [.tmp 6]) Try.func3 rfl (by intro j; refine RVS.tmp _ rfl ?_; exact RVS.nil) (⟨rfl, rfl⟩) (by repeat (first | exact Ent.nil | refine Ent.per (by repeat (first | with_reducible exact Sel.here | with_reducible apply Sel.there)) ?_ | refine Ent.cons (by repeat (first | with_reducible exact Sel.here | with_reducible apply Sel.there)) ?_))
          | false =>
            have hz2 : ks1.length ≠ 0 := fun e => by rw [e] at hz; simp at hz
            obtain ⟨kk, y1, y2, y3⟩ := e5 0 (by omega)
            refine go_ ?_
            refine s_look (lk_ixz 0 (m := ks1.length) (v := .slice ak1 ks1.length ck1) (z := 0) (by repeat (first | with_reducible exact SelR.here | with_reducible apply SelR.there))) ?_
            refine go_ ?_
            rw [y1]
            refine s_call (sp := (by repeat (first | exact Split.nil | apply Split.perx (by repeat (first | with_reducible exact Sel.here | with_reducible apply Sel.there)) (by infer_instance) | apply Split.cons (by repeat (first | with_reducible exact Sel.here | with_reducible apply Sel.there))))) (hs := pcountN_c q b 2 N bc2 mm ⟨N, now, now⟩ kk y2) (h := ?_)
            rintro v Bs ⟨rfl, rfl⟩
            rw [show ((⟨N, now, now⟩ : Ct).now kk : Nat) = 0 from y3]
            refine go_ ?_
            exact s_ret1 (rs := [.tmp 6]) Try.func3 rfl (by intro j; refine RVS.tmp _ rfl ?_; exact RVS.nil) (⟨rfl, rfl⟩) (by repeat (first | exact Ent.nil | refine Ent.per (by repeat (first | with_reducible exact Sel.here | with_reducible apply Sel.there)) ?_ | refine Ent.cons (by repeat (first | with_reducible exact Sel.here | with_reducible apply Sel.there)) ?_))
      · skip
        have hmo := pmount_c b τ 3 (fun i => σ2.bodyN i 118) hτon.1 (by omega) (by omega) (by omega) (by rw [hτn]; exact e2)
        have hbd := ctNow_body σ2 hc2.w
        rw [hn2] at hbd
        refine s_call (sp := (by repeat (first | exact Split.nil | apply Split.perx (by repeat (first | with_reducible exact Sel.here | with_reducible apply Sel.there)) (by infer_instance) | apply Split.cons (by repeat (first | with_reducible exact Sel.here | with_reducible apply Sel.there))))) (hs := hmo) (h := ?_)
        rintro v Bs ⟨q, bc2, mm, rfl, rfl⟩
        rw [hτn, hbd, ← e3]
        refine go_ ?_
        refine s_front (a := MG mm (fun _ => none)) (by repeat (first | with_reducible exact Sel.here | with_reducible apply Sel.there)) (s_open (B := MG mm (bmap fun _ => none)) (fun _ _ q => q) ?_)
        refine s_call (sp := (by repeat (first | exact Split.nil | apply Split.perx (by repeat (first | with_reducible exact Sel.here | with_reducible apply Sel.there)) (by infer_instance) | apply Split.cons (by repeat (first | with_reducible exact Sel.here | with_reducible apply Sel.there))))) (hs := psuper_c q b 3 N bc2 mm) (h := ?_)
        rintro v Bs ⟨rfl, rfl⟩
        apply s_join (α := Unit) (fun _ => [(4, .pointer (some ⟨r4, 0, none⟩)), (12, .pointer (some ⟨r12, 0, none⟩)), (19, .pointer (some ⟨q, 0, none⟩)), (21, .int .i64 3), (22, .int .i64 0)])
          (fun _ => [PoB q b 3 N bc2 mm, CtA bc2 ⟨N, now, now⟩, MG mm (bmap fun _ => none), DrA b τ, Box r12 36 [.slice ak0 ks0.length ck0, .slice ak1 ks1.length ck1], SO 3 1 (.slice ak1 ks1.length ck1) ks1.length (pathR ks1), SO 3 1 (.slice ak0 ks0.length ck0) ks0.length (pathR ks0), Box r4 23 [.slice a0 l0.length c0, .slice a1 l1.length c1], SA none 1 (.slice a0 l0.length c0) l0.length (blR w0 l0), Fam l0.length (blF w0 l0), SA none 1 (.slice a1 l1.length c1) l1.length (blR w1 l1), Fam l1.length (blF w1 l1), F]) (fun _ => True)
        case h =>
          intro K
          rcases hf with ⟨rfl, _⟩ | ⟨rfl, _⟩
          · refine go_ ?_
            exact s_entF (by repeat (first | exact Ent.nil | refine Ent.per (by repeat (first | with_reducible exact Sel.here | with_reducible apply Sel.there)) ?_ | refine Ent.cons (by repeat (first | with_reducible exact Sel.here | with_reducible apply Sel.there)) ?_)) (s_keep _ (K () trivial))
          · refine go_ ?_
            exact s_entF (by repeat (first | exact Ent.nil | refine Ent.per (by repeat (first | with_reducible exact Sel.here | with_reducible apply Sel.there)) ?_ | refine Ent.cons (by repeat (first | with_reducible exact Sel.here | with_reducible apply Sel.there)) ?_)) (s_keep _ (K () trivial))
        case K =>
          intro _ _
          refine s_unroll ?_
          refine go_ ?_
          refine s_loop (fun i : Nat => [(4, .pointer (some ⟨r4, 0, none⟩)), (12, .pointer (some ⟨r12, 0, none⟩)), (19, .pointer (some ⟨q, 0, none⟩)), (21, .int .i64 3), (22, .int .i64 0), (23, .int .i64 i)])
            (fun _ => [PoB q b 3 N bc2 mm, CtA bc2 ⟨N, now, now⟩, MG mm (bmap fun _ => none), DrA b τ, Box r12 36 [.slice ak0 ks0.length ck0, .slice ak1 ks1.length ck1], SO 3 1 (.slice ak1 ks1.length ck1) ks1.length (pathR ks1), SO 3 1 (.slice ak0 ks0.length ck0) ks0.length (pathR ks0), Box r4 23 [.slice a0 l0.length c0, .slice a1 l1.length c1], SA none 1 (.slice a0 l0.length c0) l0.length (blR w0 l0), Fam l0.length (blF w0 l0), SA none 1 (.slice a1 l1.length c1) l1.length (blR w1 l1), Fam l1.length (blF w1 l1), F]) (fun i => i ≤ ks0.length) (fun i => ks0.length - i) 0 (Nat.zero_le _) (by repeat (first | exact Ent.nil | refine Ent.per (by repeat (first | with_reducible exact Sel.here | with_reducible apply Sel.there)) ?_ | refine Ent.cons (by repeat (first | with_reducible exact Sel.here | with_reducible apply Sel.there)) ?_)) ?_
          intro i hi next
          refine go_ ?_
          refine s_if (fun h => ?_) (fun h => ?_)
          · have hi2 : i < ks0.length := by omega
            obtain ⟨hil, kk, y1, y2, y3, y4, y5⟩ := e4 i hi2
            refine go_ ?_
            rw [y1]
            generalize hL : l0.getD i [] = li at *
            generalize hW : w0 i = wi at *
            have hl8 : (li.take 128).length ≤ 128 := by rw [List.length_take]; omega
            have hbt : Bys (li.take 128) := fun x hx => hb0 i hil x (by rw [hL]; exact List.mem_of_mem_take hx)
            refine s_call (sp := (by repeat (first | exact Split.nil | apply Split.perx (by repeat (first | with_reducible exact Sel.here | with_reducible apply Sel.there)) (by infer_instance) | apply Split.cons (by repeat (first | with_reducible exact Sel.here | with_reducible apply Sel.there))))) (hs := pbytesD_c q b 3 N bc2 mm ⟨N, now, now⟩ (fun _ => none) τ kk 2 (li.take 128) y3 (by show now kk ≠ 0; omega) rfl (by omega) hτon.1 (by omega) hl8 hbt (blkHd_ok (n := N) (by omega) y3 hl8 (by decide)) y5) (h := ?_)
            rintro v Bs ⟨a3, c3, rfl, rfl⟩
            refine go_ ?_
            rw [hL, hW]
            refine s_get i (F := blF w0 l0) (m := l0.length) (by repeat (first | with_reducible exact Sel.here | with_reducible apply Sel.there)) hil ?_
            refine s_open (B := BS (.slice wi.1 li.length wi.2) li) (fun _ _ q => by rw [← hW, ← hL]; exact q) ?_
            refine s_know (a := BS (.slice wi.1 li.length wi.2) li) (by repeat (first | with_reducible exact Sel.here | with_reducible apply Sel.there)) (fun H M q => SA.cap H M q) fun hcap => ?_
            apply s_join (α := Nat) (fun z => [(4, .pointer (some ⟨r4, 0, none⟩)), (12, .pointer (some ⟨r12, 0, none⟩)), (19, .pointer (some ⟨q, 0, none⟩)), (21, .int .i64 3), (22, .int .i64 0), (23, .int .i64 i), (24, .slice a3 (li.take 128).length c3), (26, .slice wi.1 (li.take 128).length z), (180, .bool ((0 : Int) != 0)), (181, .slice a3 (li.take 128).length c3)])
              (fun z => [BS (.slice wi.1 (li.take 128).length z) (li.take 128), BS (.slice a3 (li.take 128).length c3) (li.take 128), PoB q b 3 N bc2 mm, CtA bc2 ⟨N, now, now⟩, MG mm (bmap fun _ => none), DrA b τ, Box r12 36 [.slice ak0 ks0.length ck0, .slice ak1 ks1.length ck1], SO 3 1 (.slice ak1 ks1.length ck1) ks1.length (pathR ks1), SO 3 1 (.slice ak0 ks0.length ck0) ks0.length (pathR ks0), Box r4 23 [.slice a0 l0.length c0, .slice a1 l1.length c1], SA none 1 (.slice a0 l0.length c0) l0.length (blR w0 l0), Fam l0.length (blF w0 l0), SA none 1 (.slice a1 l1.length c1) l1.length (blR w1 l1), Fam l1.length (blF w1 l1), F]) (fun _ => True)
            case h =>
              intro K2
              refine s_if (fun h3 => ?_) (fun h3 => ?_)
              · refine go_ ?_
                refine s_look (lk_slc (a := wi.1) (len := li.length) (cap := wi.2) 0 128 (by omega) (by omega)) ?_
                refine s_part 0 128 (by omega) (by omega) (a := wi.1) (m := li.length) (cap := wi.2) (by repeat (first | with_reducible exact Sel.here | with_reducible apply Sel.there)) ?_
                refine s_open (BS.part li 128 (by omega)) ?_
                refine go_ ?_
                rw [sladdr0, show (128 - 0 : Nat) = (li.take 128).length by rw [List.length_take]; omega]
                exact s_entF (by repeat (first | exact Ent.nil | refine Ent.per (by repeat (first | with_reducible exact Sel.here | with_reducible apply Sel.there)) ?_ | refine Ent.cons (by repeat (first | with_reducible exact Sel.here | with_reducible apply Sel.there)) ?_)) (s_keep _ (K2 _ trivial))
              · refine go_ ?_
                have et : li.take 128 = li := List.take_of_length_le (by omega)
                rw [et] at K2 ⊢
                exact s_entF (by repeat (first | exact Ent.nil | refine Ent.per (by repeat (first | with_reducible exact Sel.here | with_reducible apply Sel.there)) ?_ | refine Ent.cons (by repeat (first | with_reducible exact Sel.here | with_reducible apply Sel.there)) ?_)) (s_keep _ (K2 _ trivial))
            case K =>
              intro cq _
              refine go_ ?_
              refine s_look (lk_b2s (a := a3) (c := c3) (m := (li.take 128).length) (s := li.take 128) (by repeat (first | with_reducible exact SelR.here | with_reducible apply SelR.there)) rfl) ?_
              refine go_ ?_
              refine s_look (lk_b2s (a := wi.1) (c := cq) (m := (li.take 128).length) (s := li.take 128) (by repeat (first | with_reducible exact SelR.here | with_reducible apply SelR.there)) rfl) ?_
              refine go_ ?_
              rw [show (!((strB (li.take 128)).toList == (strB (li.take 128)).toList)) = false by simp]
              refine go_ ?_
              rw [y1]
              refine s_call (sp := (by repeat (first | exact Split.nil | apply Split.perx (by repeat (first | with_reducible exact Sel.here | with_reducible apply Sel.there)) (by infer_instance) | apply Split.cons (by repeat (first | with_reducible exact Sel.here | with_reducible apply Sel.there))))) (hs := pcountN_c q b 3 N bc2 mm ⟨N, now, now⟩ kk y3) (h := ?_)
              rintro v Bs ⟨rfl, rfl⟩
              rw [show ((⟨N, now, now⟩ : Ct).now kk : Nat) = 1 from y4]
              refine go_ ?_
              exact s_entF (by repeat (first | exact Ent.nil | refine Ent.per (by repeat (first | with_reducible exact Sel.here | with_reducible apply Sel.there)) ?_ | refine Ent.cons (by repeat (first | with_reducible exact Sel.here | with_reducible apply Sel.there)) ?_)) (s_keep _ (next (i + 1) (by omega) (by omega)))
          · refine go_ ?_
            refine s_again ?_
            refine go_ ?_
            refine s_loop (fun i : Nat => [(4, .pointer (some ⟨r4, 0, none⟩)), (12, .pointer (some ⟨r12, 0, none⟩)), (19, .pointer (some ⟨q, 0, none⟩)), (21, .int .i64 3), (22, .int .i64 1), (23, .int .i64 i)])
              (fun _ => [PoB q b 3 N bc2 mm, CtA bc2 ⟨N, now, now⟩, MG mm (bmap fun _ => none), DrA b τ, Box r12 36 [.slice ak0 ks0.length ck0, .slice ak1 ks1.length ck1], SO 3 1 (.slice ak1 ks1.length ck1) ks1.length (pathR ks1), SO 3 1 (.slice ak0 ks0.length ck0) ks0.length (pathR ks0), Box r4 23 [.slice a0 l0.length c0, .slice a1 l1.length c1], SA none 1 (.slice a0 l0.length c0) l0.length (blR w0 l0), Fam l0.length (blF w0 l0), SA none 1 (.slice a1 l1.length c1) l1.length (blR w1 l1), Fam l1.length (blF w1 l1), F]) (fun i => i ≤ ks1.length) (fun i => ks1.length - i) 0 (Nat.zero_le _) (by repeat (first | exact Ent.nil | refine Ent.per (by repeat (first | with_reducible exact Sel.here | with_reducible apply Sel.there)) ?_ | refine Ent.cons (by repeat (first | with_reducible exact Sel.here | with_reducible apply Sel.there)) ?_)) ?_
            intro i hi next
            refine go_ ?_
            refine s_if (fun h => ?_) (fun h => ?_)
            · have hi2 : i < ks1.length := by omega
              obtain ⟨hil, kk, y1, y2, y3, y4, y5⟩ := e5 i hi2
              refine go_ ?_
              rw [y1]
              generalize hL : l1.getD i [] = li at *
              generalize hW : w1 i = wi at *
              have hl8 : (li.take 128).length ≤ 128 := by rw [List.length_take]; omega
              have hbt : Bys (li.take 128) := fun x hx => hb1 i hil x (by rw [hL]; exact List.mem_of_mem_take hx)
              refine s_call (sp := (by repeat (first | exact Split.nil | apply Split.perx (by repeat (first | with_reducible exact Sel.here | with_reducible apply Sel.there)) (by infer_instance) | apply Split.cons (by repeat (first | with_reducible exact Sel.here | with_reducible apply Sel.there))))) (hs := pbytesD_c q b 3 N bc2 mm ⟨N, now, now⟩ (fun _ => none) τ kk 3 (li.take 128) y3 (by show now kk ≠ 0; omega) rfl (by omega) hτon.1 (by omega) hl8 hbt (blkHd_ok (n := N) (by omega) y3 hl8 (by decide)) y5) (h := ?_)
              rintro v Bs ⟨a3, c3, rfl, rfl⟩
              refine go_ ?_
              rw [hL, hW]
              refine s_get i (F := blF w1 l1) (m := l1.length) (by repeat (first | with_reducible exact Sel.here | with_reducible apply Sel.there)) hil ?_
              refine s_open (B := BS (.slice wi.1 li.length wi.2) li) (fun _ _ q => by rw [← hW, ← hL]; exact q) ?_
              refine s_know (a := BS (.slice wi.1 li.length wi.2) li) (by repeat (first | with_reducible exact Sel.here | with_reducible apply Sel.there)) (fun H M q => SA.cap H M q) fun hcap => ?_
              apply s_join (α := Nat) (fun z => [(4, .pointer (some ⟨r4, 0, none⟩)), (12, .pointer (some ⟨r12, 0, none⟩)), (19, .pointer (some ⟨q, 0, none⟩)), (21, .int .i64 3), (22, .int .i64 1), (23, .int .i64 i), (24, .slice a3 (li.take 128).length c3), (26, .slice wi.1 (li.take 128).length z), (180, .bool ((0 : Int) != 0)), (181, .slice a3 (li.take 128).length c3)])
                (fun z => [BS (.slice wi.1 (li.take 128).length z) (li.take 128), BS (.slice a3 (li.take 128).length c3) (li.take 128), PoB q b 3 N bc2 mm, CtA bc2 ⟨N, now, now⟩, MG mm (bmap fun _ => none), DrA b τ, Box r12 36 [.slice ak0 ks0.length ck0, .slice ak1 ks1.length ck1], SO 3 1 (.slice ak1 ks1.length ck1) ks1.length (pathR ks1), SO 3 1 (.slice ak0 ks0.length ck0) ks0.length (pathR ks0), Box r4 23 [.slice a0 l0.length c0, .slice a1 l1.length c1], SA none 1 (.slice a0 l0.length c0) l0.length (blR w0 l0), Fam l0.length (blF w0 l0), SA none 1 (.slice a1 l1.length c1) l1.length (blR w1 l1), Fam l1.length (blF w1 l1), F]) (fun _ => True)
              case h =>
                intro K2
                refine s_if (fun h3 => ?_) (fun h3 => ?_)
                · refine go_ ?_
                  refine s_look (lk_slc (a := wi.1) (len := li.length) (cap := wi.2) 0 128 (by omega) (by omega)) ?_
                  refine s_part 0 128 (by omega) (by omega) (a := wi.1) (m := li.length) (cap := wi.2) (by repeat (first | with_reducible exact Sel.here | with_reducible apply Sel.there)) ?_
                  refine s_open (BS.part li 128 (by omega)) ?_
                  refine go_ ?_
                  rw [sladdr0, show (128 - 0 : Nat) = (li.take 128).length by rw [List.length_take]; omega]
                  exact s_entF (by repeat (first | exact Ent.nil | refine Ent.per (by repeat (first | with_reducible exact Sel.here | with_reducible apply Sel.there)) ?_ | refine Ent.cons (by repeat (first | with_reducible exact Sel.here | with_reducible apply Sel.there)) ?_)) (s_keep _ (K2 _ trivial))
                · refine go_ ?_
                  have et : li.take 128 = li := List.take_of_length_le (by omega)
                  rw [et] at K2 ⊢
                  exact s_entF (by repeat (first | exact Ent.nil | refine Ent.per (by repeat (first | with_reducible exact Sel.here | with_reducible apply Sel.there)) ?_ | refine Ent.cons (by repeat (first | with_reducible exact Sel.here | with_reducible apply Sel.there)) ?_)) (s_keep _ (K2 _ trivial))
              case K =>
                intro cq _
                refine go_ ?_
                refine s_look (lk_b2s (a := a3) (c := c3) (m := (li.take 128).length) (s := li.take 128) (by repeat (first | with_reducible exact SelR.here | with_reducible apply SelR.there)) rfl) ?_
                refine go_ ?_
                refine s_look (lk_b2s (a := wi.1) (c := cq) (m := (li.take 128).length) (s := li.take 128) (by repeat (first | with_reducible exact SelR.here | with_reducible apply SelR.there)) rfl) ?_
                refine go_ ?_
                rw [show (!((strB (li.take 128)).toList == (strB (li.take 128)).toList)) = false by simp]
                refine go_ ?_
                rw [y1]
                refine s_call (sp := (by repeat (first | exact Split.nil | apply Split.perx (by repeat (first | with_reducible exact Sel.here | with_reducible apply Sel.there)) (by infer_instance) | apply Split.cons (by repeat (first | with_reducible exact Sel.here | with_reducible apply Sel.there))))) (hs := pcountN_c q b 3 N bc2 mm ⟨N, now, now⟩ kk y3) (h := ?_)
                rintro v Bs ⟨rfl, rfl⟩
                rw [show ((⟨N, now, now⟩ : Ct).now kk : Nat) = 1 from y4]
                refine go_ ?_
                exact s_entF (by repeat (first | exact Ent.nil | refine Ent.per (by repeat (first | with_reducible exact Sel.here | with_reducible apply Sel.there)) ?_ | refine Ent.cons (by repeat (first | with_reducible exact Sel.here | with_reducible apply Sel.there)) ?_)) (s_keep _ (next (i + 1) (by omega) (by omega)))
            · refine go_ ?_
              refine s_again ?_
              refine go_ ?_
              exact s_ret1 (rs := [.tmp 6]) Try.func3 rfl (by intro j; refine RVS.tmp _ rfl ?_; exact RVS.nil) (⟨rfl, rfl⟩) (by repeat (first | exact Ent.nil | refine Ent.per (by repeat (first | with_reducible exact Sel.here | with_reducible apply Sel.there)) ?_ | refine Ent.cons (by repeat (first | with_reducible exact Sel.here | with_reducible apply Sel.there)) ?_))
end Go.Proofs.Ytldonbnjefhfdaa
