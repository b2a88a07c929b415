/- pool.Bytes. -/
import Derived.Test.YtgbbcpfnmkeijaaGreatGrtCC
import Derived.Test.YtgbbcpfnmkeijaaGreatGrtM
import Derived.Test.YtgbbcpfnmkeijaaGreatGrtP
import Derived.Test.YtgbbcpfnmkeijaaGreatGrtAM
namespace Go.Proofs.YtgbbcpfnmkeijaaGreat
open Go.Cam
set_option maxRecDepth 100000
theorem pcountN_c (p b gen n bc m : Nat) (σ : Ct) (k : Nat) (hk : k < σ.n) : Ctr Tryz.prog 43 [.pointer (some ⟨p, 0, none⟩), .int .i64 k] [PoB p b gen n bc m, CtA bc σ] (fun v Bs => v = .int .i64 (σ.now k : Nat) ∧ Bs = [PoB p b gen n bc m, CtA bc σ]) := by
  have := pcount_c p b gen n bc m σ (k : Int)
  rw [if_pos ⟨by omega, by omega⟩, Int.toNat_natCast] at this
  exact this
set_option maxHeartbeats 4000000 in
/-- of a block that is counted by nobody -/
theorem pbytesN_c (p b gen n bc m : Nat) (σ : Ct) (k : Nat) (hk : k < σ.n) (h0 : σ.now k = 0) : Ctr Tryz.prog 23 [.pointer (some ⟨p, 0, none⟩), .int .i64 k, .int .i64 5] [PoB p b gen n bc m, CtA bc σ] (fun v Bs => v = .tuple #[.slice none 0 0, .int .i64 1] ∧ Bs = [PoB p b gen n bc m, CtA bc σ]) := by
  refine s_enter 88 [(0, _), (1, _), (2, _)] (fun F => [_, _, F]) Tryz.func23 fun F => ?_
  refine go_ ?_
  refine s_call (sp := (by repeat (first | exact Split.nil | apply Split.perx (by repeat (first | with_reducible exact Sel.here | with_reducible apply Sel.there)) (by infer_instance) | apply Split.cons (by repeat (first | with_reducible exact Sel.here | with_reducible apply Sel.there))))) (hs := most_c 5) (h := ?_)
  rintro v Bs ⟨rfl, rfl⟩
  refine go_ ?_
  refine s_call (sp := (by repeat (first | exact Split.nil | apply Split.perx (by repeat (first | with_reducible exact Sel.here | with_reducible apply Sel.there)) (by infer_instance) | apply Split.cons (by repeat (first | with_reducible exact Sel.here | with_reducible apply Sel.there))))) (hs := pcountN_c p b gen n bc m σ k hk) (h := ?_)
  rintro v Bs ⟨rfl, rfl⟩
  rw [h0]
  refine go_ ?_
  exact s_rett (rs := [.tmp 6, .tmp 7]) (vs := [_, _]) Tryz.func23 rfl (by intro j; refine RVS.tmp _ rfl ?_; refine RVS.tmp _ rfl ?_; exact RVS.nil) rfl (⟨rfl, rfl⟩) (by repeat (first | exact Ent.nil | refine Ent.per (by repeat (first | with_reducible exact Sel.here | with_reducible apply Sel.there)) ?_ | refine Ent.cons (by repeat (first | with_reducible exact Sel.here | with_reducible apply Sel.there)) ?_))
set_option maxHeartbeats 4000000 in
/-- of a block that was laid down since the last commit -/
theorem pbytesM_c (p b gen n bc m : Nat) (σ : Ct) (g : Int → Option OB) (k : Nat) (hk : k < σ.n) (h0 : σ.now k ≠ 0) (o : OB) (hg : g k = some o) (ho : o.kind = 5) (hl : o.l.length < 1000000) : Ctr Tryz.prog 23 [.pointer (some ⟨p, 0, none⟩), .int .i64 k, .int .i64 5] [PoB p b gen n bc m, CtA bc σ, MG m (bmap g), Obs g]
    (fun v Bs => ∃ a c, v = .tuple #[.slice a o.l.length c, .int .i64 0] ∧ Bs = [PoB p b gen n bc m, CtA bc σ, MG m (bmap g), Obs g, BS (.slice a o.l.length c) o.l]) := by
  have hgm : bmap g k = some o.v := by show (g k).map _ = _; rw [hg]; rfl
  refine s_enter 88 [(0, _), (1, _), (2, _)] (fun F => [_, _, _, _, F]) Tryz.func23 fun F => ?_
  refine go_ ?_
  refine s_call (sp := (by repeat (first | exact Split.nil | apply Split.perx (by repeat (first | with_reducible exact Sel.here | with_reducible apply Sel.there)) (by infer_instance) | apply Split.cons (by repeat (first | with_reducible exact Sel.here | with_reducible apply Sel.there))))) (hs := most_c 5) (h := ?_)
  rintro v Bs ⟨rfl, rfl⟩
  refine go_ ?_
  refine s_call (sp := (by repeat (first | exact Split.nil | apply Split.perx (by repeat (first | with_reducible exact Sel.here | with_reducible apply Sel.there)) (by infer_instance) | apply Split.cons (by repeat (first | with_reducible exact Sel.here | with_reducible apply Sel.there))))) (hs := pcountN_c p b gen n bc m σ k hk) (h := ?_)
  rintro v Bs ⟨rfl, rfl⟩
  refine go_ ?_
  rw [show ((((σ.now k : Nat) : Int)) == 0) = false from beq_eq_false_iff_ne.2 (by omega)]
  refine go_ ?_
  refine s_look (lk_lks2 hgm) ?_
  refine go_ ?_
  refine s_alloc fun r10 => ?_
  refine go_ ?_
  rw [ho]
  refine go_ ?_
  refine s_obsG k o (by repeat (first | with_reducible exact Sel.here | with_reducible apply Sel.there)) hg ?_
  refine s_call (sp := (by repeat (first | exact Split.nil | apply Split.perx (by repeat (first | with_reducible exact Sel.here | with_reducible apply Sel.there)) (by infer_instance) | apply Split.cons (by repeat (first | with_reducible exact Sel.here | with_reducible apply Sel.there))))) (hs := cloneB_c (A := BS (.slice o.a o.l.length o.c) o.l) (a := o.a) (n := o.l.length) (c := o.c) (row := byR o.l) (by rw [flat_byR']; exact bcl_one o.l) hl) (h := ?_)
  rintro v Bs ⟨a', c', rfl, rfl⟩
  refine go_ ?_
  refine s_fzO (e := 5) (v := .slice a' o.l.length c') (by repeat (first | with_reducible exact Sel.here | with_reducible apply Sel.there)) ?_
  refine s_open (B := BS (.slice a' o.l.length c') o.l) (fun _ _ q => q) ?_
  exact s_rett (rs := [.tmp 6, .tmp 7]) (vs := [_, _]) Tryz.func23 rfl (by intro j; refine RVS.tmp _ rfl ?_; refine RVS.tmp _ rfl ?_; exact RVS.nil) rfl (⟨a', c', rfl, rfl⟩) (by repeat (first | exact Ent.nil | refine Ent.per (by repeat (first | with_reducible exact Sel.here | with_reducible apply Sel.there)) ?_ | refine Ent.cons (by repeat (first | with_reducible exact Sel.here | with_reducible apply Sel.there)) ?_))
set_option maxHeartbeats 8000000 in
/-- of a block on the disk -/
theorem pbytesD_c (p b gen n bc m : Nat) (σ : Ct) (g : Int → Option OB) (σd : Dr) (k gn : Nat) (l : List Nat) (hk : k < σ.n) (h0 : σ.now k ≠ 0) (hg : g k = none) (hn : k < σd.n) (hon : σd.off = false) (hst : σd.steps < 1000000000) (hl : l.length ≤ 128) (hb : Bys l) (hh : Head.ok ⟨5, k, l.length, 0, gn⟩) (hs : σd.lastS k = sealB ⟨5, k, l.length, 0, gn⟩ l) :
    Ctr Tryz.prog 23 [.pointer (some ⟨p, 0, none⟩), .int .i64 k, .int .i64 5] [PoB p b gen n bc m, CtA bc σ, MG m (bmap g), DrA b σd]
    (fun v Bs => ∃ a c, v = .tuple #[.slice a l.length c, .int .i64 0] ∧ Bs = [PoB p b gen n bc m, CtA bc σ, MG m (bmap g), DrA b σd, BS (.slice a l.length c) l]) := by
  have hgm : bmap g k = none := by show (g k).map _ = _; rw [hg]; rfl
  obtain ⟨o1, o2, o3⟩ := open_seal hh hb (by omega)
  have hck : checkOk (sealB ⟨5, k, l.length, 0, gn⟩ l) 5 k := ⟨o1, by rw [o2], by rw [o2]⟩
  refine s_enter 88 [(0, _), (1, _), (2, _)] (fun F => [_, _, _, _, F]) Tryz.func23 fun F => ?_
  refine go_ ?_
  refine s_call (sp := (by repeat (first | exact Split.nil | apply Split.perx (by repeat (first | with_reducible exact Sel.here | with_reducible apply Sel.there)) (by infer_instance) | apply Split.cons (by repeat (first | with_reducible exact Sel.here | with_reducible apply Sel.there))))) (hs := most_c 5) (h := ?_)
  rintro v Bs ⟨rfl, rfl⟩
  refine go_ ?_
  refine s_call (sp := (by repeat (first | exact Split.nil | apply Split.perx (by repeat (first | with_reducible exact Sel.here | with_reducible apply Sel.there)) (by infer_instance) | apply Split.cons (by repeat (first | with_reducible exact Sel.here | with_reducible apply Sel.there))))) (hs := pcountN_c p b gen n bc m σ k hk) (h := ?_)
  rintro v Bs ⟨rfl, rfl⟩
  refine go_ ?_
  rw [show ((((σ.now k : Nat) : Int)) == 0) = false from beq_eq_false_iff_ne.2 (by omega)]
  refine go_ ?_
  refine s_look (lk_lkn2 hgm) ?_
  refine go_ ?_
  refine s_alloc fun r10 => ?_
  refine go_ ?_
  refine s_call (sp := (by repeat (first | exact Split.nil | apply Split.perx (by repeat (first | with_reducible exact Sel.here | with_reducible apply Sel.there)) (by infer_instance) | apply Split.cons (by repeat (first | with_reducible exact Sel.here | with_reducible apply Sel.there))))) (hs := dread_c b σd k hn hst) (h := ?_)
  rintro v Bs (⟨ho, _⟩ | ⟨_, ra, rfl, rfl⟩)
  · rw [hon] at ho; cases ho
  rw [hs]
  refine go_ ?_
  refine s_call (sp := (by repeat (first | exact Split.nil | apply Split.perx (by repeat (first | with_reducible exact Sel.here | with_reducible apply Sel.there)) (by infer_instance) | apply Split.cons (by repeat (first | with_reducible exact Sel.here | with_reducible apply Sel.there))))) (hs := check_c (sealB ⟨5, k, l.length, 0, gn⟩ l) 5 k (sealB_len (by omega)) (sealB_bys hb)) (h := ?_)
  rintro v Bs (⟨ho, _⟩ | ⟨_, a2, c2, rfl, rfl⟩)
  · exact absurd hck ho
  rw [o2, o3]
  refine go_ ?_
  refine s_alloc fun r14 => ?_
  refine go_ ?_
  refine s_know (a := SA none 1 (.slice a2 236 c2) 236 (byR (l ++ List.replicate (236 - l.length) 0))) (by repeat (first | with_reducible exact Sel.here | with_reducible apply Sel.there)) (fun H M q => SA.cap H M q) fun hcap => ?_
  refine s_if (fun h => ?_) (fun h => ?_)
  · exact absurd h (by show ¬ (l.length : Int) > 128; omega)
  refine go_ ?_
  refine s_look (lk_slc (a := a2) (len := 236) (cap := c2) l.length 236 (by omega) hcap) ?_
  refine s_part l.length 236 (by omega) (Nat.le_refl _) (a := a2) (m := 236) (cap := c2) (by repeat (first | with_reducible exact Sel.here | with_reducible apply Sel.there)) ?_
  refine s_open (SA.cg (byR (List.replicate (236 - l.length) 0)) fun i hi => by
    simp [byR, List.getD_eq_getElem?_getD, List.getElem?_append_right]) ?_
  refine go_ ?_
  refine s_call (sp := (by repeat (first | exact Split.nil | apply Split.perx (by repeat (first | with_reducible exact Sel.here | with_reducible apply Sel.there)) (by infer_instance) | apply Split.cons (by repeat (first | with_reducible exact Sel.here | with_reducible apply Sel.there))))) (hs := contains0_c (l := List.replicate (236 - l.length) 0) (n := 236 - l.length) (by simp) (fun i hi => getD_zeros _ _) (by omega)) (h := ?_)
  rintro v Bs ⟨rfl, rfl⟩
  refine go_ ?_
  refine s_look (lk_slc (a := a2) (len := 236) (cap := c2) 0 l.length (by omega) (by omega)) ?_
  refine s_part 0 l.length (by omega) (by omega) (a := a2) (m := 236) (cap := c2) (by repeat (first | with_reducible exact Sel.here | with_reducible apply Sel.there)) ?_
  rw [sladdr0]
  refine s_open (B := BS (.slice a2 l.length c2) l) (SA.cg (byR l) fun i hi => by
    have : i < l.length := by omega
    simp [byR, List.getD_eq_getElem?_getD, List.getElem?_append_left, this]) ?_
  refine go_ ?_
  exact s_rett (rs := [.tmp 6, .tmp 7]) (vs := [_, _]) Tryz.func23 rfl (by intro j; refine RVS.tmp _ rfl ?_; refine RVS.tmp _ rfl ?_; exact RVS.nil) rfl (⟨a2, c2, rfl, rfl⟩) (by repeat (first | exact Ent.nil | refine Ent.per (by repeat (first | with_reducible exact Sel.here | with_reducible apply Sel.there)) ?_ | refine Ent.cons (by repeat (first | with_reducible exact Sel.here | with_reducible apply Sel.there)) ?_))
end Go.Proofs.YtgbbcpfnmkeijaaGreat
/- pool.Commit. -/
namespace Go.Proofs.YtgbbcpfnmkeijaaGreat
open Go.Cam
set_option maxRecDepth 100000
/-- the blocks that a commit writes -/
def putsW (σ : Ct) (g : Int → Option OB) (gn : Nat) : List Int → List (Nat × List Nat)
  | [] => []
  | k :: ks => (match g k with | some o => if σ.now k.toNat = 0 then [] else [(k.toNat, sealB ⟨5, k.toNat, o.l.length, 0, gn⟩ o.l)] | none => []) ++ putsW σ g gn ks
def Dr.puts (σ : Dr) : List (Nat × List Nat) → Dr × Bool
  | [] => (σ, true)
  | x :: ws => if (σ.write x.1 x.2).2 then (σ.write x.1 x.2).1.puts ws else ((σ.write x.1 x.2).1, false)
structure BmOk (σ : Ct) (g : Int → Option OB) : Prop where
  k : ∀ k, g k ≠ none → 0 ≤ k ∧ k < (σ.n : Nat)
  o : ∀ k o, g k = some o → o.kind = 5 ∧ o.l.length ≤ 128 ∧ Bys o.l
theorem bmap_none {g : Int → Option OB} {k : Int} : bmap g k ≠ none ↔ g k ≠ none := by
  unfold bmap
  cases g k <;> simp
theorem blkHd_ok {n k len gn : Nat} (hn : n ≤ 2048) (hk : k < n) (hl : len ≤ 128) (hg : gn ≤ 1099511627775) : Head.ok ⟨5, k, len, 0, gn⟩ := by
  refine ⟨by show 1 ≤ 5; omega, by show 5 ≤ 6; omega, fun q hq => ?_⟩
  match q, hq with
  | 0, _ => exact Nat.zero_le _
  | 1, _ => show k ≤ 2047; omega
  | 2, _ => exact Nat.le_trans hl (by decide)
  | 3, _ => exact hg
/-- what a commit does to the disk; true: all is there -/
def Dr.commit (σd : Dr) (σ : Ct) (g : Int → Option OB) (gn : Nat) : Dr × Bool :=
  if (σd.puts (putsW σ g gn (keysN (bmap g) σ.n))).2 then (σd.puts (putsW σ g gn (keysN (bmap g) σ.n))).1.flip σ gn else ((σd.puts (putsW σ g gn (keysN (bmap g) σ.n))).1, false)
set_option maxHeartbeats 16000000 in
theorem pcommit_c (p b gen bc m : Nat) (σ : Ct) (g : Int → Option OB) (σd : Dr) (h1 : 32 ≤ σ.n) (h2 : σ.n ≤ 2048) (hn : σd.n = σ.n) (hst : σd.steps < 800000000) (hgen : gen + 1 ≤ 1099511627775) (hbm : BmOk σ g) :
    Ctr Tryz.prog 16 [.pointer (some ⟨p, 0, none⟩)] [PoB p b gen σ.n bc m, CtA bc σ, MG m (bmap g), Obs g, DrA b σd]
    (fun v Bs => ((σd.commit σ g (gen + 1)).2 = true ∧ v = .int .i64 0 ∧ Bs = [PoB p b (gen + 1) σ.n bc m, CtA bc { σ with done := σ.now }, MG m (fun _ => none), DrA b (σd.commit σ g (gen + 1)).1]) ∨
      ((σd.commit σ g (gen + 1)).2 = false ∧ v = .int .i64 4 ∧ Bs = [PoB p b gen σ.n bc m, CtA bc σ, MG m (bmap g), Obs g, DrA b (σd.commit σ g (gen + 1)).1])) := by
  refine s_enter 104 [(0, _)] (fun F => [_, _, _, _, _, F]) Tryz.func16 fun F => ?_
  refine go_ ?_
  refine s_alloc fun r3 => ?_
  refine go_ ?_
  rw [show (gen : Int) + 1 = ((gen + 1 : Nat) : Int) by omega]
  refine s_call (sp := (by repeat (first | exact Split.nil | apply Split.perx (by repeat (first | with_reducible exact Sel.here | with_reducible apply Sel.there)) (by infer_instance) | apply Split.cons (by repeat (first | with_reducible exact Sel.here | with_reducible apply Sel.there))))) (hs := keys_c m) (h := ?_)
  rintro v Bs ⟨rk, rfl, rfl⟩
  refine go_ ?_
  refine s_call (sp := (by repeat (first | exact Split.nil | apply Split.perx (by repeat (first | with_reducible exact Sel.here | with_reducible apply Sel.there)) (by infer_instance) | apply Split.cons (by repeat (first | with_reducible exact Sel.here | with_reducible apply Sel.there))))) (hs := sorted_c m rk (bmap g) σ.n (by omega) (fun k hk => hbm.k k (bmap_none.1 hk))) (h := ?_)
  rintro v Bs ⟨ak, ck, rfl, rfl⟩
  refine go_ ?_
  have hkm := fun k => keysN_mem (gm := bmap g) (N := σ.n) (fun k hk => hbm.k k (bmap_none.1 hk)) k
  have hkl : (keysN (bmap g) σ.n).length ≤ σ.n := by
    unfold keysN
    refine Nat.le_trans (List.length_filter_le _ _) ?_
    simp
  generalize hK : keysN (bmap g) σ.n = ks at *
  refine s_loop (fun q : Nat × Dr => [(0, .pointer (some ⟨p, 0, none⟩)), (3, .pointer (some ⟨r3, 0, none⟩)), (24, .slice ak ks.length ck), (25, .int .i64 (ks.length : Nat)), (26, .int .i64 q.1)])
    (fun q => [SO 3 1 (.slice ak ks.length ck) ks.length (pathR ks), PoB p b gen σ.n bc m, CtA bc σ, MG m (bmap g), Obs g, DrA b q.2, Box r3 68 (supL (gen + 1) σ.n), F])
    (fun q => q.1 ≤ ks.length ∧ q.2.n = σ.n ∧ q.2.steps ≤ σd.steps + q.1 ∧ q.2.puts (putsW σ g (gen + 1) (ks.drop q.1)) = σd.puts (putsW σ g (gen + 1) ks)) (fun q => ks.length - q.1) (0, σd) ⟨Nat.zero_le _, hn, Nat.le_refl _, rfl⟩ (by repeat (first | exact Ent.nil | refine Ent.per (by repeat (first | with_reducible exact Sel.here | with_reducible apply Sel.there)) ?_ | refine Ent.cons (by repeat (first | with_reducible exact Sel.here | with_reducible apply Sel.there)) ?_)) ?_
  rintro ⟨i, σi⟩ ⟨hi, hin, hist, he⟩ next
  dsimp only at hi hin hist he next ⊢
  refine go_ ?_
  refine s_if (fun h => ?_) (fun h => ?_)
  · have hi2 : i < ks.length := by omega
    have hki : ks.getD i 0 = ks[i] := by simp [List.getD_eq_getElem?_getD, hi2]
    have hgk : g (ks.getD i 0) ≠ none := bmap_none.1 ((hkm _).1 (by rw [hki]; exact List.getElem_mem hi2))
    obtain ⟨o, ho⟩ : ∃ o, g (ks.getD i 0) = some o := by
      cases hq : g (ks.getD i 0) with
      | none => exact absurd hq hgk
      | some o => exact ⟨o, rfl⟩
    obtain ⟨hk1, hk2⟩ := hbm.k _ hgk
    obtain ⟨o1, o2, o3⟩ := hbm.o _ _ ho
    rw [List.drop_eq_getElem_cons hi2, ← hki, putsW, ho] at he
    obtain ⟨k, hk⟩ : ∃ k : Nat, ks.getD i 0 = (k : Int) := ⟨(ks.getD i 0).toNat, by omega⟩
    rw [hk] at ho hk1 hk2 he
    rw [Int.toNat_natCast] at he
    refine go_ ?_
    rw [hk]
    refine s_call (sp := (by repeat (first | exact Split.nil | apply Split.perx (by repeat (first | with_reducible exact Sel.here | with_reducible apply Sel.there)) (by infer_instance) | apply Split.cons (by repeat (first | with_reducible exact Sel.here | with_reducible apply Sel.there))))) (hs := pcountN_c p b gen σ.n bc m σ k (by omega)) (h := ?_)
    rintro v Bs ⟨rfl, rfl⟩
    dsimp only at he
    refine go_ ?_
    by_cases h0' : σ.now k = 0
    · rw [if_pos h0', List.nil_append] at he
      rw [show ((((σ.now k : Nat) : Int)) == 0) = true from beq_iff_eq.2 (by omega)]
      refine go_ ?_
      exact s_entF (by repeat (first | exact Ent.nil | refine Ent.per (by repeat (first | with_reducible exact Sel.here | with_reducible apply Sel.there)) ?_ | refine Ent.cons (by repeat (first | with_reducible exact Sel.here | with_reducible apply Sel.there)) ?_)) (s_keep _ (next (i + 1, σi) ⟨by dsimp only; omega, hin, by dsimp only; omega, he⟩ (by dsimp only; omega)))
    · rw [if_neg h0', List.singleton_append, Dr.puts] at he
      rw [show ((((σ.now k : Nat) : Int)) == 0) = false from beq_eq_false_iff_ne.2 (by omega)]
      dsimp only at he
      have hgm : bmap g (k : Int) = some o.v := by show (g k).map _ = _; rw [ho]; rfl
      refine go_ ?_
      refine s_look (lk_lks hgm) ?_
      refine go_ ?_
      refine s_alloc fun r6 => ?_
      refine go_ ?_
      refine s_call (sp := (by repeat (first | exact Split.nil | apply Split.perx (by repeat (first | with_reducible exact Sel.here | with_reducible apply Sel.there)) (by infer_instance) | apply Split.cons (by repeat (first | with_reducible exact Sel.here | with_reducible apply Sel.there))))) (hs := nwrite0_c (k : Int) ((gen + 1 : Nat) : Int)) (h := ?_)
      rintro v Bs ⟨rfl, rfl⟩
      refine go_ ?_
      rw [o1]
      refine s_obsG (k : Int) o (by repeat (first | with_reducible exact Sel.here | with_reducible apply Sel.there)) ho ?_
      refine go_ ?_
      refine s_call (sp := (by repeat (first | exact Split.nil | apply Split.perx (by repeat (first | with_reducible exact Sel.here | with_reducible apply Sel.there)) (by infer_instance) | apply Split.cons (by repeat (first | with_reducible exact Sel.here | with_reducible apply Sel.there))))) (hs := seal_c (a := o.a) (c := o.c) ⟨5, k, o.l.length, 0, gen + 1⟩ o.l (blkHd_ok h2 (by omega) o2 hgen) o3 (by omega)) (h := ?_)
      rintro v Bs ⟨rs, rfl, rfl⟩
      refine go_ ?_
      refine s_call (sp := (by repeat (first | exact Split.nil | apply Split.perx (by repeat (first | with_reducible exact Sel.here | with_reducible apply Sel.there)) (by infer_instance) | apply Split.cons (by repeat (first | with_reducible exact Sel.here | with_reducible apply Sel.there))))) (hs := dwrite_c b σi k (sealB ⟨5, k, o.l.length, 0, gen + 1⟩ o.l) (a := some ⟨rs, 0, none⟩) (c := 256) (by omega) ⟨sealB_len (by omega), sealB_bys o3⟩ (by omega)) (h := ?_)
      rintro v Bs ⟨rfl, rfl⟩
      obtain ⟨n1, n2⟩ := σi.write_n k (sealB ⟨5, k, o.l.length, 0, gen + 1⟩ o.l)
      cases hw : (σi.write k (sealB ⟨5, k, o.l.length, 0, gen + 1⟩ o.l)).2 with
      | true =>
        rw [hw, if_pos rfl] at he
        refine go_ ?_
        exact s_entF (by repeat (first | exact Ent.nil | refine Ent.per (by repeat (first | with_reducible exact Sel.here | with_reducible apply Sel.there)) ?_ | refine Ent.cons (by repeat (first | with_reducible exact Sel.here | with_reducible apply Sel.there)) ?_)) (s_keep _ (next (i + 1, (σi.write k (sealB ⟨5, k, o.l.length, 0, gen + 1⟩ o.l)).1) ⟨by dsimp only; omega, by dsimp only; omega, by dsimp only; omega, he⟩ (by dsimp only; omega)))
      | false =>
        rw [hw, if_neg (by simp)] at he
        have e1 : σd.commit σ g (gen + 1) = ((σi.write k (sealB ⟨5, k, o.l.length, 0, gen + 1⟩ o.l)).1, false) := by
          unfold Dr.commit; rw [hK, ← he]; rfl
        rw [e1]
        refine go_ ?_
        exact s_ret1 (rs := [.tmp 2]) Tryz.func16 rfl (by intro j; refine RVS.tmp _ rfl ?_; exact RVS.nil) (.inr ⟨rfl, rfl, rfl⟩) (by repeat (first | exact Ent.nil | refine Ent.per (by repeat (first | with_reducible exact Sel.here | with_reducible apply Sel.there)) ?_ | refine Ent.cons (by repeat (first | with_reducible exact Sel.here | with_reducible apply Sel.there)) ?_))
  · have : i = ks.length := by omega
    subst this
    rw [List.drop_length, putsW, Dr.puts] at he
    have e1 : σd.commit σ g (gen + 1) = σi.flip σ (gen + 1) := by
      unfold Dr.commit; rw [hK, ← he]; rfl
    rw [e1]
    refine go_ ?_
    refine s_front (a := DrA b σi) (by repeat (first | with_reducible exact Sel.here | with_reducible apply Sel.there)) ?_
    refine s_front (a := CtA bc σ) (by repeat (first | with_reducible exact Sel.here | with_reducible apply Sel.there)) ?_
    refine s_drawN 2 [.q 0, .q 1, .q 2, .q 3, .q 4, .q 5, .q 6, .q 7, .q 8, .s 9, .q 10] ?_
    refine do_ ?_
    refine d_step rfl (st_call (sp := (by repeat (first | exact Split.nil | apply Split.perx (by repeat (first | with_reducible exact Sel.here | with_reducible apply Sel.there)) (by infer_instance) | apply Split.cons (by repeat (first | with_reducible exact Sel.here | with_reducible apply Sel.there))))) (hs := pflip_c b bc σi σ (gen + 1) h1 h2 hin (by omega) hgen (by omega))) ?_
    rintro v Bs ⟨Cs, ⟨rfl, rfl⟩, rfl⟩
    refine do_ ?_
    refine go_ ?_
    cases hf : (σi.flip σ (gen + 1)).2 with
    | false =>
      refine go_ ?_
      exact s_ret1 (rs := [.tmp 2]) Tryz.func16 rfl (by intro j; refine RVS.tmp _ rfl ?_; exact RVS.nil) (.inr ⟨rfl, rfl, rfl⟩) (by repeat (first | exact Ent.nil | refine Ent.per (by repeat (first | with_reducible exact Sel.here | with_reducible apply Sel.there)) ?_ | refine Ent.cons (by repeat (first | with_reducible exact Sel.here | with_reducible apply Sel.there)) ?_))
    | true =>
      refine go_ ?_
      refine s_call (sp := (by repeat (first | exact Split.nil | apply Split.perx (by repeat (first | with_reducible exact Sel.here | with_reducible apply Sel.there)) (by infer_instance) | apply Split.cons (by repeat (first | with_reducible exact Sel.here | with_reducible apply Sel.there))))) (hs := ccommit_c bc σ) (h := ?_)
      rintro v Bs ⟨rfl, rfl⟩
      refine go_ ?_
      refine s_stepU (st_clm (by repeat (first | with_reducible exact Sel.here | with_reducible apply Sel.there))) ?_
      rintro v Bs rfl
      refine go_ ?_
      exact s_ret1 (rs := [.tmp 2]) Tryz.func16 rfl (by intro j; refine RVS.tmp _ rfl ?_; exact RVS.nil) (.inl ⟨rfl, rfl, rfl⟩) (by repeat (first | exact Ent.nil | refine Ent.per (by repeat (first | with_reducible exact Sel.here | with_reducible apply Sel.there)) ?_ | refine Ent.cons (by repeat (first | with_reducible exact Sel.here | with_reducible apply Sel.there)) ?_))
end Go.Proofs.YtgbbcpfnmkeijaaGreat
/- key.Put; num.take, num.TakeText. -/
namespace Go.Proofs.YtgbbcpfnmkeijaaGreat
open Go.Cam
set_option maxRecDepth 100000
/-- a key's bytes -/
def keyP (k : Key) : List Nat := putN k.obj.toNat 4 ++ putN k.kind.toNat 1 ++ putN k.off.toNat 4
theorem keyP_len (k : Key) : (keyP k).length = 9 := by simp [keyP, putN_len]
theorem keyP_bys (k : Key) : Bys (keyP k) := by
  unfold keyP
  intro c hc
  simp only [List.mem_append] at hc
  rcases hc with (h | h) | h <;> exact putN_lt _ _ c h
theorem kput_c {a : Option Addr} {c : Nat} (l : List Nat) (k : Key) (hk : k.ok = true) (hl : l.length < 1000000 - 9) : Ctr Tryz.prog 83 [.slice a l.length c, k.v] [BS (.slice a l.length c) l]
    (fun v Bs => ∃ a' c', v = .slice a' (l ++ keyP k).length c' ∧ Bs = [BS (.slice a' (l ++ keyP k).length c') (l ++ keyP k)]) := by
  obtain ⟨h1, h2, h3, h4, h5, h6⟩ := of_decide_eq_true hk
  refine s_enter 15 [(0, _), (1, _)] (fun F => [_, F]) Tryz.func83 fun F => ?_
  refine go_ ?_
  refine s_box fun r3 => ?_
  refine go_ ?_
  obtain ⟨x, hx⟩ : ∃ x : Nat, k.obj = (x : Int) := ⟨k.obj.toNat, by omega⟩
  obtain ⟨y, hy⟩ : ∃ y : Nat, k.kind = (y : Int) := ⟨k.kind.toNat, by omega⟩
  obtain ⟨z, hz⟩ : ∃ z : Nat, k.off = (z : Int) := ⟨k.off.toNat, by omega⟩
  have e : keyP k = putN x 4 ++ putN y 1 ++ putN z 4 := by unfold keyP; rw [hx, hy, hz]; rfl
  rw [e, hx, hy, hz]
  refine s_front (a := BS (.slice a l.length c) l) (by repeat (first | with_reducible exact Sel.here | with_reducible apply Sel.there)) ?_
  refine s_drawN 1 [.q 0, .q 1, .q 2, .q 4, .q 5, .q 7, .q 8, .s 3, .s 6, .s 9, .q 10] ?_
  refine do_ ?_
  refine d_step rfl (st_call (sp := (by repeat (first | exact Split.nil | apply Split.perx (by repeat (first | with_reducible exact Sel.here | with_reducible apply Sel.there)) (by infer_instance) | apply Split.cons (by repeat (first | with_reducible exact Sel.here | with_reducible apply Sel.there))))) (hs := put_f (a := a) (c := c) l x 4 (by decide) (by decide) (by omega) (by omega))) ?_
  rintro v Bs ⟨Cs, ⟨a1, c1, rfl, rfl⟩, rfl⟩
  refine do_ ?_
  refine d_step rfl (st_call (sp := (by repeat (first | exact Split.nil | apply Split.perx (by repeat (first | with_reducible exact Sel.here | with_reducible apply Sel.there)) (by infer_instance) | apply Split.cons (by repeat (first | with_reducible exact Sel.here | with_reducible apply Sel.there))))) (hs := put_f (a := a1) (c := c1) (l ++ putN x 4) y 1 (by decide) (by decide) (by omega) (by simp [putN_len]; omega))) ?_
  rintro v Bs ⟨Cs, ⟨a2, c2, rfl, rfl⟩, rfl⟩
  refine do_ ?_
  refine d_step rfl (st_call (sp := (by repeat (first | exact Split.nil | apply Split.perx (by repeat (first | with_reducible exact Sel.here | with_reducible apply Sel.there)) (by infer_instance) | apply Split.cons (by repeat (first | with_reducible exact Sel.here | with_reducible apply Sel.there))))) (hs := put_f (a := a2) (c := c2) (l ++ putN x 4 ++ putN y 1) z 4 (by decide) (by decide) (by omega) (by simp [putN_len]; omega))) ?_
  rintro v Bs ⟨Cs, ⟨a3, c3, rfl, rfl⟩, rfl⟩
  refine do_ ?_
  refine go_ ?_
  rw [show l ++ putN x 4 ++ putN y 1 ++ putN z 4 = l ++ (putN x 4 ++ putN y 1 ++ putN z 4) by simp]
  exact s_ret1 (rs := [.tmp 4]) Tryz.func83 rfl (by intro j; refine RVS.tmp _ rfl ?_; exact RVS.nil) (⟨a3, c3, rfl, rfl⟩) (by repeat (first | exact Ent.nil | refine Ent.per (by repeat (first | with_reducible exact Sel.here | with_reducible apply Sel.there)) ?_ | refine Ent.cons (by repeat (first | with_reducible exact Sel.here | with_reducible apply Sel.there)) ?_))
end Go.Proofs.YtgbbcpfnmkeijaaGreat
/- node.Write. -/
namespace Go.Proofs.YtgbbcpfnmkeijaaGreat
open Go.Cam
set_option maxRecDepth 100000
/-- an item's and a kid's bytes, and a node's -/
def itB (x : Item) : List Nat := keyP x.key ++ putN x.val.length 1 ++ x.val
def kdB (x : Kid) : List Nat := keyP x.key ++ putN x.addr.toNat 2
def nodB (x : Node) : List Nat := x.items.flatMap itB ++ x.kids.flatMap kdB
def nodH (x : Node) (k gn : Nat) : Head := ⟨if x.level = 0 then 3 else 4, k, x.items.length + x.kids.length, x.level.toNat, gn⟩
theorem itB_len (x : Item) : (itB x).length = 10 + x.val.length := by simp [itB, keyP_len, putN_len]; omega
theorem kdB_len (x : Kid) : (kdB x).length = 11 := by simp [kdB, keyP_len, putN_len]
theorem flatMap_le {α : Type} {f : α → List Nat} {m : Nat} : ∀ (l : List α), (∀ x ∈ l, (f x).length ≤ m) → (l.flatMap f).length ≤ m * l.length
  | [], _ => by simp
  | x :: l, h => by
    have ih := flatMap_le l fun y hy => h y (List.mem_cons_of_mem _ hy)
    have := h x (List.mem_cons_self ..)
    rw [List.flatMap_cons, List.length_append, List.length_cons, Nat.mul_add]
    omega
theorem take_flatMap {α : Type} [Inhabited α] (f : α → List Nat) (l : List α) (i : Nat) (hi : i < l.length) : (l.take (i + 1)).flatMap f = (l.take i).flatMap f ++ f (l.getD i default) := by
  rw [List.take_add_one, List.flatMap_append, List.getElem?_eq_getElem hi, List.getD_eq_getElem?_getD, List.getElem?_eq_getElem hi]
  simp
theorem bys_flatMap {α : Type} {f : α → List Nat} {l : List α} (h : ∀ x ∈ l, Bys (f x)) : Bys (l.flatMap f) := fun c hc => by
  obtain ⟨x, hx, h2⟩ := List.mem_flatMap.1 hc
  exact h x hx c h2
theorem bys_app {a b : List Nat} (ha : Bys a) (hb : Bys b) : Bys (a ++ b) := fun c hc => (List.mem_append.1 hc).elim (ha c) (hb c)
theorem rcat_bys (l r : List Nat) : ∀ q, q < l.length + r.length → rcat l.length (byR l) (byR r) q = byR (l ++ r) q := fun q _ => by
  unfold rcat byR
  by_cases h : q < l.length
  · rw [if_pos h]; simp [List.getD_eq_getElem?_getD, List.getElem?_append_left h]
  · rw [if_neg h]; simp [List.getD_eq_getElem?_getD, List.getElem?_append_right (Nat.le_of_not_lt h)]
set_option maxHeartbeats 16000000 in
theorem nwrite_c (x : Node) (u : Plc) (hok : nodeOk x = true) (hb : ∀ y ∈ x.items, Bys y.val) (k gn : Nat) (hk : k ≤ 2047) (hg : gn ≤ 1099511627775) : Ctr Tryz.prog 44 [nodeV x.level u.a x.items.length u.c u.b x.kids.length u.d, .int .i64 k, .int .i64 gn] [Nd1 x u, Nd2 x u, Nd3 x u]
    (fun v Bs => ∃ r, v = .tuple #[.slice (some ⟨r, 0, none⟩) 256 256, .int .i64 0] ∧ Bs = [SA none 1 (.slice (some ⟨r, 0, none⟩) 256 256) 256 (byR (sealB (nodH x k gn) (nodB x)))]) := by
  have hsh : (x.level = 0 ∧ x.kids.length = 0 ∧ x.items.length ≤ 6) ∨ (1 ≤ x.level ∧ x.level ≤ 7 ∧ x.items.length = 0 ∧ x.kids.length ≤ 12) := by
    unfold nodeOk at hok
    split at hok
    · rename_i h
      simp only [Bool.and_eq_true, decide_eq_true_eq] at hok
      exact .inl ⟨h, hok.1.1.2, hok.1.2.2⟩
    · simp only [Bool.and_eq_true, decide_eq_true_eq] at hok
      exact .inr ⟨hok.1.1.1.2.1, hok.1.1.1.2.2, hok.1.1.2, hok.1.2.2⟩
  have hv28 : ∀ i, i < x.items.length → (x.items.getD i default).val.length ≤ 28 := by
    unfold nodeOk at hok
    split at hok
    · simp only [Bool.and_eq_true, decide_eq_true_eq] at hok; exact hok.1.1.1
    · simp only [Bool.and_eq_true, decide_eq_true_eq] at hok; intro i hi; omega
  have hik : ∀ i, i < x.items.length → (x.items.getD i default).key.ok = true := fun i hi => by
    have h : KeysRise (x.items.map Item.key) := by
      unfold nodeOk at hok
      split at hok
      · simp only [Bool.and_eq_true, decide_eq_true_eq] at hok; exact hok.2
      · simp only [Bool.and_eq_true, decide_eq_true_eq] at hok; omega
    have := (h i (by simpa using hi)).1
    simpa [List.getD_eq_getElem?_getD, hi] using this
  have hkk : ∀ i, i < x.kids.length → (x.kids.getD i default).key.ok = true ∧ 1 ≤ (x.kids.getD i default).addr ∧ (x.kids.getD i default).addr ≤ 2047 := fun i hi => by
    unfold nodeOk at hok
    split at hok
    · simp only [Bool.and_eq_true, decide_eq_true_eq] at hok; omega
    · simp only [Bool.and_eq_true, decide_eq_true_eq] at hok
      have := (hok.2 i (by simpa using hi)).1
      exact ⟨by simpa [List.getD_eq_getElem?_getD, hi] using this, hok.1.1.1.1 i hi⟩
  have hil : ∀ i, i ≤ x.items.length → ((x.items.take i).flatMap itB).length ≤ 38 * i := fun i hi => by
    have := flatMap_le (f := itB) (m := 38) (x.items.take i) fun y hy => by
      obtain ⟨q, hq, rfl⟩ := List.mem_iff_getElem.1 (List.mem_of_mem_take hy)
      have := hv28 q hq
      rw [itB_len]
      rw [List.getD_eq_getElem?_getD, List.getElem?_eq_getElem hq, Option.getD_some] at this
      omega
    rw [List.length_take, Nat.min_eq_left hi] at this
    exact this
  have hkl : ∀ i, i ≤ x.kids.length → ((x.kids.take i).flatMap kdB).length ≤ 11 * i := fun i hi => by
    have := flatMap_le (f := kdB) (m := 11) (x.kids.take i) fun y _ => by rw [kdB_len]; omega
    rw [List.length_take, Nat.min_eq_left hi] at this
    exact this
  refine s_enter 72 [(0, _), (1, _), (2, _)] (fun F => [_, _, _, F]) Tryz.func44 fun F => ?_
  refine go_ ?_
  refine s_box fun r3 => ?_
  refine go_ ?_
  refine s_call (sp := (by repeat (first | exact Split.nil | apply Split.perx (by repeat (first | with_reducible exact Sel.here | with_reducible apply Sel.there)) (by infer_instance) | apply Split.cons (by repeat (first | with_reducible exact Sel.here | with_reducible apply Sel.there))))) (hs := nmay_c x (a := u.a) (b := u.b) (n := x.items.length) (c := u.c) (m := x.kids.length) (d := u.d) (w := u.w) rfl rfl (by omega) (by omega) (fun i hi => by have := hv28 i hi; omega)) (h := ?_)
  rintro v Bs ⟨rfl, rfl⟩
  rw [hok]
  refine go_ ?_
  refine s_alloc fun r8 => ?_
  refine go_ ?_
  refine s_nilN (sz := 1) (m := 0) (row := byR []) rfl ?_
  refine s_open (B := BS (.slice none ((x.items.take 0).flatMap itB).length 0) ((x.items.take 0).flatMap itB)) (fun _ _ q => q) ?_
  refine s_loop (fun q : Nat × Option Addr × Nat => [(3, .pointer (some ⟨r3, 0, none⟩)), (8, .pointer (some ⟨r8, 0, none⟩)), (9, .slice q.2.1 ((x.items.take q.1).flatMap itB).length q.2.2), (30, .slice u.a x.items.length u.c), (31, .int .i64 (x.items.length : Nat)), (32, .int .i64 q.1)])
    (fun q => [BS (.slice q.2.1 ((x.items.take q.1).flatMap itB).length q.2.2) ((x.items.take q.1).flatMap itB), Box r8 109 [.int .i64 3, .int .i64 k, .int .i64 (x.items.length + x.kids.length : Nat), .int .i64 x.level, .int .i64 gn], Box r3 88 [.int .i64 x.level, .slice u.a x.items.length u.c, .slice u.b x.kids.length u.d], Nd1 x u, Nd2 x u, Nd3 x u, F])
    (fun q => q.1 ≤ x.items.length) (fun q => x.items.length - q.1) (0, none, 0) (Nat.zero_le _) (by repeat (first | exact Ent.nil | refine Ent.per (by repeat (first | with_reducible exact Sel.here | with_reducible apply Sel.there)) ?_ | refine Ent.cons (by repeat (first | with_reducible exact Sel.here | with_reducible apply Sel.there)) ?_)) ?_
  rintro ⟨i, a, c⟩ hi next
  dsimp only at hi next ⊢
  refine go_ ?_
  refine s_if (fun h => ?_) (fun h => ?_)
  · have hi2 : i < x.items.length := by omega
    have h38 := hil i hi
    have hv := hv28 i hi2
    have hko := hik i hi2
    have htk := take_flatMap itB x.items i hi2
    refine go_ ?_
    refine s_alloc fun r11 => ?_
    refine go_ ?_
    refine s_get i (F := itemFam u.w x.items) (m := x.items.length) (by repeat (first | with_reducible exact Sel.here | with_reducible apply Sel.there)) hi2 ?_
    generalize hV : x.items.getD i default = y at *
    generalize hW : u.w i = wi at *
    refine s_open (B := BS (.slice wi.1 y.val.length wi.2) y.val) (fun H M q => by rw [← hV, ← hW]; exact q) ?_
    refine s_front (a := BS (.slice a ((x.items.take i).flatMap itB).length c) ((x.items.take i).flatMap itB)) (by repeat (first | with_reducible exact Sel.here | with_reducible apply Sel.there)) ?_
    generalize (x.items.take i).flatMap itB = L at *
    refine s_front (a := BS (.slice wi.1 y.val.length wi.2) y.val) (by repeat (first | with_reducible exact Sel.here | with_reducible apply Sel.there)) ?_
    have hlen : (L ++ keyP y.key ++ putN y.val.length 1).length = L.length + 10 := by
      rw [List.length_append, List.length_append, keyP_len, putN_len]
    refine s_drawN 2 [.q 0, .q 1, .q 2, .q 4, .q 5, .q 6, .q 8, .q 9, .s 3, .s 7, .s 10, .q 11] ?_
    refine do_ ?_
    refine d_step rfl (st_call (sp := (by repeat (first | exact Split.nil | apply Split.perx (by repeat (first | with_reducible exact Sel.here | with_reducible apply Sel.there)) (by infer_instance) | apply Split.cons (by repeat (first | with_reducible exact Sel.here | with_reducible apply Sel.there))))) (hs := kput_c (a := a) (c := c) L y.key hko (by omega))) ?_
    rintro v Bs ⟨Cs, ⟨a1, c1, rfl, rfl⟩, rfl⟩
    refine do_ ?_
    refine d_step rfl (st_call (sp := (by repeat (first | exact Split.nil | apply Split.perx (by repeat (first | with_reducible exact Sel.here | with_reducible apply Sel.there)) (by infer_instance) | apply Split.cons (by repeat (first | with_reducible exact Sel.here | with_reducible apply Sel.there))))) (hs := put_c (a := a1) (c := c1) (L ++ keyP y.key) y.val.length 1 (by decide) (by decide) (by omega) (by rw [List.length_append, keyP_len]; omega))) ?_
    rintro v Bs ⟨Cs, ⟨a2, c2, rfl, rfl⟩, rfl⟩
    refine do_ ?_
    refine d_open SO.of ?_
    refine d_step rfl (st_appO (a := a2) (len := (L ++ keyP y.key ++ putN y.val.length 1).length) (cap := c2) (b := wi.1) (m := y.val.length) (c := wi.2) (row2 := byR y.val) (by repeat (first | with_reducible exact Sel.here | with_reducible apply Sel.there)) (by repeat (first | with_reducible exact SelR.here | with_reducible apply SelR.there)) (by rw [flat_byR']; exact bcl_one _) (by rw [hlen]; omega)) ?_
    rintro v Bs ⟨a3, c3, rfl, rfl⟩
    refine d_open (SO.cg (byR (L ++ keyP y.key ++ putN y.val.length 1 ++ y.val)) (rcat_bys _ _)) ?_
    refine do_ ?_
    refine go_ ?_
    have eL : L ++ keyP y.key ++ putN y.val.length 1 ++ y.val = L ++ itB y := by unfold itB; simp
    rw [show (L ++ keyP y.key ++ putN y.val.length 1).length + y.val.length = (L ++ itB y).length by rw [← eL, List.length_append (bs := y.val)], eL]
    refine s_fzO (e := 5) (v := .slice a3 (L ++ itB y).length c3) (by repeat (first | with_reducible exact Sel.here | with_reducible apply Sel.there)) ?_
    have nx := next (i + 1, a3, c3)
    rw [htk] at nx
    exact s_entF (by repeat (first | exact Ent.nil | refine Ent.per (by repeat (first | with_reducible exact Sel.here | with_reducible apply Sel.there)) ?_ | refine Ent.cons (by repeat (first | with_reducible exact Sel.here | with_reducible apply Sel.there)) ?_)) (s_keep _ (nx (by dsimp only; omega) (by dsimp only; omega)))
  · have : i = x.items.length := by omega
    subst this
    have hI := hil x.items.length (Nat.le_refl _)
    have hK := hkl x.kids.length (Nat.le_refl _)
    have eN : nodB x = x.items.flatMap itB ++ (x.kids.take x.kids.length).flatMap kdB := by unfold nodB; rw [List.take_length]
    rw [List.take_length] at hI ⊢
    have hbI : Bys (x.items.flatMap itB) := bys_flatMap fun y hy => by
      unfold itB
      exact bys_app (bys_app (keyP_bys _) (putN_lt _ _)) (hb y hy)
    generalize x.items.flatMap itB = I at *
    refine go_ ?_
    refine s_open (B := BS (.slice a (I ++ (x.kids.take 0).flatMap kdB).length c) (I ++ (x.kids.take 0).flatMap kdB)) (fun _ _ q => by rw [List.take_zero, List.flatMap_nil, List.append_nil]; exact q) ?_
    rw [show I.length = (I ++ (x.kids.take 0).flatMap kdB).length by simp]
    refine s_loop (fun q : Nat × Option Addr × Nat => [(3, .pointer (some ⟨r3, 0, none⟩)), (8, .pointer (some ⟨r8, 0, none⟩)), (9, .slice q.2.1 (I ++ (x.kids.take q.1).flatMap kdB).length q.2.2), (49, .slice u.b x.kids.length u.d), (50, .int .i64 (x.kids.length : Nat)), (51, .int .i64 q.1)])
      (fun q => [BS (.slice q.2.1 (I ++ (x.kids.take q.1).flatMap kdB).length q.2.2) (I ++ (x.kids.take q.1).flatMap kdB), Box r8 109 [.int .i64 3, .int .i64 k, .int .i64 (x.items.length + x.kids.length : Nat), .int .i64 x.level, .int .i64 gn], Box r3 88 [.int .i64 x.level, .slice u.a x.items.length u.c, .slice u.b x.kids.length u.d], Nd1 x u, Nd2 x u, Nd3 x u, F])
      (fun q => q.1 ≤ x.kids.length) (fun q => x.kids.length - q.1) (0, a, c) (Nat.zero_le _) (by repeat (first | exact Ent.nil | refine Ent.per (by repeat (first | with_reducible exact Sel.here | with_reducible apply Sel.there)) ?_ | refine Ent.cons (by repeat (first | with_reducible exact Sel.here | with_reducible apply Sel.there)) ?_)) ?_
    rintro ⟨j, a, c⟩ hj next
    dsimp only at hj next ⊢
    refine go_ ?_
    refine s_if (fun h2 => ?_) (fun h2 => ?_)
    · have hj2 : j < x.kids.length := by omega
      have h11 := hkl j hj
      obtain ⟨hko, ha1, ha2⟩ := hkk j hj2
      have htk := take_flatMap kdB x.kids j hj2
      refine go_ ?_
      refine s_alloc fun r13 => ?_
      refine go_ ?_
      generalize hV : x.kids.getD j default = y at *
      have nx := fun q : Option Addr × Nat => next (j + 1, q)
      dsimp only at nx
      rw [htk, ← List.append_assoc] at nx
      have hLl : (I ++ (x.kids.take j).flatMap kdB).length ≤ 38 * x.items.length + 11 * j := by rw [List.length_append]; omega
      generalize I ++ (x.kids.take j).flatMap kdB = L at *
      obtain ⟨ad, had⟩ : ∃ ad : Nat, y.addr = (ad : Int) := ⟨y.addr.toNat, by omega⟩
      have eL : L ++ keyP y.key ++ putN ad 2 = L ++ kdB y := by unfold kdB; rw [had]; simp
      rw [had]
      refine s_front (a := BS (.slice a L.length c) L) (by repeat (first | with_reducible exact Sel.here | with_reducible apply Sel.there)) ?_
      refine s_drawN 1 [.q 0, .q 1, .q 2, .q 4, .q 5, .s 3, .s 6, .q 7] ?_
      refine do_ ?_
      refine d_step rfl (st_call (sp := (by repeat (first | exact Split.nil | apply Split.perx (by repeat (first | with_reducible exact Sel.here | with_reducible apply Sel.there)) (by infer_instance) | apply Split.cons (by repeat (first | with_reducible exact Sel.here | with_reducible apply Sel.there))))) (hs := kput_c (a := a) (c := c) L y.key hko (by omega))) ?_
      rintro v Bs ⟨Cs, ⟨a1, c1, rfl, rfl⟩, rfl⟩
      refine do_ ?_
      refine d_step rfl (st_call (sp := (by repeat (first | exact Split.nil | apply Split.perx (by repeat (first | with_reducible exact Sel.here | with_reducible apply Sel.there)) (by infer_instance) | apply Split.cons (by repeat (first | with_reducible exact Sel.here | with_reducible apply Sel.there))))) (hs := put_f (a := a1) (c := c1) (L ++ keyP y.key) ad 2 (by decide) (by decide) (by omega) (by rw [List.length_append, keyP_len]; omega))) ?_
      rintro v Bs ⟨Cs, ⟨a2, c2, rfl, rfl⟩, rfl⟩
      rw [eL]
      refine do_ ?_
      refine go_ ?_
      exact s_entF (by repeat (first | exact Ent.nil | refine Ent.per (by repeat (first | with_reducible exact Sel.here | with_reducible apply Sel.there)) ?_ | refine Ent.cons (by repeat (first | with_reducible exact Sel.here | with_reducible apply Sel.there)) ?_)) (s_keep _ (nx (a2, c2) (by omega) (by omega)))
    · have : j = x.kids.length := by omega
      subst this
      have hBl : (nodB x).length ≤ 236 := by
        rw [eN, List.length_append]; omega
      have hBb : Bys (nodB x) := by
        rw [eN]
        exact bys_app hbI (bys_flatMap fun y _ => by unfold kdB; exact bys_app (keyP_bys _) (putN_lt _ _))
      rw [← eN]
      refine go_ ?_
      obtain ⟨lv, hlv⟩ : ∃ lv : Nat, x.level = (lv : Int) := ⟨x.level.toNat, by omega⟩
      have hho : ∀ kd : Nat, 3 ≤ kd → kd ≤ 4 → Head.ok ⟨kd, k, x.items.length + x.kids.length, lv, gn⟩ := fun kd h3 h4 => by
        refine ⟨by show 1 ≤ kd; omega, by show kd ≤ 6; omega, fun q hq => ?_⟩
        match q, hq with
        | 0, _ => show lv ≤ 8; omega
        | 1, _ => exact hk
        | 2, _ => show x.items.length + x.kids.length ≤ 65535; omega
        | 3, _ => exact hg
      have eH : ∀ kd : Nat, kd = (if x.level = 0 then 3 else 4) → nodH x k gn = ⟨kd, k, x.items.length + x.kids.length, lv, gn⟩ := fun kd h => by
        unfold nodH; rw [← h, hlv]; rfl
      rw [hlv]
      refine s_if (fun h3 => ?_) (fun h3 => ?_)
      · refine go_ ?_
        rw [eH 4 (by rw [if_neg (by omega)])]
        refine s_call (sp := (by repeat (first | exact Split.nil | apply Split.perx (by repeat (first | with_reducible exact Sel.here | with_reducible apply Sel.there)) (by infer_instance) | apply Split.cons (by repeat (first | with_reducible exact Sel.here | with_reducible apply Sel.there))))) (hs := seal_c (a := a) (c := c) ⟨4, k, x.items.length + x.kids.length, lv, gn⟩ (nodB x) (hho 4 (by decide) (by decide)) hBb hBl) (h := ?_)
        rintro v Bs ⟨r, rfl, rfl⟩
        refine go_ ?_
        exact s_rett (rs := [.tmp 6, .tmp 7]) (vs := [_, _]) Tryz.func44 rfl (by intro j; refine RVS.tmp _ rfl ?_; refine RVS.tmp _ rfl ?_; exact RVS.nil) rfl (⟨r, rfl, rfl⟩) (by repeat (first | exact Ent.nil | refine Ent.per (by repeat (first | with_reducible exact Sel.here | with_reducible apply Sel.there)) ?_ | refine Ent.cons (by repeat (first | with_reducible exact Sel.here | with_reducible apply Sel.there)) ?_))
      · refine go_ ?_
        rw [eH 3 (by rw [if_pos (by omega)])]
        refine s_call (sp := (by repeat (first | exact Split.nil | apply Split.perx (by repeat (first | with_reducible exact Sel.here | with_reducible apply Sel.there)) (by infer_instance) | apply Split.cons (by repeat (first | with_reducible exact Sel.here | with_reducible apply Sel.there))))) (hs := seal_c (a := a) (c := c) ⟨3, k, x.items.length + x.kids.length, lv, gn⟩ (nodB x) (hho 3 (by decide) (by decide)) hBb hBl) (h := ?_)
        rintro v Bs ⟨r, rfl, rfl⟩
        refine go_ ?_
        exact s_rett (rs := [.tmp 6, .tmp 7]) (vs := [_, _]) Tryz.func44 rfl (by intro j; refine RVS.tmp _ rfl ?_; refine RVS.tmp _ rfl ?_; exact RVS.nil) rfl (⟨r, rfl, rfl⟩) (by repeat (first | exact Ent.nil | refine Ent.per (by repeat (first | with_reducible exact Sel.here | with_reducible apply Sel.there)) ?_ | refine Ent.cons (by repeat (first | with_reducible exact Sel.here | with_reducible apply Sel.there)) ?_))
end Go.Proofs.YtgbbcpfnmkeijaaGreat
