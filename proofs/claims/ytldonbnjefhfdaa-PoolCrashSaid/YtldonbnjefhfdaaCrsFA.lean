/- pool.Commit. -/
import Derived.Test.YtldonbnjefhfdaaCrsBA
import Derived.Test.YtldonbnjefhfdaaCrsCD
import Derived.Test.YtldonbnjefhfdaaCamAR
namespace Go.Proofs.Ytldonbnjefhfdaa
open Go.Cam
set_option maxRecDepth 100000
/-- the blocks that a commit writes -/
def putsW (σ : Ct) (g : Int → Option OB) (gn : Nat) : List Int → List (Nat × List Nat)
  | [] => []
  | k :: ks => (match g k with | some o => if σ.now k.toNat = 0 then [] else [(k.toNat, sealB ⟨5, k.toNat, o.l.length, 0, gn⟩ o.l)] | none => []) ++ putsW σ g gn ks
def Dr.puts (σ : Dr) : List (Nat × List Nat) → Dr × Bool
  | [] => (σ, true)
  | x :: ws => if (σ.write x.1 x.2).2 then (σ.write x.1 x.2).1.puts ws else ((σ.write x.1 x.2).1, false)
structure BmOk (σ : Ct) (g : Int → Option OB) : Prop where
  k : ∀ k, g k ≠ none → 0 ≤ k ∧ k < (σ.n : Nat)
  o : ∀ k o, g k = some o → o.kind = 5 ∧ o.l.length ≤ 128 ∧ Bys o.l
theorem bmap_none {g : Int → Option OB} {k : Int} : bmap g k ≠ none ↔ g k ≠ none := by
  unfold bmap
  cases g k <;> simp
theorem blkHd_ok {n k len gn : Nat} (hn : n ≤ 2048) (hk : k < n) (hl : len ≤ 128) (hg : gn ≤ 1099511627775) : Head.ok ⟨5, k, len, 0, gn⟩ := by
  refine ⟨by show 1 ≤ 5; omega, by show 5 ≤ 6; omega, fun q hq => ?_⟩
  match q, hq with
  | 0, _ => exact Nat.zero_le _
  | 1, _ => show k ≤ 2047; omega
  | 2, _ => exact Nat.le_trans hl (by decide)
  | 3, _ => exact hg
/-- what a commit does to the disk; true: all is there -/
def Dr.commit (σd : Dr) (σ : Ct) (g : Int → Option OB) (gn : Nat) : Dr × Bool :=
  if (σd.puts (putsW σ g gn (keysN (bmap g) σ.n))).2 then (σd.puts (putsW σ g gn (keysN (bmap g) σ.n))).1.flip σ gn else ((σd.puts (putsW σ g gn (keysN (bmap g) σ.n))).1, false)
set_option maxHeartbeats 16000000 in
theorem pcommit_c (p b gen bc m : Nat) (σ : Ct) (g : Int → Option OB) (σd : Dr) (h1 : 32 ≤ σ.n) (h2 : σ.n ≤ 2048) (hn : σd.n = σ.n) (hst : σd.steps < 800000000) (hgen : gen + 1 ≤ 1099511627775) (hbm : BmOk σ g) :
    Ctr Try.prog 9 [.pointer (some ⟨p, 0, none⟩)] [PoB p b gen σ.n bc m, CtA bc σ, MG m (bmap g), Obs g, DrA b σd]
    (fun v Bs => ((σd.commit σ g (gen + 1)).2 = true ∧ v = .int .i64 0 ∧ Bs = [PoB p b (gen + 1) σ.n bc m, CtA bc { σ with done := σ.now }, MG m (fun _ => none), DrA b (σd.commit σ g (gen + 1)).1]) ∨
      ((σd.commit σ g (gen + 1)).2 = false ∧ v = .int .i64 4 ∧ Bs = [PoB p b gen σ.n bc m, CtA bc σ, MG m (bmap g), Obs g, DrA b (σd.commit σ g (gen + 1)).1])) := by
  refine s_enter 104 [(0, _)] (fun F => [_, _, _, _, _, F]) Try.func9 fun F => ?_
  refine go_ ?_
  refine s_alloc fun r3 => ?_
  refine go_ ?_
  rw [show (gen : Int) + 1 = ((gen + 1 : Nat) : Int) by omega]
  refine s_call (sp := (by repeat (first | exact Split.nil | apply Split.perx (by repeat (first | with_reducible exact Sel.here | with_reducible apply Sel.there)) (by infer_instance) | apply Split.cons (by repeat (first | with_reducible exact Sel.here | with_reducible apply Sel.there))))) (hs := keys_c m) (h := ?_)
  rintro v Bs ⟨rk, rfl, rfl⟩
  refine go_ ?_
  refine s_call (sp := (by repeat (first | exact Split.nil | apply Split.perx (by repeat (first | with_reducible exact Sel.here | with_reducible apply Sel.there)) (by infer_instance) | apply Split.cons (by repeat (first | with_reducible exact Sel.here | with_reducible apply Sel.there))))) (hs := sorted_c m rk (bmap g) σ.n (by omega) (fun k hk => hbm.k k (bmap_none.1 hk))) (h := ?_)
  rintro v Bs ⟨ak, ck, rfl, rfl⟩
  refine go_ ?_
  have hkm := fun k => keysN_mem (gm := bmap g) (N := σ.n) (fun k hk => hbm.k k (bmap_none.1 hk)) k
  have hkl : (keysN (bmap g) σ.n).length ≤ σ.n := by
    unfold keysN
    refine Nat.le_trans (List.length_filter_le _ _) ?_
    simp
  generalize hK : keysN (bmap g) σ.n = ks at *
  refine s_loop (fun q : Nat × Dr => [(0, .pointer (some ⟨p, 0, none⟩)), (3, .pointer (some ⟨r3, 0, none⟩)), (24, .slice ak ks.length ck), (25, .int .i64 (ks.length : Nat)), (26, .int .i64 q.1)])
    (fun q => [SO 3 1 (.slice ak ks.length ck) ks.length (pathR ks), PoB p b gen σ.n bc m, CtA bc σ, MG m (bmap g), Obs g, DrA b q.2, Box r3 47 (supL (gen + 1) σ.n), F])
    (fun q => q.1 ≤ ks.length ∧ q.2.n = σ.n ∧ q.2.steps ≤ σd.steps + q.1 ∧ q.2.puts (putsW σ g (gen + 1) (ks.drop q.1)) = σd.puts (putsW σ g (gen + 1) ks)) (fun q => ks.length - q.1) (0, σd) ⟨Nat.zero_le _, hn, Nat.le_refl _, rfl⟩ (by repeat (first | exact Ent.nil | refine Ent.per (by repeat (first | with_reducible exact Sel.here | with_reducible apply Sel.there)) ?_ | refine Ent.cons (by repeat (first | with_reducible exact Sel.here | with_reducible apply Sel.there)) ?_)) ?_
  rintro ⟨i, σi⟩ ⟨hi, hin, hist, he⟩ next
  dsimp only at hi hin hist he next ⊢
  refine go_ ?_
  refine s_if (fun h => ?_) (fun h => ?_)
  · have hi2 : i < ks.length := by omega
    have hki : ks.getD i 0 = ks[i] := by simp [List.getD_eq_getElem?_getD, hi2]
    have hgk : g (ks.getD i 0) ≠ none := bmap_none.1 ((hkm _).1 (by rw [hki]; exact List.getElem_mem hi2))
    obtain ⟨o, ho⟩ : ∃ o, g (ks.getD i 0) = some o := by
      cases hq : g (ks.getD i 0) with
      | none => exact absurd hq hgk
      | some o => exact ⟨o, rfl⟩
    obtain ⟨hk1, hk2⟩ := hbm.k _ hgk
    obtain ⟨o1, o2, o3⟩ := hbm.o _ _ ho
    rw [List.drop_eq_getElem_cons hi2, ← hki, putsW, ho] at he
    obtain ⟨k, hk⟩ : ∃ k : Nat, ks.getD i 0 = (k : Int) := ⟨(ks.getD i 0).toNat, by omega⟩
    rw [hk] at ho hk1 hk2 he
    rw [Int.toNat_natCast] at he
    refine go_ ?_
    rw [hk]
    refine s_call (sp := (by repeat (first | exact Split.nil | apply Split.perx (by repeat (first | with_reducible exact Sel.here | with_reducible apply Sel.there)) (by infer_instance) | apply Split.cons (by repeat (first | with_reducible exact Sel.here | with_reducible apply Sel.there))))) (hs := pcountN_c p b gen σ.n bc m σ k (by omega)) (h := ?_)
    rintro v Bs ⟨rfl, rfl⟩
    dsimp only at he
    refine go_ ?_
    by_cases h0' : σ.now k = 0
    · rw [if_pos h0', List.nil_append] at he
      rw [show ((((σ.now k : Nat) : Int)) == 0) = true from beq_iff_eq.2 (by omega)]
      refine go_ ?_
      exact s_entF (by repeat (first | exact Ent.nil | refine Ent.per (by repeat (first | with_reducible exact Sel.here | with_reducible apply Sel.there)) ?_ | refine Ent.cons (by repeat (first | with_reducible exact Sel.here | with_reducible apply Sel.there)) ?_)) (s_keep _ (next (i + 1, σi) ⟨by dsimp only; omega, hin, by dsimp only; omega, he⟩ (by dsimp only; omega)))
    · rw [if_neg h0', List.singleton_append, Dr.puts] at he
      rw [show ((((σ.now k : Nat) : Int)) == 0) = false from beq_eq_false_iff_ne.2 (by omega)]
      dsimp only at he
      have hgm : bmap g (k : Int) = some o.v := by show (g k).map _ = _; rw [ho]; rfl
      refine go_ ?_
      refine s_look (lk_lks hgm) ?_
      refine go_ ?_
      refine s_alloc fun r6 => ?_
      refine go_ ?_
      refine s_call (sp := (by repeat (first | exact Split.nil | apply Split.perx (by repeat (first | with_reducible exact Sel.here | with_reducible apply Sel.there)) (by infer_instance) | apply Split.cons (by repeat (first | with_reducible exact Sel.here | with_reducible apply Sel.there))))) (hs := nwrite0_c (k : Int) ((gen + 1 : Nat) : Int)) (h := ?_)
      rintro v Bs ⟨rfl, rfl⟩
      refine go_ ?_
      rw [o1]
      refine s_obsG (k : Int) o (by repeat (first | with_reducible exact Sel.here | with_reducible apply Sel.there)) ho ?_
      refine go_ ?_
      refine s_call (sp := (by repeat (first | exact Split.nil | apply Split.perx (by repeat (first | with_reducible exact Sel.here | with_reducible apply Sel.there)) (by infer_instance) | apply Split.cons (by repeat (first | with_reducible exact Sel.here | with_reducible apply Sel.there))))) (hs := seal_c (a := o.a) (c := o.c) ⟨5, k, o.l.length, 0, gen + 1⟩ o.l (blkHd_ok h2 (by omega) o2 hgen) o3 (by omega)) (h := ?_)
      rintro v Bs ⟨rs, rfl, rfl⟩
      refine go_ ?_
      refine s_call (sp := (by repeat (first | exact Split.nil | apply Split.perx (by repeat (first | with_reducible exact Sel.here | with_reducible apply Sel.there)) (by infer_instance) | apply Split.cons (by repeat (first | with_reducible exact Sel.here | with_reducible apply Sel.there))))) (hs := dwrite_c b σi k (sealB ⟨5, k, o.l.length, 0, gen + 1⟩ o.l) (a := some ⟨rs, 0, none⟩) (c := 256) (by omega) ⟨sealB_len (by omega), sealB_bys o3⟩ (by omega)) (h := ?_)
      rintro v Bs ⟨rfl, rfl⟩
      obtain ⟨n1, n2⟩ := σi.write_n k (sealB ⟨5, k, o.l.length, 0, gen + 1⟩ o.l)
      cases hw : (σi.write k (sealB ⟨5, k, o.l.length, 0, gen + 1⟩ o.l)).2 with
      | true =>
        rw [hw, if_pos rfl] at he
        refine go_ ?_
        exact s_entF (by repeat (first | exact Ent.nil | refine Ent.per (by repeat (first | with_reducible exact Sel.here | with_reducible apply Sel.there)) ?_ | refine Ent.cons (by repeat (first | with_reducible exact Sel.here | with_reducible apply Sel.there)) ?_)) (s_keep _ (next (i + 1, (σi.write k (sealB ⟨5, k, o.l.length, 0, gen + 1⟩ o.l)).1) ⟨by dsimp only; omega, by dsimp only; omega, by dsimp only; omega, he⟩ (by dsimp only; omega)))
      | false =>
        rw [hw, if_neg (by simp)] at he
        have e1 : σd.commit σ g (gen + 1) = ((σi.write k (sealB ⟨5, k, o.l.length, 0, gen + 1⟩ o.l)).1, false) := by
          unfold Dr.commit; rw [hK, ← he]; rfl
        rw [e1]
        refine go_ ?_
        exact s_ret1 (rs := [.tmp 2]) Try.func9 rfl (by intro j; refine RVS.tmp _ rfl ?_; exact RVS.nil) (.inr ⟨rfl, rfl, rfl⟩) (by repeat (first | exact Ent.nil | refine Ent.per (by repeat (first | with_reducible exact Sel.here | with_reducible apply Sel.there)) ?_ | refine Ent.cons (by repeat (first | with_reducible exact Sel.here | with_reducible apply Sel.there)) ?_))
  · have : i = ks.length := by omega
    subst this
    rw [List.drop_length, putsW, Dr.puts] at he
    have e1 : σd.commit σ g (gen + 1) = σi.flip σ (gen + 1) := by
      unfold Dr.commit; rw [hK, ← he]; rfl
    rw [e1]
    refine go_ ?_
    refine s_front (a := DrA b σi) (by repeat (first | with_reducible exact Sel.here | with_reducible apply Sel.there)) ?_
    refine s_front (a := CtA bc σ) (by repeat (first | with_reducible exact Sel.here | with_reducible apply Sel.there)) ?_
    refine s_drawN 2 [.q 0, .q 1, .q 2, .q 3, .q 4, .q 5, .q 6, .q 7, .q 8, .s 9, .q 10] ?_
    refine do_ ?_
    refine d_step rfl (st_call (sp := (by repeat (first | exact Split.nil | apply Split.perx (by repeat (first | with_reducible exact Sel.here | with_reducible apply Sel.there)) (by infer_instance) | apply Split.cons (by repeat (first | with_reducible exact Sel.here | with_reducible apply Sel.there))))) (hs := pflip_c b bc σi σ (gen + 1) h1 h2 hin (by omega) hgen (by omega))) ?_
    rintro v Bs ⟨Cs, ⟨rfl, rfl⟩, rfl⟩
    refine do_ ?_
    refine go_ ?_
    cases hf : (σi.flip σ (gen + 1)).2 with
    | false =>
      refine go_ ?_
      exact s_ret1 (rs := [.tmp 2]) Try.func9 rfl (by intro j; refine RVS.tmp _ rfl ?_; exact RVS.nil) (.inr ⟨rfl, rfl, rfl⟩) (by repeat (first | exact Ent.nil | refine Ent.per (by repeat (first | with_reducible exact Sel.here | with_reducible apply Sel.there)) ?_ | refine Ent.cons (by repeat (first | with_reducible exact Sel.here | with_reducible apply Sel.there)) ?_))
    | true =>
      refine go_ ?_
      refine s_call (sp := (by repeat (first | exact Split.nil | apply Split.perx (by repeat (first | with_reducible exact Sel.here | with_reducible apply Sel.there)) (by infer_instance) | apply Split.cons (by repeat (first | with_reducible exact Sel.here | with_reducible apply Sel.there))))) (hs := ccommit_c bc σ) (h := ?_)
      rintro v Bs ⟨rfl, rfl⟩
      refine go_ ?_
      refine s_stepU (st_clm (by repeat (first | with_reducible exact Sel.here | with_reducible apply Sel.there))) ?_
      rintro v Bs rfl
      refine go_ ?_
      exact s_ret1 (rs := [.tmp 2]) Try.func9 rfl (by intro j; refine RVS.tmp _ rfl ?_; exact RVS.nil) (.inl ⟨rfl, rfl, rfl⟩) (by repeat (first | exact Ent.nil | refine Ent.per (by repeat (first | with_reducible exact Sel.here | with_reducible apply Sel.there)) ?_ | refine Ent.cons (by repeat (first | with_reducible exact Sel.here | with_reducible apply Sel.there)) ?_))
end Go.Proofs.Ytldonbnjefhfdaa
/- drive: Fuse, Crash. -/
namespace Go.Proofs.Ytldonbnjefhfdaa
open Go.Cam
set_option maxRecDepth 100000
/-- which of m a number picks -/
def pickI (x : Int) (m : Nat) : Nat := (if x < 0 then -(x + 1) else x).toNat % m
/-- of a sector it is kept what a number picks -/
def Dr.cut1 (σ : Dr) (s : Nat) (x : Int) : Dr := { σ with
  sure := fun q => if q = s then (if pickI x ((σ.cached s).length + 1) = 0 then σ.sure s else (σ.cached s).getD (pickI x ((σ.cached s).length + 1) - 1) []) else σ.sure q,
  cached := fun k => if k = (s : Int) then [] else σ.cached k }
def Dr.crashN (σ : Dr) (keep : List Int) : Nat → Dr × List Int
  | 0 => (σ, keep)
  | s + 1 => if (σ.crashN keep s).1.cached s = [] then σ.crashN keep s else ((σ.crashN keep s).1.cut1 s ((σ.crashN keep s).2.headD 0), (σ.crashN keep s).2.tail)
def Dr.crash (σ : Dr) (keep : List Int) : Dr := { (σ.crashN keep σ.n).1 with off := false, fuse := -1 }
theorem pickI_lt (x : Int) (m : Nat) : pickI x (m + 1) < m + 1 := Nat.mod_lt _ (Nat.succ_pos _)
theorem Dr.crashN_same (σ : Dr) (keep : List Int) : ∀ s, (σ.crashN keep s).1.n = σ.n ∧ (σ.crashN keep s).1.steps = σ.steps ∧ (σ.crashN keep s).1.off = σ.off ∧ (σ.crashN keep s).1.fuse = σ.fuse
  | 0 => ⟨rfl, rfl, rfl, rfl⟩
  | s + 1 => by
    have ih := Dr.crashN_same σ keep s
    rw [Dr.crashN]; split
    · exact ih
    · exact ih
theorem DrOk.cut1 {σ : Dr} {x : DrW} (h : DrOk σ x) (s : Nat) (v : Int) (hs : s < σ.n) : DrOk (σ.cut1 s v) { x with ks := x.ks.erase s } := by
  refine { n1 := h.n1, n2 := h.n2, nd := h.nd.erase _, ne := ?_, em := ?_, rg := ?_, ss := ?_, cs := ?_, cl := ?_, f1 := h.f1, f2 := h.f2 }
  · intro k hk
    have hk : k ∈ x.ks.erase s := hk
    have hne : k ≠ (s : Int) := fun e => by subst e; exact h.nd.not_mem_erase hk
    show (if k = (s : Int) then [] else σ.cached k) ≠ []
    rw [if_neg hne]
    exact h.ne k (List.mem_of_mem_erase hk)
  · intro k hk
    have hk : k ∉ x.ks.erase s := hk
    show (if k = (s : Int) then [] else σ.cached k) = []
    split
    · rfl
    · rename_i hne
      exact h.em k fun h2 => hk ((List.mem_erase_of_ne hne).2 h2)
  · intro k hk
    exact h.rg k (List.mem_of_mem_erase hk)
  · intro q hq
    show Sec (if q = s then _ else _)
    split
    · split
      · exact h.ss s hs
      · refine h.cs s _ ?_
        have := pickI_lt v (σ.cached s).length
        rw [List.getD_eq_getElem?_getD, List.getElem?_eq_getElem (by omega)]
        exact List.getElem_mem _
    · exact h.ss q hq
  · intro k t ht
    have ht : t ∈ (if k = (s : Int) then [] else σ.cached k) := ht
    split at ht
    · cases ht
    · exact h.cs k t ht
  · intro k
    show (if k = (s : Int) then [] else σ.cached k).length ≤ σ.steps
    split
    · exact Nat.zero_le _
    · exact h.cl k
theorem dfuse_c (b : Nat) (σ : Dr) (n : Nat) (hn : n < 1000000) : Ctr Try.prog 10 [.pointer (some ⟨b, 0, none⟩), .int .i64 n] [DrA b σ] (fun v Bs => v = .tuple #[] ∧ Bs = [DrA b { σ with fuse := n }]) := by
  refine s_enter 9 [(0, _), (1, _)] (fun F => [_, F]) Try.func10 fun F => ?_
  refine s_opn (by repeat (first | with_reducible exact Sel.here | with_reducible apply Sel.there)) fun x hx => ?_
  unfold Dr.parts
  refine s_nrm ?_
  refine go_ ?_
  refine s_look (lk_max ((n : Nat) : Int) (hc := by split <;> omega)) ?_
  refine go_ ?_
  refine s_front (a := All x.ks (σ.F x)) (by repeat (first | with_reducible exact Sel.here | with_reducible apply Sel.there)) (s_open (B := All x.ks (Dr.F { σ with fuse := n } x)) (fun _ _ q => q) ?_)
  refine s_cls (φ := DrOk { σ with fuse := n }) (X := Dr.parts b { σ with fuse := n }) x { n1 := hx.n1, n2 := hx.n2, nd := hx.nd, ne := hx.ne, em := hx.em, rg := hx.rg, ss := hx.ss, cs := hx.cs, cl := hx.cl, f1 := by show -1 ≤ (n : Int); omega, f2 := by show (n : Int) < _; omega } (by repeat (first | exact Split.nil | apply Split.perx (by repeat (first | with_reducible exact Sel.here | with_reducible apply Sel.there)) (by infer_instance) | apply Split.cons (by repeat (first | with_reducible exact Sel.here | with_reducible apply Sel.there)))) ?_
  exact s_end Try.func10 (⟨rfl, rfl⟩) (by repeat (first | exact Ent.nil | refine Ent.per (by repeat (first | with_reducible exact Sel.here | with_reducible apply Sel.there)) ?_ | refine Ent.cons (by repeat (first | with_reducible exact Sel.here | with_reducible apply Sel.there)) ?_))
theorem Dr_mg_del (x : DrW) (s : Int) (hn : x.ks.Nodup) : mset (Dr.mg x) s none = Dr.mg { x with ks := x.ks.erase s } := by
  funext k
  unfold mset Dr.mg
  dsimp only
  by_cases h : k = s
  · subst h; rw [if_pos rfl, if_neg hn.not_mem_erase]
  · rw [if_neg h]
    by_cases h2 : k ∈ x.ks
    · rw [if_pos h2, if_pos ((List.mem_erase_of_ne h).2 h2)]
    · rw [if_neg h2, if_neg fun h3 => h2 (List.mem_of_mem_erase h3)]
theorem pick_tmod (y : Int) (hy : 0 ≤ y) {m : Nat} : y.tmod ((m : Int) + 1) = ((y.toNat % (m + 1) : Nat) : Int) := by
  rw [Int.tmod_eq_emod_of_nonneg hy, Int.natCast_emod, Int.toNat_of_nonneg hy]; rfl
theorem pathR_tail {l : List Int} (i : Nat) : pathR l (1 + i) = pathR l.tail i := by
  unfold pathR
  cases l with
  | nil => rfl
  | cons x l => rw [Nat.add_comm, List.getD_cons_succ]; rfl
abbrev KeepOk (l : List Int) : Prop := ∀ q, q < l.length → -9223372036854775808 ≤ l.getD q 0 ∧ l.getD q 0 ≤ 9223372036854775807
theorem KeepOk.head {l : List Int} (h : KeepOk l) : -9223372036854775808 ≤ l.headD 0 ∧ l.headD 0 ≤ 9223372036854775807 := by
  cases l with
  | nil => exact ⟨by decide, by decide⟩
  | cons x l => exact h 0 (Nat.succ_pos _)
theorem KeepOk.tail {l : List Int} (h : KeepOk l) : KeepOk l.tail := fun q hq => by
  cases l with
  | nil => exact absurd hq (Nat.not_lt_zero _)
  | cons x l => exact h (q + 1) (by rw [List.length_cons]; exact Nat.succ_lt_succ hq)
set_option maxHeartbeats 8000000 in
theorem dcrash_c (b : Nat) (σ : Dr) {a0 : Option Addr} {c0 : Nat} (keep : List Int) (hkl : keep.length < 9223372036854775808) (hko : KeepOk keep) (hst : σ.steps < 1000000000) : Ctr Try.prog 11 [.pointer (some ⟨b, 0, none⟩), .slice a0 keep.length c0] [DrA b σ, SA none 1 (.slice a0 keep.length c0) keep.length (pathR keep)]
    (fun v Bs => v = .tuple #[] ∧ Bs = [DrA b (σ.crash keep)]) := by
  refine s_enter 71 [(0, _), (1, _)] (fun F => [_, _, F]) Try.func11 fun F => ?_
  refine s_opn (φ := DrOk σ) (X := Dr.parts b σ) (by repeat (first | with_reducible exact Sel.here | with_reducible apply Sel.there)) fun x hx => ?_
  have hn2 := hx.n2
  unfold Dr.parts
  refine s_nrm ?_
  refine go_ ?_
  refine s_cls (φ := DrOk σ) (X := Dr.parts b σ) x hx (by repeat (first | exact Split.nil | apply Split.perx (by repeat (first | with_reducible exact Sel.here | with_reducible apply Sel.there)) (by infer_instance) | apply Split.cons (by repeat (first | with_reducible exact Sel.here | with_reducible apply Sel.there)))) ?_
  refine s_front (a := DrA b σ) (by repeat (first | with_reducible exact Sel.here | with_reducible apply Sel.there)) (s_open (B := DrA b (σ.crashN keep 0).1) (fun _ _ q => q) ?_)
  refine s_front (a := SA none 1 (.slice a0 keep.length c0) keep.length (pathR keep)) (by repeat (first | with_reducible exact Sel.here | with_reducible apply Sel.there)) (s_open (B := SA none 1 (.slice a0 (σ.crashN keep 0).2.length c0) (σ.crashN keep 0).2.length (pathR (σ.crashN keep 0).2)) (fun _ _ q => q) ?_)
  refine s_loop (fun q : Nat × (Option Addr × Nat) => [(0, .pointer (some ⟨b, 0, none⟩)), (1, .slice q.2.1 (σ.crashN keep q.1).2.length q.2.2), (13, .int .i64 (σ.n : Nat)), (14, .int .i64 q.1)])
    (fun q => [DrA b (σ.crashN keep q.1).1, SA none 1 (.slice q.2.1 (σ.crashN keep q.1).2.length q.2.2) (σ.crashN keep q.1).2.length (pathR (σ.crashN keep q.1).2), F])
    (fun q => q.1 ≤ σ.n ∧ (σ.crashN keep q.1).2.length < 9223372036854775808 ∧ KeepOk (σ.crashN keep q.1).2) (fun q => σ.n - q.1) (0, (a0, c0)) ⟨Nat.zero_le _, hkl, hko⟩ (by repeat (first | exact Ent.nil | refine Ent.per (by repeat (first | with_reducible exact Sel.here | with_reducible apply Sel.there)) ?_ | refine Ent.cons (by repeat (first | with_reducible exact Sel.here | with_reducible apply Sel.there)) ?_)) ?_
  rintro ⟨i, a, c⟩ ⟨hi, hl, hk⟩ next
  dsimp only at hi hl hk next ⊢
  obtain ⟨e1, e2, e3, e4⟩ := σ.crashN_same keep i
  have hnx := fun q => next (i + 1, q)
  dsimp only at hnx
  rw [Dr.crashN] at hnx
  generalize hτ : (σ.crashN keep i).1 = τ at *
  generalize hkp : (σ.crashN keep i).2 = kp at *
  rw [show σ.crashN keep i = (τ, kp) by rw [← hτ, ← hkp]] at hnx
  refine s_opn (φ := DrOk τ) (X := Dr.parts b τ) (by repeat (first | with_reducible exact Sel.here | with_reducible apply Sel.there)) fun x hx => ?_
  unfold Dr.parts
  refine s_nrm ?_
  refine go_ ?_
  refine s_if (fun h => ?_) (fun h => ?_)
  · have hi2 : i < σ.n := by omega
    refine go_ ?_
    by_cases hki : (i : Int) ∈ x.ks
    · have hne := hx.ne _ hki
      have hlen : 0 < (τ.cached i).length := List.length_pos_iff.2 hne
      have hcl := hx.cl i
      rw [if_neg hne] at hnx
      dsimp only at hnx
      refine s_take (kk := (i : Int)) (ks := x.ks) (F := τ.F x) (by repeat (first | with_reducible exact Sel.here | with_reducible apply Sel.there)) hki (s_know (a := τ.F x i) .here (fun H M q => SO.val H M q) fun ⟨a1, c1, hv2, _⟩ => ?_)
      refine s_open (B := SO 90 256 (.slice a1 (τ.cached i).length c1) (τ.cached i).length (secR (τ.cached i))) (fun _ _ q => by unfold Dr.F at q; rw [hv2] at q; exact q) ?_
      have hg : Dr.mg x i = some (.slice a1 (τ.cached i).length c1) := by unfold Dr.mg; rw [if_pos hki, hv2]
      refine s_look (lk_lks2 hg) ?_
      refine go_ ?_
      apply s_join (α := Option Addr × Nat) (fun q => [(0, .pointer (some ⟨b, 0, none⟩)), (1, .slice q.1 kp.tail.length q.2), (4, .int .i64 i), (5, .slice a1 (τ.cached i).length c1), (7, .int .i64 (kp.headD 0)), (37, .bool (decide (kp.headD 0 < 0))), (13, .int .i64 (σ.n : Nat)), (14, .int .i64 i)])
        (fun q => [SA none 1 (.slice q.1 kp.tail.length q.2) kp.tail.length (pathR kp.tail), Dr.box b τ x, SA (some 90) 256 (.slice x.a τ.n x.c) τ.n (fun i => bcl (τ.sure i)), MG x.m (Dr.mg x), SO 90 256 (.slice a1 (τ.cached i).length c1) (τ.cached i).length (secR (τ.cached i)), All (x.ks.erase i) (τ.F x), F]) (fun _ => True)
      case h =>
        intro K
        refine s_if (fun h2 => ?_) (fun h2 => ?_)
        · have hh : kp.headD 0 = kp.getD 0 0 := by cases kp <;> rfl
          have htl : kp.tail.length = kp.length - 1 := List.length_tail
          refine go_ ?_
          refine s_know (a := SA none 1 (.slice a kp.length c) kp.length (pathR kp)) (by repeat (first | with_reducible exact Sel.here | with_reducible apply Sel.there)) (SA.cap) fun hcap => ?_
          refine s_drawN 0 [.q 0, .q 1, .q 2, .q 3, .q 4, .q 5, .q 6] ?_
          refine do_ ?_
          refine d_look rfl (lk_ixz 0 (m := kp.length) (v := .slice a kp.length c) (z := 0) (by repeat (first | with_reducible exact SelR.here | with_reducible apply SelR.there))) ?_
          refine do_ ?_
          refine d_look rfl (lk_slc (a := a) (len := kp.length) (cap := c) 1 kp.length (by omega) hcap) ?_
          refine do_ ?_
          refine go_ ?_
          refine s_part 1 kp.length (by omega) (Nat.le_refl _) (a := a) (cap := c) (m := kp.length) (by repeat (first | with_reducible exact Sel.here | with_reducible apply Sel.there)) ?_
          refine s_open (SA.cg (pathR kp.tail) fun q _ => pathR_tail q) ?_
          rw [← htl, ← hh]
          exact s_entF (by repeat (first | exact Ent.nil | refine Ent.per (by repeat (first | with_reducible exact Sel.here | with_reducible apply Sel.there)) ?_ | refine Ent.cons (by repeat (first | with_reducible exact Sel.here | with_reducible apply Sel.there)) ?_)) (s_keep _ (K (sladdr a 1 1 c, c - 1) trivial))
        · have hkn : kp = [] := List.eq_nil_of_length_eq_zero (by omega)
          have h0 : kp.headD 0 = 0 := by rw [hkn]; rfl
          have ht : kp.tail = kp := by rw [hkn]; rfl
          refine s_keep [(0, .pointer (some ⟨b, 0, none⟩)), (1, .slice a kp.tail.length c), (4, .int .i64 i), (5, .slice a1 (τ.cached i).length c1), (7, .int .i64 (kp.headD 0)), (13, .int .i64 (σ.n : Nat)), (14, .int .i64 i)] ?_ (hl := fun j => by rw [h0, ht]; exact ⟨rfl, rfl, rfl, rfl, rfl, rfl, rfl, trivial⟩)
          refine s_front (a := SA none 1 (.slice a kp.length c) kp.length (pathR kp)) (by repeat (first | with_reducible exact Sel.here | with_reducible apply Sel.there)) (s_open (B := SA none 1 (.slice a kp.tail.length c) kp.tail.length (pathR kp.tail)) (fun _ _ q => by rw [ht]; exact q) ?_)
          refine go_ ?_
          exact s_entF (by repeat (first | exact Ent.nil | refine Ent.per (by repeat (first | with_reducible exact Sel.here | with_reducible apply Sel.there)) ?_ | refine Ent.cons (by repeat (first | with_reducible exact Sel.here | with_reducible apply Sel.there)) ?_)) (s_keep _ (K (a, c) trivial))
      case K =>
        rintro ⟨a', c'⟩ _
        dsimp only
        have hhd := hk.head
        have hnx2 := hnx (a', c')
        dsimp only at hnx2
        generalize hv : kp.headD 0 = v at *
        generalize hkt : kp.tail = kt at *
        have htl : kt.length < 9223372036854775808 := by rw [← hkt, List.length_tail]; omega
        have hko2 : KeepOk kt := by rw [← hkt]; exact hk.tail
        have hpk : pickI v ((τ.cached i).length + 1) = (if v < 0 then -(v + 1) else v).toNat % ((τ.cached i).length + 1) := rfl
        have hpl := pickI_lt v (τ.cached i).length
        generalize hpv : pickI v ((τ.cached i).length + 1) = pk at *
        apply s_join (α := Unit) (fun _ => [(0, .pointer (some ⟨b, 0, none⟩)), (1, .slice a' kt.length c'), (4, .int .i64 i), (5, .slice a1 (τ.cached i).length c1), (8, .int .i64 (pk : Nat)), (47, .bool (decide (((pk : Nat) : Int) > 0))), (13, .int .i64 (σ.n : Nat)), (14, .int .i64 i)])
          (fun _ => [SA none 1 (.slice a' kt.length c') kt.length (pathR kt), Dr.box b τ x, SA (some 90) 256 (.slice x.a τ.n x.c) τ.n (fun i => bcl (τ.sure i)), MG x.m (Dr.mg x), SO 90 256 (.slice a1 (τ.cached i).length c1) (τ.cached i).length (secR (τ.cached i)), All (x.ks.erase i) (τ.F x), F]) (fun _ => True)
        case h =>
          intro K
          refine s_if (fun h2 => ?_) (fun h2 => ?_)
          · rw [if_pos h2] at hpk
            refine go_ ?_
            rw [wrap_id (x := 0 - (v + 1)) (by omega) (by omega), show 0 - (v + 1) = -(v + 1) by omega, pick_tmod (-(v + 1)) (by omega), ← hpk]
            exact s_entF (by repeat (first | exact Ent.nil | refine Ent.per (by repeat (first | with_reducible exact Sel.here | with_reducible apply Sel.there)) ?_ | refine Ent.cons (by repeat (first | with_reducible exact Sel.here | with_reducible apply Sel.there)) ?_)) (s_keep _ (K () trivial))
          · rw [if_neg h2] at hpk
            refine go_ ?_
            rw [pick_tmod v (by omega), ← hpk]
            exact s_entF (by repeat (first | exact Ent.nil | refine Ent.per (by repeat (first | with_reducible exact Sel.here | with_reducible apply Sel.there)) ?_ | refine Ent.cons (by repeat (first | with_reducible exact Sel.here | with_reducible apply Sel.there)) ?_)) (s_keep _ (K () trivial))
        case K =>
          rintro _ _
          have hok2 := hx.cut1 i v (by omega)
          have ecut : τ.cut1 i v = { τ with
              sure := fun q => if q = i then (if pk = 0 then τ.sure i else (τ.cached i).getD (pk - 1) []) else τ.sure q,
              cached := fun k => if k = (i : Int) then [] else τ.cached k } := by unfold Dr.cut1; rw [hpv]
          apply s_join (α := Unit) (fun _ => [(0, .pointer (some ⟨b, 0, none⟩)), (1, .slice a' kt.length c'), (4, .int .i64 i), (13, .int .i64 (σ.n : Nat)), (14, .int .i64 i), (62, .map (some x.m)), (63, .int .i64 i)])
            (fun _ => [SA none 1 (.slice a' kt.length c') kt.length (pathR kt), Dr.box b τ x, SA (some 90) 256 (.slice x.a τ.n x.c) τ.n (fun q => bcl ((τ.cut1 i v).sure q)), MG x.m (Dr.mg x), All (x.ks.erase i) (τ.F x), F]) (fun _ => True)
          case h =>
            intro K
            refine s_if (fun h2 => ?_) (fun h2 => ?_)
            · have hsl : (bcl ((τ.cached i).getD (pk - 1) [])).length = 256 := by
                rw [List.getD_eq_getElem?_getD, List.getElem?_eq_getElem (by omega)]
                simp [(hx.cs i _ (List.getElem_mem (show pk - 1 < (τ.cached i).length by omega))).1]
              refine s_front (a := SA (some 90) 256 (.slice x.a τ.n x.c) τ.n (fun i => bcl (τ.sure i))) (by repeat (first | with_reducible exact Sel.here | with_reducible apply Sel.there)) ?_
              refine s_drawN 0 [.q 0, .q 1, .q 2, .q 3, .q 4, .q 5, .q 6, .q 7, .q 8, .q 9, .q 10, .r, .s 11] ?_
              refine do_ ?_
              refine d_look rfl (lk_ixz (pk - 1) (m := (τ.cached i).length) (v := .slice a1 (τ.cached i).length c1) (by repeat (first | with_reducible exact SelR.here | with_reducible apply SelR.there))) ?_
              refine do_ ?_
              refine d_look rfl (lk_lde1 (i := pk - 1) (m := (τ.cached i).length) (v := .slice a1 (τ.cached i).length c1) (by repeat (first | with_reducible exact SelR.here | with_reducible apply SelR.there))) ?_
              refine do_ ?_
              rw [show secR (τ.cached i) (pk - 1) = bcl ((τ.cached i).getD (pk - 1) []) from rfl]
              refine d_rel 1 ?_
              refine d_nrm ?_
              refine d_stepU rfl (st_ste (i := i) (fo := 0) (vs := bcl ((τ.cached i).getD (pk - 1) [])) (m' := 256) (by repeat (first | with_reducible exact Sel.here | with_reducible apply Sel.there)) (hn := hsl)) ?_
              rintro _ Bs rfl
              refine do_ ?_
              refine go_ ?_
              refine s_front (a := SA (some 90) 256 (.slice x.a τ.n x.c) τ.n (rput (fun i => bcl (τ.sure i)) i 0 (bcl ((τ.cached i).getD (pk - 1) [])))) (by repeat (first | with_reducible exact Sel.here | with_reducible apply Sel.there)) (s_open (SA.cg (fun q => bcl ((τ.cut1 i v).sure q)) fun q hq => ?_) ?_)
              · rw [ecut]
                unfold rput
                dsimp only
                by_cases e : q = i
                · subst e
                  have h1 := (hx.ss q (by omega)).1
                  rw [if_pos rfl, if_pos rfl, if_neg (by omega), List.take_zero, List.nil_append, List.drop_eq_nil_of_le (by rw [hsl]; simp [h1]), List.append_nil]
                · rw [if_neg e, if_neg e]
              exact s_entF (by repeat (first | exact Ent.nil | refine Ent.per (by repeat (first | with_reducible exact Sel.here | with_reducible apply Sel.there)) ?_ | refine Ent.cons (by repeat (first | with_reducible exact Sel.here | with_reducible apply Sel.there)) ?_)) (s_keep _ (K () trivial))
            · have hp0 : pk = 0 := by omega
              refine go_ ?_
              refine s_front (a := SA (some 90) 256 (.slice x.a τ.n x.c) τ.n (fun i => bcl (τ.sure i))) (by repeat (first | with_reducible exact Sel.here | with_reducible apply Sel.there)) (s_open (SA.cg (fun q => bcl ((τ.cut1 i v).sure q)) fun q hq => ?_) ?_)
              · rw [ecut]
                dsimp only
                by_cases e : q = i
                · subst e; rw [if_pos rfl, if_pos hp0]
                · rw [if_neg e]
              exact s_entF (by repeat (first | exact Ent.nil | refine Ent.per (by repeat (first | with_reducible exact Sel.here | with_reducible apply Sel.there)) ?_ | refine Ent.cons (by repeat (first | with_reducible exact Sel.here | with_reducible apply Sel.there)) ?_)) (s_keep _ (K () trivial))
          case K =>
            rintro _ _
            refine s_stepU (st_del (kk := (i : Int)) (by repeat (first | with_reducible exact Sel.here | with_reducible apply Sel.there))) ?_
            rintro _ Bs rfl
            rw [Dr_mg_del x (i : Int) hx.nd]
            refine go_ ?_
            refine s_allc (Dr.F (τ.cut1 i v) { x with ks := x.ks.erase i }) (F := τ.F x) (ks := x.ks.erase i) (by repeat (first | with_reducible exact Sel.here | with_reducible apply Sel.there)) (fun k hk H M q => ?_) ?_
            · have hne : k ≠ (i : Int) := fun e => by subst e; exact hx.nd.not_mem_erase hk
              unfold Dr.F Dr.cut1
              dsimp only
              rw [if_neg hne]; exact q
            refine s_front (a := Dr.box b τ x) (by repeat (first | with_reducible exact Sel.here | with_reducible apply Sel.there)) (s_open (B := Dr.box b (τ.cut1 i v) { x with ks := x.ks.erase i }) (fun _ _ q => q) ?_)
            refine s_front (a := SA (some 90) 256 (.slice x.a τ.n x.c) τ.n (fun q => bcl ((τ.cut1 i v).sure q))) (by repeat (first | with_reducible exact Sel.here | with_reducible apply Sel.there)) (s_open (B := SA (some 90) 256 (.slice x.a (τ.cut1 i v).n x.c) (τ.cut1 i v).n (fun q => bcl ((τ.cut1 i v).sure q))) (fun _ _ q => q) ?_)
            refine s_cls (φ := DrOk (τ.cut1 i v)) (X := Dr.parts b (τ.cut1 i v)) { x with ks := x.ks.erase i } hok2 (by repeat (first | exact Split.nil | apply Split.perx (by repeat (first | with_reducible exact Sel.here | with_reducible apply Sel.there)) (by infer_instance) | apply Split.cons (by repeat (first | with_reducible exact Sel.here | with_reducible apply Sel.there)))) ?_
            exact s_entF (by repeat (first | exact Ent.nil | refine Ent.per (by repeat (first | with_reducible exact Sel.here | with_reducible apply Sel.there)) ?_ | refine Ent.cons (by repeat (first | with_reducible exact Sel.here | with_reducible apply Sel.there)) ?_)) (s_keep _ (hnx2 ⟨by omega, htl, hko2⟩ (by omega)))
    · have hem := hx.em _ hki
      have hg : Dr.mg x i = none := by unfold Dr.mg; rw [if_neg hki]
      rw [if_pos hem] at hnx
      refine s_look (lk_lkn2 hg) ?_
      refine go_ ?_
      refine s_cls (φ := DrOk τ) (X := Dr.parts b τ) x hx (by repeat (first | exact Split.nil | apply Split.perx (by repeat (first | with_reducible exact Sel.here | with_reducible apply Sel.there)) (by infer_instance) | apply Split.cons (by repeat (first | with_reducible exact Sel.here | with_reducible apply Sel.there)))) ?_
      exact s_entF (by repeat (first | exact Ent.nil | refine Ent.per (by repeat (first | with_reducible exact Sel.here | with_reducible apply Sel.there)) ?_ | refine Ent.cons (by repeat (first | with_reducible exact Sel.here | with_reducible apply Sel.there)) ?_)) (s_keep _ (hnx (a, c) ⟨by omega, hl, hk⟩ (by omega)))
  · have hin : i = σ.n := by omega
    subst hin
    refine go_ ?_
    have hok : DrOk (σ.crash keep) x := by
      unfold Dr.crash; rw [hτ]
      exact { n1 := hx.n1, n2 := hx.n2, nd := hx.nd, ne := hx.ne, em := hx.em, rg := hx.rg, ss := hx.ss, cs := hx.cs, cl := hx.cl, f1 := by show -1 ≤ (-1 : Int); omega, f2 := by show (-1 : Int) < _; omega }
    have hF : All x.ks (τ.F x) = All x.ks ((σ.crash keep).F x) := by unfold Dr.crash; rw [hτ]; rfl
    rw [hF]
    have hB : (fun i => bcl (τ.sure i)) = (fun i => bcl ((σ.crash keep).sure i)) := by unfold Dr.crash; rw [hτ]
    rw [hB]
    have hN : τ.n = (σ.crash keep).n := by unfold Dr.crash; rw [hτ]
    have hS : τ.steps = (σ.crash keep).steps := by unfold Dr.crash; rw [hτ]
    rw [hN, hS]
    refine s_front (a := Box b 58 [.slice x.a (σ.crash keep).n x.c, .map (some x.m), .bool false, .int .i64 (-1), .int .i64 ((σ.crash keep).steps : Int)]) (by repeat (first | with_reducible exact Sel.here | with_reducible apply Sel.there)) (s_open (B := Dr.box b (σ.crash keep) x) (fun _ _ q => q) ?_)
    refine s_cls (φ := DrOk (σ.crash keep)) (X := Dr.parts b (σ.crash keep)) x hok (by repeat (first | exact Split.nil | apply Split.perx (by repeat (first | with_reducible exact Sel.here | with_reducible apply Sel.there)) (by infer_instance) | apply Split.cons (by repeat (first | with_reducible exact Sel.here | with_reducible apply Sel.there)))) ?_
    exact s_end Try.func11 (⟨rfl, rfl⟩) (by repeat (first | exact Ent.nil | refine Ent.per (by repeat (first | with_reducible exact Sel.here | with_reducible apply Sel.there)) ?_ | refine Ent.cons (by repeat (first | with_reducible exact Sel.here | with_reducible apply Sel.there)) ?_))
end Go.Proofs.Ytldonbnjefhfdaa
