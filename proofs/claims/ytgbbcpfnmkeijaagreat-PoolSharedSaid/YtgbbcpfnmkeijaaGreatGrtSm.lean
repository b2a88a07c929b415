/- pool.Commit. -/
import Derived.Test.YtgbbcpfnmkeijaaGreatGrtAO
import Derived.Test.YtgbbcpfnmkeijaaGreatGrtCD
import Derived.Test.YtgbbcpfnmkeijaaGreatGrtAE
import Derived.Shelf.SlMaps.Clone
import Derived.Ground.SlmcProg
import Derived.Test.YtgbbcpfnmkeijaaGreatProg
namespace Go.Proofs.YtgbbcpfnmkeijaaGreat
open Go.Cam
set_option maxRecDepth 100000
/-- the blocks that a commit writes -/
def putsW (σ : Ct) (g : Int → Option OB) (gn : Nat) : List Int → List (Nat × List Nat)
  | [] => []
  | k :: ks => (match g k with | some o => if σ.now k.toNat = 0 then [] else [(k.toNat, sealB ⟨5, k.toNat, o.l.length, 0, gn⟩ o.l)] | none => []) ++ putsW σ g gn ks
def Dr.puts (σ : Dr) : List (Nat × List Nat) → Dr × Bool
  | [] => (σ, true)
  | x :: ws => if (σ.write x.1 x.2).2 then (σ.write x.1 x.2).1.puts ws else ((σ.write x.1 x.2).1, false)
structure BmOk (σ : Ct) (g : Int → Option OB) : Prop where
  k : ∀ k, g k ≠ none → 0 ≤ k ∧ k < (σ.n : Nat)
  o : ∀ k o, g k = some o → o.kind = 5 ∧ o.l.length ≤ 128 ∧ Bys o.l
theorem bmap_none {g : Int → Option OB} {k : Int} : bmap g k ≠ none ↔ g k ≠ none := by
  unfold bmap
  cases g k <;> simp
theorem blkHd_ok {n k len gn : Nat} (hn : n ≤ 2048) (hk : k < n) (hl : len ≤ 128) (hg : gn ≤ 1099511627775) : Head.ok ⟨5, k, len, 0, gn⟩ := by
  refine ⟨by show 1 ≤ 5; omega, by show 5 ≤ 6; omega, fun q hq => ?_⟩
  match q, hq with
  | 0, _ => exact Nat.zero_le _
  | 1, _ => show k ≤ 2047; omega
  | 2, _ => exact Nat.le_trans hl (by decide)
  | 3, _ => exact hg
/-- what a commit does to the disk; true: all is there -/
def Dr.commit (σd : Dr) (σ : Ct) (g : Int → Option OB) (gn : Nat) : Dr × Bool :=
  if (σd.puts (putsW σ g gn (keysN (bmap g) σ.n))).2 then (σd.puts (putsW σ g gn (keysN (bmap g) σ.n))).1.flip σ gn else ((σd.puts (putsW σ g gn (keysN (bmap g) σ.n))).1, false)
set_option maxHeartbeats 16000000 in
theorem pcommit_c (p b gen bc m : Nat) (σ : Ct) (g : Int → Option OB) (σd : Dr) (h1 : 32 ≤ σ.n) (h2 : σ.n ≤ 2048) (hn : σd.n = σ.n) (hst : σd.steps < 800000000) (hgen : gen + 1 ≤ 1099511627775) (hbm : BmOk σ g) :
    Ctr Tryz.prog 16 [.pointer (some ⟨p, 0, none⟩)] [PoB p b gen σ.n bc m, CtA bc σ, MG m (bmap g), Obs g, DrA b σd]
    (fun v Bs => ((σd.commit σ g (gen + 1)).2 = true ∧ v = .int .i64 0 ∧ Bs = [PoB p b (gen + 1) σ.n bc m, CtA bc { σ with done := σ.now }, MG m (fun _ => none), DrA b (σd.commit σ g (gen + 1)).1]) ∨
      ((σd.commit σ g (gen + 1)).2 = false ∧ v = .int .i64 4 ∧ Bs = [PoB p b gen σ.n bc m, CtA bc σ, MG m (bmap g), Obs g, DrA b (σd.commit σ g (gen + 1)).1])) := by
  refine s_enter 104 [(0, _)] (fun F => [_, _, _, _, _, F]) Tryz.func16 fun F => ?_
  refine go_ ?_
  refine s_alloc fun r3 => ?_
  refine go_ ?_
  rw [show (gen : Int) + 1 = ((gen + 1 : Nat) : Int) by omega]
  refine s_call (sp := (by repeat (first | exact Split.nil | apply Split.perx (by repeat (first | with_reducible exact Sel.here | with_reducible apply Sel.there)) (by infer_instance) | apply Split.cons (by repeat (first | with_reducible exact Sel.here | with_reducible apply Sel.there))))) (hs := keys_c m) (h := ?_)
  rintro v Bs ⟨rk, rfl, rfl⟩
  refine go_ ?_
  refine s_call (sp := (by repeat (first | exact Split.nil | apply Split.perx (by repeat (first | with_reducible exact Sel.here | with_reducible apply Sel.there)) (by infer_instance) | apply Split.cons (by repeat (first | with_reducible exact Sel.here | with_reducible apply Sel.there))))) (hs := sorted_c m rk (bmap g) σ.n (by omega) (fun k hk => hbm.k k (bmap_none.1 hk))) (h := ?_)
  rintro v Bs ⟨ak, ck, rfl, rfl⟩
  refine go_ ?_
  have hkm := fun k => keysN_mem (gm := bmap g) (N := σ.n) (fun k hk => hbm.k k (bmap_none.1 hk)) k
  have hkl : (keysN (bmap g) σ.n).length ≤ σ.n := by
    unfold keysN
    refine Nat.le_trans (List.length_filter_le _ _) ?_
    simp
  generalize hK : keysN (bmap g) σ.n = ks at *
  refine s_loop (fun q : Nat × Dr => [(0, .pointer (some ⟨p, 0, none⟩)), (3, .pointer (some ⟨r3, 0, none⟩)), (24, .slice ak ks.length ck), (25, .int .i64 (ks.length : Nat)), (26, .int .i64 q.1)])
    (fun q => [SO 3 1 (.slice ak ks.length ck) ks.length (pathR ks), PoB p b gen σ.n bc m, CtA bc σ, MG m (bmap g), Obs g, DrA b q.2, Box r3 68 (supL (gen + 1) σ.n), F])
    (fun q => q.1 ≤ ks.length ∧ q.2.n = σ.n ∧ q.2.steps ≤ σd.steps + q.1 ∧ q.2.puts (putsW σ g (gen + 1) (ks.drop q.1)) = σd.puts (putsW σ g (gen + 1) ks)) (fun q => ks.length - q.1) (0, σd) ⟨Nat.zero_le _, hn, Nat.le_refl _, rfl⟩ (by repeat (first | exact Ent.nil | refine Ent.per (by repeat (first | with_reducible exact Sel.here | with_reducible apply Sel.there)) ?_ | refine Ent.cons (by repeat (first | with_reducible exact Sel.here | with_reducible apply Sel.there)) ?_)) ?_
  rintro ⟨i, σi⟩ ⟨hi, hin, hist, he⟩ next
  dsimp only at hi hin hist he next ⊢
  refine go_ ?_
  refine s_if (fun h => ?_) (fun h => ?_)
  · have hi2 : i < ks.length := by omega
    have hki : ks.getD i 0 = ks[i] := by simp [List.getD_eq_getElem?_getD, hi2]
    have hgk : g (ks.getD i 0) ≠ none := bmap_none.1 ((hkm _).1 (by rw [hki]; exact List.getElem_mem hi2))
    obtain ⟨o, ho⟩ : ∃ o, g (ks.getD i 0) = some o := by
      cases hq : g (ks.getD i 0) with
      | none => exact absurd hq hgk
      | some o => exact ⟨o, rfl⟩
    obtain ⟨hk1, hk2⟩ := hbm.k _ hgk
    obtain ⟨o1, o2, o3⟩ := hbm.o _ _ ho
    rw [List.drop_eq_getElem_cons hi2, ← hki, putsW, ho] at he
    obtain ⟨k, hk⟩ : ∃ k : Nat, ks.getD i 0 = (k : Int) := ⟨(ks.getD i 0).toNat, by omega⟩
    rw [hk] at ho hk1 hk2 he
    rw [Int.toNat_natCast] at he
    refine go_ ?_
    rw [hk]
    refine s_call (sp := (by repeat (first | exact Split.nil | apply Split.perx (by repeat (first | with_reducible exact Sel.here | with_reducible apply Sel.there)) (by infer_instance) | apply Split.cons (by repeat (first | with_reducible exact Sel.here | with_reducible apply Sel.there))))) (hs := pcountN_c p b gen σ.n bc m σ k (by omega)) (h := ?_)
    rintro v Bs ⟨rfl, rfl⟩
    dsimp only at he
    refine go_ ?_
    by_cases h0' : σ.now k = 0
    · rw [if_pos h0', List.nil_append] at he
      rw [show ((((σ.now k : Nat) : Int)) == 0) = true from beq_iff_eq.2 (by omega)]
      refine go_ ?_
      exact s_entF (by repeat (first | exact Ent.nil | refine Ent.per (by repeat (first | with_reducible exact Sel.here | with_reducible apply Sel.there)) ?_ | refine Ent.cons (by repeat (first | with_reducible exact Sel.here | with_reducible apply Sel.there)) ?_)) (s_keep _ (next (i + 1, σi) ⟨by dsimp only; omega, hin, by dsimp only; omega, he⟩ (by dsimp only; omega)))
    · rw [if_neg h0', List.singleton_append, Dr.puts] at he
      rw [show ((((σ.now k : Nat) : Int)) == 0) = false from beq_eq_false_iff_ne.2 (by omega)]
      dsimp only at he
      have hgm : bmap g (k : Int) = some o.v := by show (g k).map _ = _; rw [ho]; rfl
      refine go_ ?_
      refine s_look (lk_lks hgm) ?_
      refine go_ ?_
      refine s_alloc fun r6 => ?_
      refine go_ ?_
      refine s_call (sp := (by repeat (first | exact Split.nil | apply Split.perx (by repeat (first | with_reducible exact Sel.here | with_reducible apply Sel.there)) (by infer_instance) | apply Split.cons (by repeat (first | with_reducible exact Sel.here | with_reducible apply Sel.there))))) (hs := nwrite0_c (k : Int) ((gen + 1 : Nat) : Int)) (h := ?_)
      rintro v Bs ⟨rfl, rfl⟩
      refine go_ ?_
      rw [o1]
      refine s_obsG (k : Int) o (by repeat (first | with_reducible exact Sel.here | with_reducible apply Sel.there)) ho ?_
      refine go_ ?_
      refine s_call (sp := (by repeat (first | exact Split.nil | apply Split.perx (by repeat (first | with_reducible exact Sel.here | with_reducible apply Sel.there)) (by infer_instance) | apply Split.cons (by repeat (first | with_reducible exact Sel.here | with_reducible apply Sel.there))))) (hs := seal_c (a := o.a) (c := o.c) ⟨5, k, o.l.length, 0, gen + 1⟩ o.l (blkHd_ok h2 (by omega) o2 hgen) o3 (by omega)) (h := ?_)
      rintro v Bs ⟨rs, rfl, rfl⟩
      refine go_ ?_
      refine s_call (sp := (by repeat (first | exact Split.nil | apply Split.perx (by repeat (first | with_reducible exact Sel.here | with_reducible apply Sel.there)) (by infer_instance) | apply Split.cons (by repeat (first | with_reducible exact Sel.here | with_reducible apply Sel.there))))) (hs := dwrite_c b σi k (sealB ⟨5, k, o.l.length, 0, gen + 1⟩ o.l) (a := some ⟨rs, 0, none⟩) (c := 256) (by omega) ⟨sealB_len (by omega), sealB_bys o3⟩ (by omega)) (h := ?_)
      rintro v Bs ⟨rfl, rfl⟩
      obtain ⟨n1, n2⟩ := σi.write_n k (sealB ⟨5, k, o.l.length, 0, gen + 1⟩ o.l)
      cases hw : (σi.write k (sealB ⟨5, k, o.l.length, 0, gen + 1⟩ o.l)).2 with
      | true =>
        rw [hw, if_pos rfl] at he
        refine go_ ?_
        exact s_entF (by repeat (first | exact Ent.nil | refine Ent.per (by repeat (first | with_reducible exact Sel.here | with_reducible apply Sel.there)) ?_ | refine Ent.cons (by repeat (first | with_reducible exact Sel.here | with_reducible apply Sel.there)) ?_)) (s_keep _ (next (i + 1, (σi.write k (sealB ⟨5, k, o.l.length, 0, gen + 1⟩ o.l)).1) ⟨by dsimp only; omega, by dsimp only; omega, by dsimp only; omega, he⟩ (by dsimp only; omega)))
      | false =>
        rw [hw, if_neg (by simp)] at he
        have e1 : σd.commit σ g (gen + 1) = ((σi.write k (sealB ⟨5, k, o.l.length, 0, gen + 1⟩ o.l)).1, false) := by
          unfold Dr.commit; rw [hK, ← he]; rfl
        rw [e1]
        refine go_ ?_
        exact s_ret1 (rs := [.tmp 2]) Tryz.func16 rfl (by intro j; refine RVS.tmp _ rfl ?_; exact RVS.nil) (.inr ⟨rfl, rfl, rfl⟩) (by repeat (first | exact Ent.nil | refine Ent.per (by repeat (first | with_reducible exact Sel.here | with_reducible apply Sel.there)) ?_ | refine Ent.cons (by repeat (first | with_reducible exact Sel.here | with_reducible apply Sel.there)) ?_))
  · have : i = ks.length := by omega
    subst this
    rw [List.drop_length, putsW, Dr.puts] at he
    have e1 : σd.commit σ g (gen + 1) = σi.flip σ (gen + 1) := by
      unfold Dr.commit; rw [hK, ← he]; rfl
    rw [e1]
    refine go_ ?_
    refine s_front (a := DrA b σi) (by repeat (first | with_reducible exact Sel.here | with_reducible apply Sel.there)) ?_
    refine s_front (a := CtA bc σ) (by repeat (first | with_reducible exact Sel.here | with_reducible apply Sel.there)) ?_
    refine s_drawN 2 [.q 0, .q 1, .q 2, .q 3, .q 4, .q 5, .q 6, .q 7, .q 8, .s 9, .q 10] ?_
    refine do_ ?_
    refine d_step rfl (st_call (sp := (by repeat (first | exact Split.nil | apply Split.perx (by repeat (first | with_reducible exact Sel.here | with_reducible apply Sel.there)) (by infer_instance) | apply Split.cons (by repeat (first | with_reducible exact Sel.here | with_reducible apply Sel.there))))) (hs := pflip_c b bc σi σ (gen + 1) h1 h2 hin (by omega) hgen (by omega))) ?_
    rintro v Bs ⟨Cs, ⟨rfl, rfl⟩, rfl⟩
    refine do_ ?_
    refine go_ ?_
    cases hf : (σi.flip σ (gen + 1)).2 with
    | false =>
      refine go_ ?_
      exact s_ret1 (rs := [.tmp 2]) Tryz.func16 rfl (by intro j; refine RVS.tmp _ rfl ?_; exact RVS.nil) (.inr ⟨rfl, rfl, rfl⟩) (by repeat (first | exact Ent.nil | refine Ent.per (by repeat (first | with_reducible exact Sel.here | with_reducible apply Sel.there)) ?_ | refine Ent.cons (by repeat (first | with_reducible exact Sel.here | with_reducible apply Sel.there)) ?_))
    | true =>
      refine go_ ?_
      refine s_call (sp := (by repeat (first | exact Split.nil | apply Split.perx (by repeat (first | with_reducible exact Sel.here | with_reducible apply Sel.there)) (by infer_instance) | apply Split.cons (by repeat (first | with_reducible exact Sel.here | with_reducible apply Sel.there))))) (hs := ccommit_c bc σ) (h := ?_)
      rintro v Bs ⟨rfl, rfl⟩
      refine go_ ?_
      refine s_stepU (st_clm (by repeat (first | with_reducible exact Sel.here | with_reducible apply Sel.there))) ?_
      rintro v Bs rfl
      refine go_ ?_
      exact s_ret1 (rs := [.tmp 2]) Tryz.func16 rfl (by intro j; refine RVS.tmp _ rfl ?_; exact RVS.nil) (.inl ⟨rfl, rfl, rfl⟩) (by repeat (first | exact Ent.nil | refine Ent.per (by repeat (first | with_reducible exact Sel.here | with_reducible apply Sel.there)) ?_ | refine Ent.cons (by repeat (first | with_reducible exact Sel.here | with_reducible apply Sel.there)) ?_))
end Go.Proofs.YtgbbcpfnmkeijaaGreat
/- The plain law of a commit: what the disk shows behind it. -/
namespace Go.Proofs.YtgbbcpfnmkeijaaGreat
open Go.Cam
set_option maxRecDepth 100000
theorem Dr.on_puts : ∀ (ws : List (Nat × List Nat)) {σ : Dr}, σ.on → (σ.puts ws).2 = true ∧ (σ.puts ws).1.on ∧ (σ.puts ws).1.n = σ.n ∧ (σ.puts ws).1.lastS = updsS σ.lastS ws ∧ (σ.puts ws).1.steps = σ.steps + ws.length
  | [], σ, h => ⟨rfl, h, rfl, rfl, rfl⟩
  | x :: ws, σ, h => by
    obtain ⟨h1, h2, h3, h4, h5⟩ := Dr.on_write h x.1 x.2
    obtain ⟨g1, g2, g3, g4, g5⟩ := Dr.on_puts ws h2
    rw [Dr.puts, h1, if_pos rfl]
    exact ⟨g1, g2, g3.trans h3, by rw [updsS, ← h4]; exact g4, by
      show ((σ.write x.1 x.2).1.puts ws).1.steps = _
      rw [g5, h5]; simp; omega⟩
theorem Dr.flush_cached {σ : Dr} (h : σ.flush.2 = true) (k : Int) : σ.flush.1.cached k = [] := by
  unfold Dr.flush at *
  split at h
  · rename_i h2; rw [if_pos h2]
  · cases h
theorem Dr.writes_cached : ∀ (ws : List (Nat × List Nat)) {σ : Dr}, (σ.writes ws).2 = true → ∀ k, (σ.writes ws).1.cached k = []
  | [], σ, h => Dr.flush_cached h
  | x :: ws, σ, h => by
    rw [Dr.writes] at h ⊢
    split at h
    · rename_i h2; rw [if_pos h2]; exact Dr.writes_cached ws h
    · cases h
theorem Dr.flip_cached {σ : Dr} {ct : Ct} {g : Nat} (h : (σ.flip ct g).2 = true) (k : Int) : (σ.flip ct g).1.cached k = [] := by
  unfold Dr.flip at *
  split at h
  · rename_i h2; rw [if_pos h2]; exact Dr.writes_cached _ h k
  · cases h
theorem Dr.on_commit {σd : Dr} (h : σd.on) (σ : Ct) (g : Int → Option OB) (gn : Nat) : (σd.commit σ g gn).2 = true ∧ (σd.commit σ g gn).1.on ∧ (σd.commit σ g gn).1.n = σd.n ∧
    (σd.commit σ g gn).1.lastS = updS (updsS (updsS σd.lastS (putsW σ g gn (keysN (bmap g) σ.n))) (areaW σ σ.n gn (areaN σ.n))) (gn % 2) (sealB ⟨1, gn % 2, 0, 0, gn⟩ (supB σ.n 8)) ∧
    (σd.commit σ g gn).1.steps = σd.steps + (putsW σ g gn (keysN (bmap g) σ.n)).length + areaN σ.n + 3 ∧ ∀ k, (σd.commit σ g gn).1.cached k = [] := by
  obtain ⟨a1, a2, a3, a4, a5⟩ := Dr.on_puts (putsW σ g gn (keysN (bmap g) σ.n)) h
  obtain ⟨b1, b2, b3, b4, b5⟩ := Dr.on_flip a2 σ gn
  have e : σd.commit σ g gn = (σd.puts (putsW σ g gn (keysN (bmap g) σ.n))).1.flip σ gn := by unfold Dr.commit; rw [a1, if_pos rfl]
  rw [e]
  exact ⟨b1, b2, b3.trans a3, by rw [b4, a4], by rw [b5, a5], fun k => Dr.flip_cached b1 k⟩
theorem putsW_mem {σ : Ct} {g : Int → Option OB} {gn : Nat} : ∀ {ks : List Int} {x : Nat × List Nat}, x ∈ putsW σ g gn ks → ∃ k ∈ ks, ∃ o, g k = some o ∧ σ.now k.toNat ≠ 0 ∧ x = (k.toNat, sealB ⟨5, k.toNat, o.l.length, 0, gn⟩ o.l)
  | k :: ks, x, h => by
    rw [putsW] at h
    rcases List.mem_append.1 h with h | h
    · cases hg : g k with
      | none => rw [hg] at h; cases h
      | some o =>
        rw [hg] at h
        dsimp only at h
        split at h
        · cases h
        · rename_i h0
          rw [List.mem_singleton] at h
          exact ⟨k, List.mem_cons_self .., o, hg, h0, h⟩
    · obtain ⟨k', h1, h2⟩ := putsW_mem h
      exact ⟨k', List.mem_cons_of_mem _ h1, h2⟩
/-- what is committed of a block -/
theorem updsS_puts {σ : Ct} {g : Int → Option OB} {gn : Nat} (f : Nat → List Nat) {k : Int} {o : OB} (hg : g k = some o) (h0 : σ.now k.toNat ≠ 0) : ∀ {ks : List Int}, (∀ q ∈ ks, 0 ≤ q) → ks.Pairwise (· < ·) → k ∈ ks → ∀ f, updsS f (putsW σ g gn ks) k.toNat = sealB ⟨5, k.toNat, o.l.length, 0, gn⟩ o.l
  | q :: ks, hp, hs, hk, f => by
    obtain ⟨s1, s2⟩ := List.pairwise_cons.1 hs
    rw [putsW, updsS_app]
    rcases List.mem_cons.1 hk with rfl | hk
    · rw [hg]
      dsimp only
      rw [if_neg h0, updsS_other _ _ _ fun x hx => ?_]
      · show updS f k.toNat _ k.toNat = _
        unfold updS; rw [if_pos rfl]
      · obtain ⟨k', h1, o', h2, h3, rfl⟩ := putsW_mem hx
        have := s1 k' h1
        have := hp k (List.mem_cons_self ..)
        dsimp only; omega
    · exact updsS_puts f hg h0 (fun q hq => hp q (List.mem_cons_of_mem _ hq)) s2 hk _
/-- counts, as they are read again -/
theorem body_at (σ : Ct) (i : Nat) (hw : ∀ a, σ.now a ≤ 65535) : ∀ m k, k < m → numB (((σ.bodyN i m).drop (2 * k)).take 2) = σ.get (i * 118 + k)
  | m + 1, k, hk => by
    have hl := σ.bodyN_len i m
    rw [Ct.bodyN]
    by_cases e : k < m
    · rw [List.drop_append_of_le_length (by omega), List.take_append_of_le_length (by rw [List.length_drop]; omega)]
      exact body_at σ i hw m k e
    · have : k = m := by omega
      subst this
      rw [List.drop_left' hl, List.take_of_length_le (by rw [putN_len]; omega), numB_putN]
      unfold Ct.get
      split
      · have := hw (i * 118 + k); omega
      · decide
theorem ctAt_body (σ : Ct) (hw : ∀ a, σ.now a ≤ 65535) (a : Nat) : ctAt (fun i => σ.bodyN i 118) a = σ.get a := by
  unfold ctAt ctVal
  rw [body_at σ _ hw 118 _ (Nat.mod_lt _ (by decide))]
  congr 1; omega
theorem ctNow_body (σ : Ct) (hw : ∀ a, σ.now a ≤ 65535) : ctNow (fun i => σ.bodyN i 118) (areaN σ.n * 118) = σ.get := by
  funext a
  unfold ctNow
  split
  · exact ctAt_body σ hw a
  · unfold Ct.get; rw [if_neg]; unfold areaN at *; omega
structure Cmt (σ : Ct) (g : Int → Option OB) : Prop where
  n1 : 32 ≤ σ.n
  n2 : σ.n ≤ 2048
  bm : BmOk σ g
  lo : ∀ k, g k ≠ none → (firstN σ.n : Int) ≤ k
  w : ∀ a, σ.now a ≤ 65535
  f : ∀ a, σ.now a ≠ 0 → firstN σ.n ≤ a
theorem Cmt.keys {σ : Ct} {g : Int → Option OB} (h : Cmt σ g) (k : Int) : k ∈ keysN (bmap g) σ.n ↔ g k ≠ none := (keysN_mem (fun k hk => h.bm.k k (bmap_none.1 hk)) k).trans bmap_none
theorem Cmt.at_ {σ : Ct} {g : Int → Option OB} (h : Cmt σ g) {gn : Nat} {x : Nat × List Nat} (hx : x ∈ putsW σ g gn (keysN (bmap g) σ.n)) : firstN σ.n ≤ x.1 := by
  obtain ⟨k, h1, o, h2, h3, rfl⟩ := putsW_mem hx
  have := h.lo k (by rw [h2]; simp)
  dsimp only; omega
theorem area_lt (n g i : Nat) (hi : i < areaN n) : 2 ≤ areaAtN n g + i ∧ areaAtN n g + i < firstN n := by
  have e3 : g % 2 * areaN n ≤ 1 * areaN n := Nat.mul_le_mul_right _ (by omega)
  unfold areaAtN firstN; omega
/-- behind a commit the disk is mounted with the counts of then -/
theorem commit_mnt {σd : Dr} (hon : σd.on) {σ : Ct} {g : Int → Option OB} (h : Cmt σ g) (hn : σd.n = σ.n) (gn : Nat) (hg1 : 1 ≤ gn) (hg2 : gn + 1 ≤ 1099511627775) (hs : IsSup σ.n (gn % 2) (σd.lastS (gn % 2)) (some gn)) :
    Mnt (σd.commit σ g (gn + 1)).1.lastS σ.n (gn + 1) (fun i => σ.bodyN i 118) ∧ IsSup σ.n ((gn + 1) % 2) ((σd.commit σ g (gn + 1)).1.lastS ((gn + 1) % 2)) (some (gn + 1)) ∧
    (∀ k o, g k = some o → σ.now k.toNat ≠ 0 → (σd.commit σ g (gn + 1)).1.lastS k.toNat = sealB ⟨5, k.toNat, o.l.length, 0, gn + 1⟩ o.l) ∧
    (∀ q, firstN σ.n ≤ q → (g q = none ∨ σ.now q = 0) → (σd.commit σ g (gn + 1)).1.lastS q = σd.lastS q) := by
  obtain ⟨_, _, _, e, _, _⟩ := Dr.on_commit hon σ g (gn + 1)
  rw [e]
  have hf2 : 2 ≤ firstN σ.n := by unfold firstN; omega
  have h0 : ∀ f q, q < 2 → updsS (updsS f (putsW σ g (gn + 1) (keysN (bmap g) σ.n))) (areaW σ σ.n (gn + 1) (areaN σ.n)) q = f q := fun f q hq => by
    rw [updsS_other _ _ _ fun x hx => (by have := areaW_at hx; omega), updsS_other _ _ _ fun x hx => (by have := h.at_ hx; omega)]
  have hsup : updS (updsS (updsS σd.lastS (putsW σ g (gn + 1) (keysN (bmap g) σ.n))) (areaW σ σ.n (gn + 1) (areaN σ.n))) ((gn + 1) % 2) (sealB ⟨1, (gn + 1) % 2, 0, 0, gn + 1⟩ (supB σ.n 8)) ((gn + 1) % 2) = sealB ⟨1, (gn + 1) % 2, 0, 0, gn + 1⟩ (supB σ.n 8) := by unfold updS; rw [if_pos rfl]
  have hold : updS (updsS (updsS σd.lastS (putsW σ g (gn + 1) (keysN (bmap g) σ.n))) (areaW σ σ.n (gn + 1) (areaN σ.n))) ((gn + 1) % 2) (sealB ⟨1, (gn + 1) % 2, 0, 0, gn + 1⟩ (supB σ.n 8)) (gn % 2) = σd.lastS (gn % 2) := by
    unfold updS; rw [if_neg (by omega), h0 _ _ (by omega)]
  have hso : supOk (gn + 1) σ.n := ⟨by omega, hg2, h.n1, h.n2⟩
  have hbig : ∀ q, firstN σ.n ≤ q → updS (updsS (updsS σd.lastS (putsW σ g (gn + 1) (keysN (bmap g) σ.n))) (areaW σ σ.n (gn + 1) (areaN σ.n))) ((gn + 1) % 2) (sealB ⟨1, (gn + 1) % 2, 0, 0, gn + 1⟩ (supB σ.n 8)) q = updsS σd.lastS (putsW σ g (gn + 1) (keysN (bmap g) σ.n)) q := fun q hq => by
    unfold updS
    rw [if_neg (by omega), updsS_other _ _ _ fun x hx => ?_]
    obtain ⟨i, hi, rfl⟩ := List.mem_map.1 hx
    have := area_lt σ.n (gn + 1) i (List.mem_range.1 hi)
    dsimp only; omega
  refine ⟨⟨⟨(gn + 1) % 2, ?_⟩, fun i hi => ?_, fun i hi => by rw [σ.bodyN_len], fun i => σ.bodyN_bys i 118, fun a _ hne => ?_⟩, ?_, fun k o hk hk0 => ?_, fun q hq hg => ?_⟩
  · rcases Nat.mod_two_eq_zero_or_one gn with hm | hm
    · have hm2 : (gn + 1) % 2 = 1 := by omega
      rw [hm] at hold hs
      rw [hm2] at hsup hold ⊢
      exact .inr (.inr (.inl ⟨gn, by omega, by rw [hold]; exact hs, by rw [hsup]; exact ⟨hso, rfl⟩, rfl⟩))
    · have hm2 : (gn + 1) % 2 = 0 := by omega
      rw [hm] at hold hs
      rw [hm2] at hsup hold ⊢
      exact .inr (.inr (.inr ⟨gn, by omega, by rw [hsup]; exact ⟨hso, rfl⟩, by rw [hold]; exact hs, rfl⟩))
  · have := area_lt σ.n (gn + 1) i hi
    unfold updS
    rw [if_neg (by omega)]
    exact updsS_area _ σ σ.n (gn + 1) (areaN σ.n) i hi
  · rw [ctAt_body σ h.w] at hne
    unfold Ct.get at hne
    split at hne
    · rename_i h3; exact ⟨h.f a hne, h3⟩
    · exact absurd rfl hne
  · rw [hsup]; exact ⟨hso, rfl⟩
  · have h3 := h.lo k (by rw [hk]; simp)
    rw [hbig _ (by omega)]
    exact updsS_puts σd.lastS hk hk0 (fun q hq => by have := (h.bm.k q ((h.keys q).1 hq)).1; exact this) (keysN_lt _ _) ((h.keys k).2 (by rw [hk]; simp)) _
  · rw [hbig q hq, updsS_other]
    intro x hx
    obtain ⟨k, h1, o, h2, h4, rfl⟩ := putsW_mem hx
    have h5 := (h.bm.k k (by rw [h2]; simp)).1
    intro e
    have e : k.toNat = q := e
    rcases hg with hg | hg
    · rw [← e, Int.toNat_of_nonneg h5, h2] at hg; cases hg
    · rw [← e] at hg; exact h4 hg
theorem fmt_sup {σ : Dr} (h : σ.on) (h1 : 32 ≤ σ.n) (h2 : σ.n ≤ 2048) : IsSup σ.n (1 % 2) (σ.fmt.lastS (1 % 2)) (some 1) := by
  obtain ⟨a1, a2, a3, a4, a5⟩ := Dr.on_writes none2 h
  obtain ⟨b1, b2, b3, b4, b5⟩ := Dr.on_flip a2 (Ct.new σ.n) 1
  have e : σ.fmt.lastS = _ := b4
  rw [e]
  unfold updS
  rw [if_pos rfl]
  exact ⟨⟨Nat.le_refl _, by omega, h1, h2⟩, rfl⟩
theorem keysN_len (gm : Int → Option Value) (N : Nat) : (keysN gm N).length ≤ N := by
  unfold keysN
  refine Nat.le_trans (List.length_filter_le _ _) ?_
  simp
theorem putsW_len (σ : Ct) (g : Int → Option OB) (gn : Nat) : ∀ ks : List Int, (putsW σ g gn ks).length ≤ ks.length
  | [] => Nat.le_refl _
  | q :: ks => by
    have ih := putsW_len σ g gn ks
    rw [putsW, List.length_append, List.length_cons]
    cases g q with
    | none => dsimp only; rw [List.length_nil]; omega
    | some o =>
      dsimp only
      split
      · rw [List.length_nil]; omega
      · rw [List.length_singleton]; omega
end Go.Proofs.YtgbbcpfnmkeijaaGreat
/- The pool laws' examples: shown. -/
namespace Go.Proofs.YtgbbcpfnmkeijaaGreat
open Go.Cam
set_option maxRecDepth 100000
/-- a text of two letters, as bytes -/
theorem s_ab {P : Program} {f : FuncId} {n : Nat} {R : Value → HP} {k : List It} {l : List (Nat × Value)} {As Bs : List HP} {r e : Nat} (u : Sel (.own r (.cells (flat 2 (rowsOf 1 [.int .u8 97, .int .u8 98])).toArray e ((flat 2 (rowsOf 1 [.int .u8 97, .int .u8 98])).toArray.size, (flat 2 (rowsOf 1 [.int .u8 97, .int .u8 98])).toArray.size + 1))) As Bs)
    (h : RunS P f n R k l (BS (.slice (some ⟨r, 0, none⟩) ([97, 98] : List Nat).length 2) [97, 98] :: Bs)) : RunS P f n R k l As :=
  s_fzo (b := r) (off := 0) (m := 2) (c := 2) (sz := 1) (row := byR [97, 98]) u (fun _ _ => rfl) (by decide) (by decide) (by rfl) h
abbrev exCt : Ct := { Ct.new 32 with now := nset (Ct.new 32).now 4 1 }
abbrev exBm (a : Option Addr) (c : Nat) : Int → Option OB := bset (fun _ => none) ((4 : Nat) : Int) ⟨5, [97, 98], a, c⟩
theorem exCmt (a : Option Addr) (c : Nat) : Cmt exCt (exBm a c) := by
  have hk : ∀ k, exBm a c k ≠ none → k = 4 := fun k h => by
    unfold exBm bset at h
    by_cases e : k = ((4 : Nat) : Int)
    · exact e
    · rw [if_neg e] at h; exact absurd rfl h
  refine ⟨by decide, by decide, ⟨fun k h => by rw [hk k h]; decide, fun k o h => ?_⟩, fun k h => by rw [hk k h]; decide, fun q => ?_, fun q hq => ?_⟩
  · unfold exBm bset at h
    split at h
    · cases h; exact ⟨rfl, by show 2 ≤ 128; decide, fun c hc => by
        have hc : c ∈ ([97, 98] : List Nat) := hc
        simp at hc; omega⟩
    · cases h
  · show nset _ _ _ _ ≤ _
    unfold nset; split
    · decide
    · exact Nat.zero_le _
  · have hq : nset (Ct.new 32).now 4 1 q ≠ 0 := hq
    unfold nset at hq
    by_cases e : q = 4
    · subst e; decide
    · rw [if_neg e] at hq; exact absurd rfl hq
set_option maxHeartbeats 16000000 in
theorem shown9_c : Ctr Tryz.prog 6 [] [] (fun v Bs => v = .bool true ∧ Bs = []) := by
  have hon0 : (Dr.new 32).on := ⟨rfl, by show (-1 : Int) < 0; decide⟩
  obtain ⟨f1, f2, f3, f4⟩ := Dr.fmt_mnt hon0 (by decide) (by decide)
  have f5 := fmt_sup hon0 (by decide) (by decide)
  refine s_enter 121 [] (fun F => [F]) Tryz.func6 fun F => ?_
  refine go_ ?_
  refine s_call (sp := (by repeat (first | exact Split.nil | apply Split.perx (by repeat (first | with_reducible exact Sel.here | with_reducible apply Sel.there)) (by infer_instance) | apply Split.cons (by repeat (first | with_reducible exact Sel.here | with_reducible apply Sel.there))))) (hs := dnew_c 32 (by decide) (by decide)) (h := ?_)
  rintro v Bs ⟨b, rfl, rfl⟩
  refine go_ ?_
  refine s_call (sp := (by repeat (first | exact Split.nil | apply Split.perx (by repeat (first | with_reducible exact Sel.here | with_reducible apply Sel.there)) (by infer_instance) | apply Split.cons (by repeat (first | with_reducible exact Sel.here | with_reducible apply Sel.there))))) (hs := pformat_c b (Dr.new 32) hon0 (by decide) (by decide) (by decide)) (h := ?_)
  rintro v Bs ⟨p, bc, m, rfl, rfl⟩
  have f4' : (Dr.new 32).fmt.steps ≤ 200 := by have : (Dr.new 32).steps = 0 := rfl; omega
  generalize (Dr.new 32).fmt = σd at *
  refine go_ ?_
  refine s_bs (cells := [.int .u8 97, .int .u8 98]) (fun a1 => ?_) (fun j => rfl)
  refine s_full (a := a1) (m := 2) (by repeat (first | with_reducible exact Sel.here | with_reducible apply Sel.there)) (by decide) fun r6 hr6 => ?_
  subst hr6
  refine s_step (st_cvb (b := r6) (cs := (flat 2 (rowsOf 1 [.int .u8 97, .int .u8 98])).toArray) (by repeat (first | with_reducible exact Upd.here | with_reducible apply Upd.there))) ?_
  rintro _ _ ⟨rfl, rfl⟩
  refine s_ab (r := r6) (by repeat (first | with_reducible exact Sel.here | with_reducible apply Sel.there)) ?_
  refine s_obs0 ?_
  refine s_front (a := MG m (fun _ => none)) (by repeat (first | with_reducible exact Sel.here | with_reducible apply Sel.there)) (s_open (B := MG m (bmap fun _ => none)) (fun _ _ q => q) ?_)
  refine go_ ?_
  refine s_call (sp := (by repeat (first | exact Split.nil | apply Split.perx (by repeat (first | with_reducible exact Sel.here | with_reducible apply Sel.there)) (by infer_instance) | apply Split.cons (by repeat (first | with_reducible exact Sel.here | with_reducible apply Sel.there))))) (hs := pputB_c p b 1 32 bc m (Ct.new 32) (fun _ => none) (a := some ⟨r6, 0, none⟩) (c := 2) [97, 98] (by decide)) (h := ?_)
  rintro v Bs (⟨i, a2, c2, hi, rfl, rfl⟩ | ⟨hi, _⟩)
  · have e4 : (Ct.new 32).free? = some 4 := rfl
    rw [e4] at hi
    cases hi
    have hg4 : exBm a2 c2 ((4 : Nat) : Int) = some ⟨5, [97, 98], a2, c2⟩ := by unfold exBm bset; rw [if_pos rfl]
    have hc1 := exCmt a2 c2
    have hon2 : σd.n = exCt.n := f2
    obtain ⟨k1, k2, k3, k4, k5, k6⟩ := Dr.on_commit f1 exCt (exBm a2 c2) 2
    obtain ⟨m1, m2, m3, m4⟩ := commit_mnt f1 hc1 hon2 1 (by decide) (by decide) f5
    have hst2 : (σd.commit exCt (exBm a2 c2) 2).1.steps ≤ 1000 := by
      have h1 : (keysN (bmap (exBm a2 c2)) exCt.n).length ≤ 32 := keysN_len _ _
      have h3 := putsW_len exCt (exBm a2 c2) 2 (keysN (bmap (exBm a2 c2)) exCt.n)
      have h4 : areaN exCt.n = 1 := rfl
      rw [k5, h4]; omega
    refine go_ ?_
    refine s_call (sp := (by repeat (first | exact Split.nil | apply Split.perx (by repeat (first | with_reducible exact Sel.here | with_reducible apply Sel.there)) (by infer_instance) | apply Split.cons (by repeat (first | with_reducible exact Sel.here | with_reducible apply Sel.there))))) (hs := pbytesM_c p b 1 32 bc m exCt (exBm a2 c2) 4 (by decide) (by decide) ⟨5, [97, 98], a2, c2⟩ hg4 rfl (by show 2 < 1000000; decide)) (h := ?_)
    rintro v Bs ⟨a3, c3, rfl, rfl⟩
    refine go_ ?_
    refine s_call (sp := (by repeat (first | exact Split.nil | apply Split.perx (by repeat (first | with_reducible exact Sel.here | with_reducible apply Sel.there)) (by infer_instance) | apply Split.cons (by repeat (first | with_reducible exact Sel.here | with_reducible apply Sel.there))))) (hs := pfree_c p b 1 32 bc m exCt (by decide) (by decide)) (h := ?_)
    rintro v Bs ⟨rfl, rfl⟩
    refine go_ ?_
    refine s_call (sp := (by repeat (first | exact Split.nil | apply Split.perx (by repeat (first | with_reducible exact Sel.here | with_reducible apply Sel.there)) (by infer_instance) | apply Split.cons (by repeat (first | with_reducible exact Sel.here | with_reducible apply Sel.there))))) (hs := pcommit_c p b 1 bc m exCt (exBm a2 c2) σd (by decide) (by decide) hon2 (by omega) (by decide) hc1.bm) (h := ?_)
    rintro v Bs (⟨_, rfl, rfl⟩ | ⟨h0, _⟩)
    · generalize (σd.commit exCt (exBm a2 c2) 2).1 = σ2 at *
      refine go_ ?_
      rw [show exCt.freeN (exCt.n - firstN exCt.n) (firstN exCt.n) = 27 from rfl]
      have hn3 : σ2.n = 32 := k3.trans f2
      have hm2 : Mnt σ2.lastS σ2.n 2 (fun i => exCt.bodyN i 118) := by rw [hn3]; exact m1
      refine s_call (sp := (by repeat (first | exact Split.nil | apply Split.perx (by repeat (first | with_reducible exact Sel.here | with_reducible apply Sel.there)) (by infer_instance) | apply Split.cons (by repeat (first | with_reducible exact Sel.here | with_reducible apply Sel.there))))) (hs := pmount_c b σ2 2 (fun i => exCt.bodyN i 118) k2.1 (by omega) (by omega) (by omega) hm2) (h := ?_)
      rintro v Bs ⟨q, bc2, mm, rfl, rfl⟩
      have hb := ctNow_body exCt hc1.w
      rw [hn3, show areaN 32 * 118 = areaN exCt.n * 118 from rfl, hb]
      refine go_ ?_
      refine s_front (a := MG mm (fun _ => none)) (by repeat (first | with_reducible exact Sel.here | with_reducible apply Sel.there)) (s_open (B := MG mm (bmap fun _ => none)) (fun _ _ q => q) ?_)
      have hs4 := m3 ((4 : Nat) : Int) _ hg4 (by decide)
      refine s_call (sp := (by repeat (first | exact Split.nil | apply Split.perx (by repeat (first | with_reducible exact Sel.here | with_reducible apply Sel.there)) (by infer_instance) | apply Split.cons (by repeat (first | with_reducible exact Sel.here | with_reducible apply Sel.there))))) (hs := pbytesD_c q b 2 32 bc2 mm ⟨32, exCt.get, exCt.get⟩ (fun _ => none) σ2 4 2 [97, 98] (by decide) (by decide) rfl (by omega) k2.1 (by omega) (by decide) (by unfold Bys; decide) (blkHd_ok (n := 32) (by decide) (by decide) (by decide) (by decide)) hs4) (h := ?_)
      rintro v Bs ⟨a4, c4, rfl, rfl⟩
      refine go_ ?_
      refine s_call (sp := (by repeat (first | exact Split.nil | apply Split.perx (by repeat (first | with_reducible exact Sel.here | with_reducible apply Sel.there)) (by infer_instance) | apply Split.cons (by repeat (first | with_reducible exact Sel.here | with_reducible apply Sel.there))))) (hs := punref_c q b 2 32 bc2 mm ⟨32, exCt.get, exCt.get⟩ 4 (by decide) (by decide)) (h := ?_)
      rintro v Bs ⟨rfl, rfl⟩
      refine go_ ?_
      refine s_call (sp := (by repeat (first | exact Split.nil | apply Split.perx (by repeat (first | with_reducible exact Sel.here | with_reducible apply Sel.there)) (by infer_instance) | apply Split.cons (by repeat (first | with_reducible exact Sel.here | with_reducible apply Sel.there))))) (hs := pbytesN_c q b 2 32 bc2 mm { (⟨32, exCt.get, exCt.get⟩ : Ct) with now := nset exCt.get 4 (exCt.get 4 - 1) } 4 (by decide) (by decide)) (h := ?_)
      rintro v Bs ⟨rfl, rfl⟩
      refine go_ ?_
      refine s_look (lk_b2s (a := a3) (c := c3) (m := 2) (s := [97, 98]) (by repeat (first | with_reducible exact SelR.here | with_reducible apply SelR.there)) rfl) ?_
      refine s_look (lk_p (v := .bool ((strB [97, 98]).toList == (ByteArray.mk #[97, 98]).toList)) (by intro j; rfl)) ?_
      rw [show strB [97, 98] = ByteArray.mk #[97, 98] from rfl, beq_self_eq_true]
      refine go_ ?_
      refine s_look (lk_b2s (a := a4) (c := c4) (m := 2) (s := [97, 98]) (by repeat (first | with_reducible exact SelR.here | with_reducible apply SelR.there)) rfl) ?_
      refine s_look (lk_p (v := .bool ((strB [97, 98]).toList == (ByteArray.mk #[97, 98]).toList)) (by intro j; rfl)) ?_
      rw [show strB [97, 98] = ByteArray.mk #[97, 98] from rfl, beq_self_eq_true]
      refine go_ ?_
      refine s_call (sp := (by repeat (first | exact Split.nil | apply Split.perx (by repeat (first | with_reducible exact Sel.here | with_reducible apply Sel.there)) (by infer_instance) | apply Split.cons (by repeat (first | with_reducible exact Sel.here | with_reducible apply Sel.there))))) (hs := psuper_c q b 2 32 bc2 mm) (h := ?_)
      rintro v Bs ⟨rfl, rfl⟩
      refine go_ ?_
      refine s_call (sp := (by repeat (first | exact Split.nil | apply Split.perx (by repeat (first | with_reducible exact Sel.here | with_reducible apply Sel.there)) (by infer_instance) | apply Split.cons (by repeat (first | with_reducible exact Sel.here | with_reducible apply Sel.there))))) (hs := pfree_c q b 2 32 bc2 mm { (⟨32, exCt.get, exCt.get⟩ : Ct) with now := nset exCt.get 4 (exCt.get 4 - 1) } (by decide) (by decide)) (h := ?_)
      rintro v Bs ⟨rfl, rfl⟩
      rw [show Ct.freeN { (⟨32, exCt.get, exCt.get⟩ : Ct) with now := nset exCt.get 4 (exCt.get 4 - 1) } (32 - firstN 32) (firstN 32) = 27 from rfl]
      refine go_ ?_
      exact s_ret1 (rs := [.tmp 0]) Tryz.func6 rfl (by intro j; refine RVS.tmp _ rfl ?_; exact RVS.nil) (⟨rfl, rfl⟩) (by repeat (first | exact Ent.nil | refine Ent.per (by repeat (first | with_reducible exact Sel.here | with_reducible apply Sel.there)) ?_ | refine Ent.cons (by repeat (first | with_reducible exact Sel.here | with_reducible apply Sel.there)) ?_))
    · rw [k1] at h0; cases h0
  · have e4 : (Ct.new 32).free? = some 4 := rfl
    rw [e4] at hi; cases hi
end Go.Proofs.YtgbbcpfnmkeijaaGreat
/- The numbers at which the library's contract of maps.Clone stands in this program (printed by the kit's tool). -/
namespace Go.Proofs.YtgbbcpfnmkeijaaGreat
open Go.Shelf
def Tryz.mcloneA_ren : Go.Shelf.Ren := ⟨fun | 5 => 32 | 7 => 70 | n => n, fun | 23 => 81 | 25 => 3 | 3 => 90 | 4 => 4 | 20 => 20 | n => n, fun | n => n⟩
theorem Tryz.mcloneA : Go.Proofs.SlLaysW.n5 Tryz.prog Tryz.mcloneA_ren := {
  mixed := by kernel_rfl
  f5 := ⟨Tryz.f32.name, by decide, Tryz.func32.trans (congrArg some (by kernel_rfl))⟩
  f7 := Tryz.func70.trans (congrArg some (by kernel_rfl))
  t4 := Tryz.underlying4
  a4 := Tryz.isAgg4
  z4 := Tryz.sizeOf4
  v4 := Tryz.zeroValue4
  t20 := Tryz.underlying20
  a20 := Tryz.isAgg20
  z20 := Tryz.sizeOf20
  v20 := Tryz.zeroValue20
  t23 := Tryz.underlying81
  a23 := Tryz.isAgg81
  z23 := Tryz.sizeOf81
  v23 := Tryz.zeroValue81 }
end Go.Proofs.YtgbbcpfnmkeijaaGreat
