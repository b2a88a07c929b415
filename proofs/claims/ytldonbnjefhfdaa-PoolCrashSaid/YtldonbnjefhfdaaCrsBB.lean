/- The plain law of a commit: what the disk shows behind it. -/
import Derived.Test.YtldonbnjefhfdaaCrsFA
import Derived.Test.YtldonbnjefhfdaaCrsAF
import Derived.Test.YtldonbnjefhfdaaCrsAC
import Derived.Test.YtldonbnjefhfdaaCamAR
import Derived.Test.YtldonbnjefhfdaaCrsBA
import Derived.Test.YtldonbnjefhfdaaCamAM
namespace Go.Proofs.Ytldonbnjefhfdaa
open Go.Cam
set_option maxRecDepth 100000
theorem Dr.on_puts : ∀ (ws : List (Nat × List Nat)) {σ : Dr}, σ.on → (σ.puts ws).2 = true ∧ (σ.puts ws).1.on ∧ (σ.puts ws).1.n = σ.n ∧ (σ.puts ws).1.lastS = updsS σ.lastS ws ∧ (σ.puts ws).1.steps = σ.steps + ws.length
  | [], σ, h => ⟨rfl, h, rfl, rfl, rfl⟩
  | x :: ws, σ, h => by
    obtain ⟨h1, h2, h3, h4, h5⟩ := Dr.on_write h x.1 x.2
    obtain ⟨g1, g2, g3, g4, g5⟩ := Dr.on_puts ws h2
    rw [Dr.puts, h1, if_pos rfl]
    exact ⟨g1, g2, g3.trans h3, by rw [updsS, ← h4]; exact g4, by
      show ((σ.write x.1 x.2).1.puts ws).1.steps = _
      rw [g5, h5]; simp; omega⟩
theorem Dr.flush_cached {σ : Dr} (h : σ.flush.2 = true) (k : Int) : σ.flush.1.cached k = [] := by
  unfold Dr.flush at *
  split at h
  · rename_i h2; rw [if_pos h2]
  · cases h
theorem Dr.writes_cached : ∀ (ws : List (Nat × List Nat)) {σ : Dr}, (σ.writes ws).2 = true → ∀ k, (σ.writes ws).1.cached k = []
  | [], σ, h => Dr.flush_cached h
  | x :: ws, σ, h => by
    rw [Dr.writes] at h ⊢
    split at h
    · rename_i h2; rw [if_pos h2]; exact Dr.writes_cached ws h
    · cases h
theorem Dr.flip_cached {σ : Dr} {ct : Ct} {g : Nat} (h : (σ.flip ct g).2 = true) (k : Int) : (σ.flip ct g).1.cached k = [] := by
  unfold Dr.flip at *
  split at h
  · rename_i h2; rw [if_pos h2]; exact Dr.writes_cached _ h k
  · cases h
theorem Dr.on_commit {σd : Dr} (h : σd.on) (σ : Ct) (g : Int → Option OB) (gn : Nat) : (σd.commit σ g gn).2 = true ∧ (σd.commit σ g gn).1.on ∧ (σd.commit σ g gn).1.n = σd.n ∧
    (σd.commit σ g gn).1.lastS = updS (updsS (updsS σd.lastS (putsW σ g gn (keysN (bmap g) σ.n))) (areaW σ σ.n gn (areaN σ.n))) (gn % 2) (sealB ⟨1, gn % 2, 0, 0, gn⟩ (supB σ.n 8)) ∧
    (σd.commit σ g gn).1.steps = σd.steps + (putsW σ g gn (keysN (bmap g) σ.n)).length + areaN σ.n + 3 ∧ ∀ k, (σd.commit σ g gn).1.cached k = [] := by
  obtain ⟨a1, a2, a3, a4, a5⟩ := Dr.on_puts (putsW σ g gn (keysN (bmap g) σ.n)) h
  obtain ⟨b1, b2, b3, b4, b5⟩ := Dr.on_flip a2 σ gn
  have e : σd.commit σ g gn = (σd.puts (putsW σ g gn (keysN (bmap g) σ.n))).1.flip σ gn := by unfold Dr.commit; rw [a1, if_pos rfl]
  rw [e]
  exact ⟨b1, b2, b3.trans a3, by rw [b4, a4], by rw [b5, a5], fun k => Dr.flip_cached b1 k⟩
theorem putsW_mem {σ : Ct} {g : Int → Option OB} {gn : Nat} : ∀ {ks : List Int} {x : Nat × List Nat}, x ∈ putsW σ g gn ks → ∃ k ∈ ks, ∃ o, g k = some o ∧ σ.now k.toNat ≠ 0 ∧ x = (k.toNat, sealB ⟨5, k.toNat, o.l.length, 0, gn⟩ o.l)
  | k :: ks, x, h => by
    rw [putsW] at h
    rcases List.mem_append.1 h with h | h
    · cases hg : g k with
      | none => rw [hg] at h; cases h
      | some o =>
        rw [hg] at h
        dsimp only at h
        split at h
        · cases h
        · rename_i h0
          rw [List.mem_singleton] at h
          exact ⟨k, List.mem_cons_self .., o, hg, h0, h⟩
    · obtain ⟨k', h1, h2⟩ := putsW_mem h
      exact ⟨k', List.mem_cons_of_mem _ h1, h2⟩
/-- what is committed of a block -/
theorem updsS_puts {σ : Ct} {g : Int → Option OB} {gn : Nat} (f : Nat → List Nat) {k : Int} {o : OB} (hg : g k = some o) (h0 : σ.now k.toNat ≠ 0) : ∀ {ks : List Int}, (∀ q ∈ ks, 0 ≤ q) → ks.Pairwise (· < ·) → k ∈ ks → ∀ f, updsS f (putsW σ g gn ks) k.toNat = sealB ⟨5, k.toNat, o.l.length, 0, gn⟩ o.l
  | q :: ks, hp, hs, hk, f => by
    obtain ⟨s1, s2⟩ := List.pairwise_cons.1 hs
    rw [putsW, updsS_app]
    rcases List.mem_cons.1 hk with rfl | hk
    · rw [hg]
      dsimp only
      rw [if_neg h0, updsS_other _ _ _ fun x hx => ?_]
      · show updS f k.toNat _ k.toNat = _
        unfold updS; rw [if_pos rfl]
      · obtain ⟨k', h1, o', h2, h3, rfl⟩ := putsW_mem hx
        have := s1 k' h1
        have := hp k (List.mem_cons_self ..)
        dsimp only; omega
    · exact updsS_puts f hg h0 (fun q hq => hp q (List.mem_cons_of_mem _ hq)) s2 hk _
/-- counts, as they are read again -/
theorem body_at (σ : Ct) (i : Nat) (hw : ∀ a, σ.now a ≤ 65535) : ∀ m k, k < m → numB (((σ.bodyN i m).drop (2 * k)).take 2) = σ.get (i * 118 + k)
  | m + 1, k, hk => by
    have hl := σ.bodyN_len i m
    rw [Ct.bodyN]
    by_cases e : k < m
    · rw [List.drop_append_of_le_length (by omega), List.take_append_of_le_length (by rw [List.length_drop]; omega)]
      exact body_at σ i hw m k e
    · have : k = m := by omega
      subst this
      rw [List.drop_left' hl, List.take_of_length_le (by rw [putN_len]; omega), numB_putN]
      unfold Ct.get
      split
      · have := hw (i * 118 + k); omega
      · decide
theorem ctAt_body (σ : Ct) (hw : ∀ a, σ.now a ≤ 65535) (a : Nat) : ctAt (fun i => σ.bodyN i 118) a = σ.get a := by
  unfold ctAt ctVal
  rw [body_at σ _ hw 118 _ (Nat.mod_lt _ (by decide))]
  congr 1; omega
theorem ctNow_body (σ : Ct) (hw : ∀ a, σ.now a ≤ 65535) : ctNow (fun i => σ.bodyN i 118) (areaN σ.n * 118) = σ.get := by
  funext a
  unfold ctNow
  split
  · exact ctAt_body σ hw a
  · unfold Ct.get; rw [if_neg]; unfold areaN at *; omega
structure Cmt (σ : Ct) (g : Int → Option OB) : Prop where
  n1 : 32 ≤ σ.n
  n2 : σ.n ≤ 2048
  bm : BmOk σ g
  lo : ∀ k, g k ≠ none → (firstN σ.n : Int) ≤ k
  w : ∀ a, σ.now a ≤ 65535
  f : ∀ a, σ.now a ≠ 0 → firstN σ.n ≤ a
theorem Cmt.keys {σ : Ct} {g : Int → Option OB} (h : Cmt σ g) (k : Int) : k ∈ keysN (bmap g) σ.n ↔ g k ≠ none := (keysN_mem (fun k hk => h.bm.k k (bmap_none.1 hk)) k).trans bmap_none
theorem Cmt.at_ {σ : Ct} {g : Int → Option OB} (h : Cmt σ g) {gn : Nat} {x : Nat × List Nat} (hx : x ∈ putsW σ g gn (keysN (bmap g) σ.n)) : firstN σ.n ≤ x.1 := by
  obtain ⟨k, h1, o, h2, h3, rfl⟩ := putsW_mem hx
  have := h.lo k (by rw [h2]; simp)
  dsimp only; omega
theorem area_lt (n g i : Nat) (hi : i < areaN n) : 2 ≤ areaAtN n g + i ∧ areaAtN n g + i < firstN n := by
  have e3 : g % 2 * areaN n ≤ 1 * areaN n := Nat.mul_le_mul_right _ (by omega)
  unfold areaAtN firstN; omega
/-- behind a commit the disk is mounted with the counts of then -/
theorem commit_mnt {σd : Dr} (hon : σd.on) {σ : Ct} {g : Int → Option OB} (h : Cmt σ g) (hn : σd.n = σ.n) (gn : Nat) (hg1 : 1 ≤ gn) (hg2 : gn + 1 ≤ 1099511627775) (hs : IsSup σ.n (gn % 2) (σd.lastS (gn % 2)) (some gn)) :
    Mnt (σd.commit σ g (gn + 1)).1.lastS σ.n (gn + 1) (fun i => σ.bodyN i 118) ∧ IsSup σ.n ((gn + 1) % 2) ((σd.commit σ g (gn + 1)).1.lastS ((gn + 1) % 2)) (some (gn + 1)) ∧
    (∀ k o, g k = some o → σ.now k.toNat ≠ 0 → (σd.commit σ g (gn + 1)).1.lastS k.toNat = sealB ⟨5, k.toNat, o.l.length, 0, gn + 1⟩ o.l) ∧
    (∀ q, firstN σ.n ≤ q → (g q = none ∨ σ.now q = 0) → (σd.commit σ g (gn + 1)).1.lastS q = σd.lastS q) := by
  obtain ⟨_, _, _, e, _, _⟩ := Dr.on_commit hon σ g (gn + 1)
  rw [e]
  have hf2 : 2 ≤ firstN σ.n := by unfold firstN; omega
  have h0 : ∀ f q, q < 2 → updsS (updsS f (putsW σ g (gn + 1) (keysN (bmap g) σ.n))) (areaW σ σ.n (gn + 1) (areaN σ.n)) q = f q := fun f q hq => by
    rw [updsS_other _ _ _ fun x hx => (by have := areaW_at hx; omega), updsS_other _ _ _ fun x hx => (by have := h.at_ hx; omega)]
  have hsup : updS (updsS (updsS σd.lastS (putsW σ g (gn + 1) (keysN (bmap g) σ.n))) (areaW σ σ.n (gn + 1) (areaN σ.n))) ((gn + 1) % 2) (sealB ⟨1, (gn + 1) % 2, 0, 0, gn + 1⟩ (supB σ.n 8)) ((gn + 1) % 2) = sealB ⟨1, (gn + 1) % 2, 0, 0, gn + 1⟩ (supB σ.n 8) := by unfold updS; rw [if_pos rfl]
  have hold : updS (updsS (updsS σd.lastS (putsW σ g (gn + 1) (keysN (bmap g) σ.n))) (areaW σ σ.n (gn + 1) (areaN σ.n))) ((gn + 1) % 2) (sealB ⟨1, (gn + 1) % 2, 0, 0, gn + 1⟩ (supB σ.n 8)) (gn % 2) = σd.lastS (gn % 2) := by
    unfold updS; rw [if_neg (by omega), h0 _ _ (by omega)]
  have hso : supOk (gn + 1) σ.n := ⟨by omega, hg2, h.n1, h.n2⟩
  have hbig : ∀ q, firstN σ.n ≤ q → updS (updsS (updsS σd.lastS (putsW σ g (gn + 1) (keysN (bmap g) σ.n))) (areaW σ σ.n (gn + 1) (areaN σ.n))) ((gn + 1) % 2) (sealB ⟨1, (gn + 1) % 2, 0, 0, gn + 1⟩ (supB σ.n 8)) q = updsS σd.lastS (putsW σ g (gn + 1) (keysN (bmap g) σ.n)) q := fun q hq => by
    unfold updS
    rw [if_neg (by omega), updsS_other _ _ _ fun x hx => ?_]
    obtain ⟨i, hi, rfl⟩ := List.mem_map.1 hx
    have := area_lt σ.n (gn + 1) i (List.mem_range.1 hi)
    dsimp only; omega
  refine ⟨⟨⟨(gn + 1) % 2, ?_⟩, fun i hi => ?_, fun i hi => by rw [σ.bodyN_len], fun i => σ.bodyN_bys i 118, fun a _ hne => ?_⟩, ?_, fun k o hk hk0 => ?_, fun q hq hg => ?_⟩
  · rcases Nat.mod_two_eq_zero_or_one gn with hm | hm
    · have hm2 : (gn + 1) % 2 = 1 := by omega
      rw [hm] at hold hs
      rw [hm2] at hsup hold ⊢
      exact .inr (.inr (.inl ⟨gn, by omega, by rw [hold]; exact hs, by rw [hsup]; exact ⟨hso, rfl⟩, rfl⟩))
    · have hm2 : (gn + 1) % 2 = 0 := by omega
      rw [hm] at hold hs
      rw [hm2] at hsup hold ⊢
      exact .inr (.inr (.inr ⟨gn, by omega, by rw [hsup]; exact ⟨hso, rfl⟩, by rw [hold]; exact hs, rfl⟩))
  · have := area_lt σ.n (gn + 1) i hi
    unfold updS
    rw [if_neg (by omega)]
    exact updsS_area _ σ σ.n (gn + 1) (areaN σ.n) i hi
  · rw [ctAt_body σ h.w] at hne
    unfold Ct.get at hne
    split at hne
    · rename_i h3; exact ⟨h.f a hne, h3⟩
    · exact absurd rfl hne
  · rw [hsup]; exact ⟨hso, rfl⟩
  · have h3 := h.lo k (by rw [hk]; simp)
    rw [hbig _ (by omega)]
    exact updsS_puts σd.lastS hk hk0 (fun q hq => by have := (h.bm.k q ((h.keys q).1 hq)).1; exact this) (keysN_lt _ _) ((h.keys k).2 (by rw [hk]; simp)) _
  · rw [hbig q hq, updsS_other]
    intro x hx
    obtain ⟨k, h1, o, h2, h4, rfl⟩ := putsW_mem hx
    have h5 := (h.bm.k k (by rw [h2]; simp)).1
    intro e
    have e : k.toNat = q := e
    rcases hg with hg | hg
    · rw [← e, Int.toNat_of_nonneg h5, h2] at hg; cases hg
    · rw [← e] at hg; exact h4 hg
theorem fmt_sup {σ : Dr} (h : σ.on) (h1 : 32 ≤ σ.n) (h2 : σ.n ≤ 2048) : IsSup σ.n (1 % 2) (σ.fmt.lastS (1 % 2)) (some 1) := by
  obtain ⟨a1, a2, a3, a4, a5⟩ := Dr.on_writes none2 h
  obtain ⟨b1, b2, b3, b4, b5⟩ := Dr.on_flip a2 (Ct.new σ.n) 1
  have e : σ.fmt.lastS = _ := b4
  rw [e]
  unfold updS
  rw [if_pos rfl]
  exact ⟨⟨Nat.le_refl _, by omega, h1, h2⟩, rfl⟩
theorem keysN_len (gm : Int → Option Value) (N : Nat) : (keysN gm N).length ≤ N := by
  unfold keysN
  refine Nat.le_trans (List.length_filter_le _ _) ?_
  simp
theorem putsW_len (σ : Ct) (g : Int → Option OB) (gn : Nat) : ∀ ks : List Int, (putsW σ g gn ks).length ≤ ks.length
  | [] => Nat.le_refl _
  | q :: ks => by
    have ih := putsW_len σ g gn ks
    rw [putsW, List.length_append, List.length_cons]
    cases g q with
    | none => dsimp only; rw [List.length_nil]; omega
    | some o =>
      dsimp only
      split
      · rw [List.length_nil]; omega
      · rw [List.length_singleton]; omega
end Go.Proofs.Ytldonbnjefhfdaa
/- The plain law of a power that fails within a commit. -/
namespace Go.Proofs.Ytldonbnjefhfdaa
open Go.Cam
set_option maxRecDepth 100000
theorem Dr.write_spec (σ : Dr) (s : Nat) (l : List Nat) : (σ.write s l).1.n = σ.n ∧ (σ.write s l).1.sure = σ.sure ∧ (∀ k t, t ∈ (σ.write s l).1.cached k → t ∈ σ.cached k ∨ ((s : Int) = k ∧ l = t)) ∧ ((σ.write s l).2 = true → (σ.write s l).1.lastS = updS σ.lastS s l) := by
  obtain ⟨e1, e2, e3, _⟩ := σ.step_same
  unfold Dr.write
  split
  · refine ⟨e1, e2, fun k t ht => ?_, fun _ => ?_⟩
    · have ht : t ∈ cadd σ.cached s l k := ht
      unfold cadd at ht
      split at ht
      · rename_i e
        rcases List.mem_append.1 ht with h | h
        · exact .inl h
        · rw [List.mem_singleton] at h; exact .inr ⟨e.symm, h.symm⟩
      · exact .inl ht
    · funext q
      unfold Dr.lastS updS cadd
      dsimp only
      rw [e2]
      by_cases hq : q = s
      · subst hq; simp
      · have : (q : Int) ≠ s := by omega
        simp [hq, this]
  · exact ⟨e1, e2, fun k t ht => .inl (by have ht : t ∈ σ.step.1.cached k := ht; rw [e3] at ht; exact ht), fun h => nomatch h⟩
theorem Dr.puts_spec : ∀ (ws : List (Nat × List Nat)) (σ : Dr), (σ.puts ws).1.n = σ.n ∧ (σ.puts ws).1.sure = σ.sure ∧ (∀ k t, t ∈ (σ.puts ws).1.cached k → t ∈ σ.cached k ∨ ∃ x ∈ ws, (x.1 : Int) = k ∧ x.2 = t) ∧ ((σ.puts ws).2 = true → (σ.puts ws).1.lastS = updsS σ.lastS ws)
  | [], σ => ⟨rfl, rfl, fun _ _ h => .inl h, fun _ => rfl⟩
  | x :: ws, σ => by
    obtain ⟨h1, h2, h3, h4⟩ := σ.write_spec x.1 x.2
    rw [Dr.puts]
    split
    · rename_i hw
      obtain ⟨g1, g2, g3, g4⟩ := Dr.puts_spec ws (σ.write x.1 x.2).1
      refine ⟨g1.trans h1, g2.trans h2, fun k t ht => ?_, fun ht => ?_⟩
      · rcases g3 k t ht with h | ⟨y, hy, h⟩
        · rcases h3 k t h with h | h
          · exact .inl h
          · exact .inr ⟨x, List.mem_cons_self .., h⟩
        · exact .inr ⟨y, List.mem_cons_of_mem _ hy, h⟩
      · rw [g4 ht, h4 hw]; rfl
    · refine ⟨h1, h2, fun k t ht => ?_, fun h => nomatch h⟩
      rcases h3 k t ht with h | h
      · exact .inl h
      · exact .inr ⟨x, List.mem_cons_self .., h⟩
theorem Dr.writes_puts : ∀ (ws : List (Nat × List Nat)) (σ : Dr), σ.writes ws = if (σ.puts ws).2 then (σ.puts ws).1.flush else ((σ.puts ws).1, false)
  | [], σ => rfl
  | x :: ws, σ => by
    rw [Dr.writes, Dr.puts]
    split
    · exact Dr.writes_puts ws _
    · rfl
theorem Dr.flush_spec (σ : Dr) : σ.flush.1.n = σ.n ∧ ((σ.flush.2 = true ∧ σ.flush.1.sure = σ.lastS ∧ ∀ k, σ.flush.1.cached k = []) ∨ (σ.flush.2 = false ∧ σ.flush.1.sure = σ.sure ∧ σ.flush.1.cached = σ.cached)) := by
  obtain ⟨e1, e2, e3, _⟩ := σ.step_same
  unfold Dr.flush
  split
  · exact ⟨e1, .inl ⟨rfl, rfl, fun _ => rfl⟩⟩
  · exact ⟨e1, .inr ⟨rfl, e2, e3⟩⟩
/-- what a crash leaves -/
theorem Dr.crashN_spec (σ : Dr) (keep : List Int) : ∀ s, (∀ q : Nat, (σ.crashN keep s).1.sure q = σ.sure q ∨ (σ.crashN keep s).1.sure q ∈ σ.cached q) ∧ (∀ q : Nat, q < s → (σ.crashN keep s).1.cached q = []) ∧ (∀ q : Nat, s ≤ q → (σ.crashN keep s).1.cached q = σ.cached q)
  | 0 => ⟨fun _ => .inl rfl, fun _ h => absurd h (Nat.not_lt_zero _), fun _ _ => rfl⟩
  | s + 1 => by
    obtain ⟨h1, h2, h3⟩ := Dr.crashN_spec σ keep s
    rw [Dr.crashN]
    split
    · rename_i hc
      refine ⟨h1, fun q hq => ?_, fun q hq => h3 q (by omega)⟩
      by_cases e : q = s
      · subst e; exact hc
      · exact h2 q (by omega)
    · rename_i hc
      generalize hτ : (σ.crashN keep s).1 = τ at *
      generalize (σ.crashN keep s).2.headD 0 = v
      refine ⟨fun q => ?_, fun q hq => ?_, fun q hq => ?_⟩
      · show (if q = s then (if pickI v ((τ.cached s).length + 1) = 0 then τ.sure s else (τ.cached s).getD (pickI v ((τ.cached s).length + 1) - 1) []) else τ.sure q) = _ ∨ (if q = s then (if pickI v ((τ.cached s).length + 1) = 0 then τ.sure s else (τ.cached s).getD (pickI v ((τ.cached s).length + 1) - 1) []) else τ.sure q) ∈ _
        have hp := pickI_lt v (τ.cached s).length
        by_cases e : q = s
        · subst e
          rw [if_pos rfl]
          split
          · exact h1 q
          · refine .inr ?_
            rw [← h3 q (Nat.le_refl _), List.getD_eq_getElem?_getD, List.getElem?_eq_getElem (by omega)]
            exact List.getElem_mem _
        · rw [if_neg e]; exact h1 q
      · show (if (q : Int) = (s : Int) then [] else τ.cached q) = []
        split
        · rfl
        · exact h2 q (by omega)
      · show (if (q : Int) = (s : Int) then [] else τ.cached q) = _
        rw [if_neg (by omega)]; exact h3 q (by omega)
theorem Dr.crash_spec (σ : Dr) (keep : List Int) : (σ.crash keep).n = σ.n ∧ (σ.crash keep).steps = σ.steps ∧ (σ.crash keep).on ∧ ∀ q : Nat, q < σ.n → (σ.crash keep).cached q = [] ∧ ((σ.crash keep).lastS q = σ.sure q ∨ (σ.crash keep).lastS q ∈ σ.cached q) := by
  obtain ⟨h1, h2, h3⟩ := σ.crashN_spec keep σ.n
  obtain ⟨e1, e2, e3, e4⟩ := σ.crashN_same keep σ.n
  refine ⟨e1, e2, ⟨rfl, by show (-1 : Int) < 0; decide⟩, fun q hq => ⟨h2 q hq, ?_⟩⟩
  have : (σ.crash keep).lastS q = (σ.crashN keep σ.n).1.sure q := by
    unfold Dr.lastS Dr.crash
    dsimp only
    rw [h2 q hq]; rfl
  rw [this]; exact h1 q
/-- a crash behind a commit, whose power may have failed: what was there, or what was to be there -/
theorem crash_cases {σd : Dr} (hc : ∀ k, σd.cached k = []) (σ : Ct) (g : Int → Option OB) (gn : Nat) (keep : List Int) {P A : List (Nat × List Nat)} (hP : P = putsW σ g gn (keysN (bmap g) σ.n)) (hA : A = areaW σ σ.n gn (areaN σ.n)) {sup : List Nat} (hS : sup = sealB ⟨1, gn % 2, 0, 0, gn⟩ (supB σ.n 8)) :
    ((σd.commit σ g gn).1.crash keep).n = σd.n ∧
    (((σd.commit σ g gn).2 = false ∧ ∀ q, q < σd.n → (∀ x ∈ P ++ A, x.1 ≠ q) → ((σd.commit σ g gn).1.crash keep).lastS q = σd.lastS q) ∨
      ((∀ x ∈ P ++ A, x.1 ≠ gn % 2) → ∀ q, q < σd.n → ((σd.commit σ g gn).1.crash keep).lastS q = updS (updsS (updsS σd.lastS P) A) (gn % 2) sup q)) := by
  have hl0 : σd.lastS = σd.sure := by funext q; unfold Dr.lastS; rw [hc]; rfl
  -- what is kept where nothing of some sectors was cached
  have old : ∀ (τ : Dr) (W : List (Nat × List Nat)), τ.n = σd.n → (∀ q : Nat, q < σd.n → (∀ x ∈ W, x.1 ≠ q) → τ.sure q = σd.lastS q) → (∀ k t, t ∈ τ.cached k → ∃ x ∈ W, (x.1 : Int) = k) → (∀ x ∈ W, x ∈ P ++ A) → ∀ q, q < σd.n → (∀ x ∈ P ++ A, x.1 ≠ q) → (τ.crash keep).lastS q = σd.lastS q := fun τ W hn hs hk hW q hq hx => by
    obtain ⟨_, _, _, h4⟩ := τ.crash_spec keep
    have hx2 : ∀ x ∈ W, x.1 ≠ q := fun x h => hx x (hW x h)
    rcases (h4 q (by omega)).2 with h | h
    · rw [h]; exact hs q hq hx2
    · obtain ⟨x, h5, h6⟩ := hk _ _ h
      exact absurd (by omega) (hx2 x h5)
  obtain ⟨p1, p2, p3, p4⟩ := Dr.puts_spec P σd
  have p3' : ∀ k t, t ∈ (σd.puts P).1.cached k → ∃ x ∈ P, (x.1 : Int) = k := fun k t ht => by
    rcases p3 k t ht with h | h
    · rw [hc] at h; cases h
    · obtain ⟨x, h1, h2, _⟩ := h; exact ⟨x, h1, h2⟩
  unfold Dr.commit
  rw [← hP]
  cases hp : (σd.puts P).2 with
  | false =>
    rw [if_neg (by decide)]
    refine ⟨((σd.puts P).1.crash_spec keep).1.trans p1, .inl ⟨rfl, old _ P p1 (fun q _ _ => by rw [p2, hl0]) p3' fun x h => List.mem_append_left _ h⟩⟩
  | true =>
    rw [if_pos rfl]
    have p4' := p4 hp
    unfold Dr.flip
    rw [← hA, ← hS, Dr.writes_puts A]
    obtain ⟨a1, a2, a3, a4⟩ := Dr.puts_spec A (σd.puts P).1
    have a1' := a1.trans p1
    have a3' : ∀ k t, t ∈ ((σd.puts P).1.puts A).1.cached k → ∃ x ∈ P ++ A, (x.1 : Int) = k := fun k t ht => by
      rcases a3 k t ht with h | ⟨x, h1, h2, _⟩
      · obtain ⟨x, h1, h2⟩ := p3' k t h; exact ⟨x, List.mem_append_left _ h1, h2⟩
      · exact ⟨x, List.mem_append_right _ h1, h2⟩
    have a2' : ∀ q : Nat, ((σd.puts P).1.puts A).1.sure q = σd.lastS q := fun q => by rw [a2, p2, hl0]
    cases ha : ((σd.puts P).1.puts A).2 with
    | false =>
      simp only [Bool.false_eq_true, ↓reduceIte]
      exact ⟨(((σd.puts P).1.puts A).1.crash_spec keep).1.trans a1', .inl ⟨trivial, old _ (P ++ A) a1' (fun q _ _ => a2' q) a3' fun x h => h⟩⟩
    | true =>
      rw [if_pos rfl]
      have a4' := a4 ha
      rw [p4'] at a4'
      generalize ((σd.puts P).1.puts A).1 = τ at *
      obtain ⟨f1, f2⟩ := τ.flush_spec
      rcases f2 with ⟨f2, f3, f4⟩ | ⟨f2, f3, f4⟩
      · rw [f2, if_pos rfl, Dr.writes_puts]
        rw [a4'] at f3
        generalize τ.flush.1 = υ at *
        have hυ : υ.n = σd.n := f1.trans a1'
        have hlu : υ.lastS = updsS (updsS σd.lastS P) A := by funext q; unfold Dr.lastS; rw [f4, f3]; rfl
        obtain ⟨w1, w2, w3, w4⟩ := Dr.puts_spec [(gn % 2, sup)] υ
        have hsame : ∀ q : Nat, (∀ x ∈ P ++ A, x.1 ≠ q) → updsS (updsS σd.lastS P) A q = σd.lastS q := fun q hx => by
          rw [updsS_other A _ _ fun x h => hx x (List.mem_append_right _ h), updsS_other P _ _ fun x h => hx x (List.mem_append_left _ h)]
        cases hw : (υ.puts [(gn % 2, sup)]).2 with
        | false =>
          rw [if_neg (by decide)]
          have hcz : ∀ k, (υ.puts [(gn % 2, sup)]).1.cached k = [] := fun k => by
            have hw2 : (υ.write (gn % 2) sup).2 = false := by
              rw [Dr.puts] at hw
              split at hw
              · rw [Dr.puts] at hw; cases hw
              · rename_i h; simpa using h
            rw [Dr.puts, if_neg (by rw [hw2]; decide)]
            unfold Dr.write at hw2 ⊢
            split at hw2
            · cases hw2
            · rename_i h
              rw [if_neg h]
              obtain ⟨_, _, e3, _⟩ := υ.step_same
              show υ.step.1.cached k = []
              rw [e3]; exact f4 k
          refine ⟨((υ.puts [(gn % 2, sup)]).1.crash_spec keep).1.trans (w1.trans hυ), .inl ⟨rfl, old _ (P ++ A) (w1.trans hυ) (fun q _ hx => by rw [w2, f3]; exact hsame q hx) (fun k t ht => by rw [hcz] at ht; cases ht) fun x h => h⟩⟩
        | true =>
          rw [if_pos rfl]
          have w4' := w4 hw
          rw [hlu] at w4'
          have w3' : ∀ k t, t ∈ (υ.puts [(gn % 2, sup)]).1.cached k → ((gn % 2 : Nat) : Int) = k ∧ sup = t := fun k t ht => by
            rcases w3 k t ht with h | ⟨x, h1, h2, h3⟩
            · rw [f4] at h; cases h
            · rw [List.mem_singleton] at h1; subst h1; exact ⟨h2, h3⟩
          rw [f3] at w2
          have w1' := w1.trans hυ
          generalize (υ.puts [(gn % 2, sup)]).1 = φ at *
          obtain ⟨g1, g2⟩ := φ.flush_spec
          have g1' := g1.trans w1'
          obtain ⟨c1, _, _, c4⟩ := φ.flush.1.crash_spec keep
          refine ⟨c1.trans g1', ?_⟩
          rcases g2 with ⟨g2, g3, g4⟩ | ⟨g2, g3, g4⟩
          · refine .inr fun _ q hq => ?_
            rcases (c4 q (by omega)).2 with h | h
            · rw [h, g3, w4']; rfl
            · rw [g4] at h; cases h
          · have hq' : ∀ q : Nat, q < σd.n → q ≠ gn % 2 → (φ.flush.1.crash keep).lastS q = updsS (updsS σd.lastS P) A q := fun q hq hne => by
              rcases (c4 q (by omega)).2 with h | h
              · rw [h, g3, w2]
              · rw [g4] at h
                have := (w3' _ _ h).1
                omega
            by_cases hs : gn % 2 < σd.n ∧ (φ.flush.1.crash keep).lastS (gn % 2) ≠ updsS (updsS σd.lastS P) A (gn % 2)
            · refine .inr fun _ q hq => ?_
              unfold updS
              by_cases e : q = gn % 2
              · rw [if_pos e]
                subst e
                rcases (c4 (gn % 2) (by omega)).2 with h | h
                · rw [g3, w2] at h; exact absurd h hs.2
                · rw [g4] at h; exact ((w3' _ _ h).2).symm
              · rw [if_neg e]; exact hq' q hq e
            · refine .inl ⟨g2, fun q hq hx => ?_⟩
              rw [← hsame q hx]
              by_cases e : q = gn % 2
              · subst e
                exact Classical.byContradiction fun h => hs ⟨hq, h⟩
              · exact hq' q hq e
      · rw [f2, if_neg (by decide)]
        refine ⟨(τ.flush.1.crash_spec keep).1.trans (f1.trans a1'), .inl ⟨rfl, old _ (P ++ A) (f1.trans a1') (fun q _ _ => by rw [f3]; exact a2' q) (fun k t ht => by rw [f4] at ht; exact a3' k t ht) fun x h => h⟩⟩
theorem Mnt.cg {f f' : Nat → List Nat} {n g : Nat} {ls : Nat → List Nat} (h : Mnt f n g ls) (h0 : f' 0 = f 0) (h1 : f' 1 = f 1) (ha : ∀ i, i < areaN n → f' (areaAtN n g + i) = f (areaAtN n g + i)) : Mnt f' n g ls := by
  refine ⟨?_, fun i hi => by rw [ha i hi]; exact h.area i hi, h.len, h.bys, h.ok⟩
  rw [h0, h1]; exact h.new
/-- a disk that crashed within or behind a commit is mounted: as it was, or as it was to be -/
theorem crash_mnt {σd : Dr} (hc : ∀ k, σd.cached k = []) {σ : Ct} {g : Int → Option OB} (h : Cmt σ g) (hn : σd.n = σ.n) (gn : Nat) (hg1 : 1 ≤ gn) (hg2 : gn + 1 ≤ 1099511627775) (hs : IsSup σ.n (gn % 2) (σd.lastS (gn % 2)) (some gn)) {ls : Nat → List Nat} (hm : Mnt σd.lastS σ.n gn ls) (keep : List Int) :
    ((σd.commit σ g (gn + 1)).1.crash keep).n = σ.n ∧
    (((σd.commit σ g (gn + 1)).2 = false ∧ Mnt ((σd.commit σ g (gn + 1)).1.crash keep).lastS σ.n gn ls) ∨
      (Mnt ((σd.commit σ g (gn + 1)).1.crash keep).lastS σ.n (gn + 1) (fun i => σ.bodyN i 118) ∧ ∀ k o, g k = some o → σ.now k.toNat ≠ 0 → ((σd.commit σ g (gn + 1)).1.crash keep).lastS k.toNat = sealB ⟨5, k.toNat, o.l.length, 0, gn + 1⟩ o.l)) ∧
    (∀ q, firstN σ.n ≤ q → q < σ.n → (g q = none ∨ σ.now q = 0) → ((σd.commit σ g (gn + 1)).1.crash keep).lastS q = σd.lastS q) := by
  obtain ⟨P, hP⟩ : ∃ P, P = putsW σ g (gn + 1) (keysN (bmap g) σ.n) := ⟨_, rfl⟩
  obtain ⟨A, hA⟩ : ∃ A, A = areaW σ σ.n (gn + 1) (areaN σ.n) := ⟨_, rfl⟩
  obtain ⟨sup, hS⟩ : ∃ sup, sup = sealB ⟨1, (gn + 1) % 2, 0, 0, gn + 1⟩ (supB σ.n 8) := ⟨_, rfl⟩
  obtain ⟨c1, c2⟩ := crash_cases hc σ g (gn + 1) keep hP hA hS
  have hf2 : 2 ≤ firstN σ.n := by unfold firstN; omega
  have hlt := areaAtN_lt (n := σ.n) gn h.n1 h.n2
  have hWP : ∀ x ∈ P, firstN σ.n ≤ x.1 := fun x hx => h.at_ (by rw [← hP]; exact hx)
  have hWA : ∀ x ∈ A, ∃ i, i < areaN σ.n ∧ x.1 = areaAtN σ.n (gn + 1) + i := fun x hx => by
    rw [hA] at hx
    obtain ⟨i, hi, rfl⟩ := List.mem_map.1 hx
    exact ⟨i, List.mem_range.1 hi, rfl⟩
  have hfst : ∀ g' i, i < areaN σ.n → 2 ≤ areaAtN σ.n g' + i ∧ areaAtN σ.n g' + i < firstN σ.n := fun g' i hi => area_lt σ.n g' i hi
  have hlow : ∀ q, q < 2 → ∀ x ∈ P ++ A, x.1 ≠ q := fun q hq x hx => by
    rcases List.mem_append.1 hx with hx | hx
    · have := hWP x hx; omega
    · obtain ⟨i, hi, e⟩ := hWA x hx
      have := hfst (gn + 1) i hi; omega
  have har : ∀ j, j < areaN σ.n → ∀ x ∈ P ++ A, x.1 ≠ areaAtN σ.n gn + j := fun j hj x hx => by
    have h1 := hfst gn j hj
    rcases List.mem_append.1 hx with hx | hx
    · have := hWP x hx; omega
    · obtain ⟨i, hi, e⟩ := hWA x hx
      rw [e]
      unfold areaAtN
      rcases Nat.mod_two_eq_zero_or_one gn with hm | hm
      · have hm2 : (gn + 1) % 2 = 1 := by omega
        rw [hm, hm2]; omega
      · have hm2 : (gn + 1) % 2 = 0 := by omega
        rw [hm, hm2]; omega
  have hdat : ∀ q, firstN σ.n ≤ q → (g q = none ∨ σ.now q = 0) → ∀ x ∈ P ++ A, x.1 ≠ q := fun q hq hg x hx => by
    rcases List.mem_append.1 hx with hx | hx
    · rw [hP] at hx
      obtain ⟨k, h1, o, h2, h4, rfl⟩ := putsW_mem hx
      have h5 := (h.bm.k k (by rw [h2]; simp)).1
      intro e
      have e : k.toNat = q := e
      rcases hg with hg | hg
      · rw [← e, Int.toNat_of_nonneg h5, h2] at hg; cases hg
      · rw [← e] at hg; exact h4 hg
    · obtain ⟨i, hi, e⟩ := hWA x hx
      have := hfst (gn + 1) i hi; omega
  have hn0 : (0 : Nat) < σd.n := by have := h.n1; omega
  have hn1 : (1 : Nat) < σd.n := by have := h.n1; omega
  refine ⟨c1.trans hn, ?_, fun q hq1 hq2 hg => ?_⟩
  · rcases c2 with ⟨c2, c3⟩ | c3
    · refine .inl ⟨c2, hm.cg (c3 0 hn0 (hlow 0 (by decide))) (c3 1 hn1 (hlow 1 (by decide))) fun i hi => c3 _ (by have := hfst gn i hi; omega) (har i hi)⟩
    · have c3 := c3 (fun x hx => hlow _ (by omega) x hx)
      -- the same disk with its power on
      have hon : ({ σd with off := false, fuse := -1 } : Dr).on := ⟨rfl, by show (-1 : Int) < 0; decide⟩
      obtain ⟨m1, m2, m3, m4⟩ := commit_mnt hon h hn gn hg1 hg2 hs
      obtain ⟨_, _, _, e, _, _⟩ := Dr.on_commit hon σ g (gn + 1)
      rw [← hP, ← hA, ← hS] at e
      have e : (Dr.commit { σd with off := false, fuse := -1 } σ g (gn + 1)).1.lastS = updS (updsS (updsS σd.lastS P) A) ((gn + 1) % 2) sup := e
      rw [e] at m1 m3
      refine .inr ⟨m1.cg (c3 0 hn0) (c3 1 hn1) fun i hi => c3 _ (by have := hfst (gn + 1) i hi; have := areaAtN_lt (n := σ.n) (gn + 1) h.n1 h.n2; omega), fun k o hk h0 => ?_⟩
      have hb := h.bm.k k (by rw [hk]; simp)
      rw [c3 _ (by omega)]
      exact m3 k o hk h0
  · rcases c2 with ⟨c2, c3⟩ | c3
    · exact c3 q (by omega) (hdat q hq1 hg)
    · have c3 := c3 (fun x hx => hlow _ (by omega) x hx)
      rw [c3 q (by omega)]
      unfold updS
      rw [if_neg (by omega), updsS_other A _ _ fun x hx => hdat q hq1 hg x (List.mem_append_right _ hx), updsS_other P _ _ fun x hx => hdat q hq1 hg x (List.mem_append_left _ hx)]
end Go.Proofs.Ytldonbnjefhfdaa
/- The pool laws' examples: shown. -/
namespace Go.Proofs.Ytldonbnjefhfdaa
open Go.Cam
set_option maxRecDepth 100000
/-- a text of two letters, as bytes -/
theorem s_ab {P : Program} {f : FuncId} {n : Nat} {R : Value → HP} {k : List It} {l : List (Nat × Value)} {As Bs : List HP} {r e : Nat} (u : Sel (.own r (.cells (flat 2 (rowsOf 1 [.int .u8 97, .int .u8 98])).toArray e ((flat 2 (rowsOf 1 [.int .u8 97, .int .u8 98])).toArray.size, (flat 2 (rowsOf 1 [.int .u8 97, .int .u8 98])).toArray.size + 1))) As Bs)
    (h : RunS P f n R k l (BS (.slice (some ⟨r, 0, none⟩) ([97, 98] : List Nat).length 2) [97, 98] :: Bs)) : RunS P f n R k l As :=
  s_fzo (b := r) (off := 0) (m := 2) (c := 2) (sz := 1) (row := byR [97, 98]) u (fun _ _ => rfl) (by decide) (by decide) (by rfl) h
abbrev exCt : Ct := { Ct.new 32 with now := nset (Ct.new 32).now 4 1 }
abbrev exBm (a : Option Addr) (c : Nat) : Int → Option OB := bset (fun _ => none) ((4 : Nat) : Int) ⟨5, [97, 98], a, c⟩
theorem exCmt (a : Option Addr) (c : Nat) : Cmt exCt (exBm a c) := by
  have hk : ∀ k, exBm a c k ≠ none → k = 4 := fun k h => by
    unfold exBm bset at h
    by_cases e : k = ((4 : Nat) : Int)
    · exact e
    · rw [if_neg e] at h; exact absurd rfl h
  refine ⟨by decide, by decide, ⟨fun k h => by rw [hk k h]; decide, fun k o h => ?_⟩, fun k h => by rw [hk k h]; decide, fun q => ?_, fun q hq => ?_⟩
  · unfold exBm bset at h
    split at h
    · cases h; exact ⟨rfl, by show 2 ≤ 128; decide, fun c hc => by
        have hc : c ∈ ([97, 98] : List Nat) := hc
        simp at hc; omega⟩
    · cases h
  · show nset _ _ _ _ ≤ _
    unfold nset; split
    · decide
    · exact Nat.zero_le _
  · have hq : nset (Ct.new 32).now 4 1 q ≠ 0 := hq
    unfold nset at hq
    by_cases e : q = 4
    · subst e; decide
    · rw [if_neg e] at hq; exact absurd rfl hq
set_option maxHeartbeats 16000000 in
theorem shown9_c : Ctr Try.prog 4 [] [] (fun v Bs => v = .bool true ∧ Bs = []) := by
  have hon0 : (Dr.new 32).on := ⟨rfl, by show (-1 : Int) < 0; decide⟩
  obtain ⟨f1, f2, f3, f4⟩ := Dr.fmt_mnt hon0 (by decide) (by decide)
  have f5 := fmt_sup hon0 (by decide) (by decide)
  refine s_enter 121 [] (fun F => [F]) Try.func4 fun F => ?_
  refine go_ ?_
  refine s_call (sp := (by repeat (first | exact Split.nil | apply Split.perx (by repeat (first | with_reducible exact Sel.here | with_reducible apply Sel.there)) (by infer_instance) | apply Split.cons (by repeat (first | with_reducible exact Sel.here | with_reducible apply Sel.there))))) (hs := dnew_c 32 (by decide) (by decide)) (h := ?_)
  rintro v Bs ⟨b, rfl, rfl⟩
  refine go_ ?_
  refine s_call (sp := (by repeat (first | exact Split.nil | apply Split.perx (by repeat (first | with_reducible exact Sel.here | with_reducible apply Sel.there)) (by infer_instance) | apply Split.cons (by repeat (first | with_reducible exact Sel.here | with_reducible apply Sel.there))))) (hs := pformat_c b (Dr.new 32) hon0 (by decide) (by decide) (by decide)) (h := ?_)
  rintro v Bs ⟨p, bc, m, rfl, rfl⟩
  have f4' : (Dr.new 32).fmt.steps ≤ 200 := by have : (Dr.new 32).steps = 0 := rfl; omega
  generalize (Dr.new 32).fmt = σd at *
  refine go_ ?_
  refine s_bs (cells := [.int .u8 97, .int .u8 98]) (fun a1 => ?_) (fun j => rfl)
  refine s_full (a := a1) (m := 2) (by repeat (first | with_reducible exact Sel.here | with_reducible apply Sel.there)) (by decide) fun r6 hr6 => ?_
  subst hr6
  refine s_step (st_cvb (b := r6) (cs := (flat 2 (rowsOf 1 [.int .u8 97, .int .u8 98])).toArray) (by repeat (first | with_reducible exact Upd.here | with_reducible apply Upd.there))) ?_
  rintro _ _ ⟨rfl, rfl⟩
  refine s_ab (r := r6) (by repeat (first | with_reducible exact Sel.here | with_reducible apply Sel.there)) ?_
  refine s_obs0 ?_
  refine s_front (a := MG m (fun _ => none)) (by repeat (first | with_reducible exact Sel.here | with_reducible apply Sel.there)) (s_open (B := MG m (bmap fun _ => none)) (fun _ _ q => q) ?_)
  refine go_ ?_
  refine s_call (sp := (by repeat (first | exact Split.nil | apply Split.perx (by repeat (first | with_reducible exact Sel.here | with_reducible apply Sel.there)) (by infer_instance) | apply Split.cons (by repeat (first | with_reducible exact Sel.here | with_reducible apply Sel.there))))) (hs := pputB_c p b 1 32 bc m (Ct.new 32) (fun _ => none) (a := some ⟨r6, 0, none⟩) (c := 2) [97, 98] (by decide)) (h := ?_)
  rintro v Bs (⟨i, a2, c2, hi, rfl, rfl⟩ | ⟨hi, _⟩)
  · have e4 : (Ct.new 32).free? = some 4 := rfl
    rw [e4] at hi
    cases hi
    have hg4 : exBm a2 c2 ((4 : Nat) : Int) = some ⟨5, [97, 98], a2, c2⟩ := by unfold exBm bset; rw [if_pos rfl]
    have hc1 := exCmt a2 c2
    have hon2 : σd.n = exCt.n := f2
    obtain ⟨k1, k2, k3, k4, k5, k6⟩ := Dr.on_commit f1 exCt (exBm a2 c2) 2
    obtain ⟨m1, m2, m3, m4⟩ := commit_mnt f1 hc1 hon2 1 (by decide) (by decide) f5
    have hst2 : (σd.commit exCt (exBm a2 c2) 2).1.steps ≤ 1000 := by
      have h1 : (keysN (bmap (exBm a2 c2)) exCt.n).length ≤ 32 := keysN_len _ _
      have h3 := putsW_len exCt (exBm a2 c2) 2 (keysN (bmap (exBm a2 c2)) exCt.n)
      have h4 : areaN exCt.n = 1 := rfl
      rw [k5, h4]; omega
    refine go_ ?_
    refine s_call (sp := (by repeat (first | exact Split.nil | apply Split.perx (by repeat (first | with_reducible exact Sel.here | with_reducible apply Sel.there)) (by infer_instance) | apply Split.cons (by repeat (first | with_reducible exact Sel.here | with_reducible apply Sel.there))))) (hs := pbytesM_c p b 1 32 bc m exCt (exBm a2 c2) 4 (by decide) (by decide) ⟨5, [97, 98], a2, c2⟩ hg4 rfl (by show 2 < 1000000; decide)) (h := ?_)
    rintro v Bs ⟨a3, c3, rfl, rfl⟩
    refine go_ ?_
    refine s_call (sp := (by repeat (first | exact Split.nil | apply Split.perx (by repeat (first | with_reducible exact Sel.here | with_reducible apply Sel.there)) (by infer_instance) | apply Split.cons (by repeat (first | with_reducible exact Sel.here | with_reducible apply Sel.there))))) (hs := pfree_c p b 1 32 bc m exCt (by decide) (by decide)) (h := ?_)
    rintro v Bs ⟨rfl, rfl⟩
    refine go_ ?_
    refine s_call (sp := (by repeat (first | exact Split.nil | apply Split.perx (by repeat (first | with_reducible exact Sel.here | with_reducible apply Sel.there)) (by infer_instance) | apply Split.cons (by repeat (first | with_reducible exact Sel.here | with_reducible apply Sel.there))))) (hs := pcommit_c p b 1 bc m exCt (exBm a2 c2) σd (by decide) (by decide) hon2 (by omega) (by decide) hc1.bm) (h := ?_)
    rintro v Bs (⟨_, rfl, rfl⟩ | ⟨h0, _⟩)
    · generalize (σd.commit exCt (exBm a2 c2) 2).1 = σ2 at *
      refine go_ ?_
      rw [show exCt.freeN (exCt.n - firstN exCt.n) (firstN exCt.n) = 27 from rfl]
      have hn3 : σ2.n = 32 := k3.trans f2
      have hm2 : Mnt σ2.lastS σ2.n 2 (fun i => exCt.bodyN i 118) := by rw [hn3]; exact m1
      refine s_call (sp := (by repeat (first | exact Split.nil | apply Split.perx (by repeat (first | with_reducible exact Sel.here | with_reducible apply Sel.there)) (by infer_instance) | apply Split.cons (by repeat (first | with_reducible exact Sel.here | with_reducible apply Sel.there))))) (hs := pmount_c b σ2 2 (fun i => exCt.bodyN i 118) k2.1 (by omega) (by omega) (by omega) hm2) (h := ?_)
      rintro v Bs ⟨q, bc2, mm, rfl, rfl⟩
      have hb := ctNow_body exCt hc1.w
      rw [hn3, show areaN 32 * 118 = areaN exCt.n * 118 from rfl, hb]
      refine go_ ?_
      refine s_front (a := MG mm (fun _ => none)) (by repeat (first | with_reducible exact Sel.here | with_reducible apply Sel.there)) (s_open (B := MG mm (bmap fun _ => none)) (fun _ _ q => q) ?_)
      have hs4 := m3 ((4 : Nat) : Int) _ hg4 (by decide)
      refine s_call (sp := (by repeat (first | exact Split.nil | apply Split.perx (by repeat (first | with_reducible exact Sel.here | with_reducible apply Sel.there)) (by infer_instance) | apply Split.cons (by repeat (first | with_reducible exact Sel.here | with_reducible apply Sel.there))))) (hs := pbytesD_c q b 2 32 bc2 mm ⟨32, exCt.get, exCt.get⟩ (fun _ => none) σ2 4 2 [97, 98] (by decide) (by decide) rfl (by omega) k2.1 (by omega) (by decide) (by unfold Bys; decide) (blkHd_ok (n := 32) (by decide) (by decide) (by decide) (by decide)) hs4) (h := ?_)
      rintro v Bs ⟨a4, c4, rfl, rfl⟩
      refine go_ ?_
      refine s_call (sp := (by repeat (first | exact Split.nil | apply Split.perx (by repeat (first | with_reducible exact Sel.here | with_reducible apply Sel.there)) (by infer_instance) | apply Split.cons (by repeat (first | with_reducible exact Sel.here | with_reducible apply Sel.there))))) (hs := punref_c q b 2 32 bc2 mm ⟨32, exCt.get, exCt.get⟩ 4 (by decide) (by decide)) (h := ?_)
      rintro v Bs ⟨rfl, rfl⟩
      refine go_ ?_
      refine s_call (sp := (by repeat (first | exact Split.nil | apply Split.perx (by repeat (first | with_reducible exact Sel.here | with_reducible apply Sel.there)) (by infer_instance) | apply Split.cons (by repeat (first | with_reducible exact Sel.here | with_reducible apply Sel.there))))) (hs := pbytesN_c q b 2 32 bc2 mm { (⟨32, exCt.get, exCt.get⟩ : Ct) with now := nset exCt.get 4 (exCt.get 4 - 1) } 4 (by decide) (by decide)) (h := ?_)
      rintro v Bs ⟨rfl, rfl⟩
      refine go_ ?_
      refine s_look (lk_b2s (a := a3) (c := c3) (m := 2) (s := [97, 98]) (by repeat (first | with_reducible exact SelR.here | with_reducible apply SelR.there)) rfl) ?_
      refine s_look (lk_p (v := .bool ((strB [97, 98]).toList == (ByteArray.mk #[97, 98]).toList)) (by intro j; rfl)) ?_
      rw [show strB [97, 98] = ByteArray.mk #[97, 98] from rfl, beq_self_eq_true]
      refine go_ ?_
      refine s_look (lk_b2s (a := a4) (c := c4) (m := 2) (s := [97, 98]) (by repeat (first | with_reducible exact SelR.here | with_reducible apply SelR.there)) rfl) ?_
      refine s_look (lk_p (v := .bool ((strB [97, 98]).toList == (ByteArray.mk #[97, 98]).toList)) (by intro j; rfl)) ?_
      rw [show strB [97, 98] = ByteArray.mk #[97, 98] from rfl, beq_self_eq_true]
      refine go_ ?_
      refine s_call (sp := (by repeat (first | exact Split.nil | apply Split.perx (by repeat (first | with_reducible exact Sel.here | with_reducible apply Sel.there)) (by infer_instance) | apply Split.cons (by repeat (first | with_reducible exact Sel.here | with_reducible apply Sel.there))))) (hs := psuper_c q b 2 32 bc2 mm) (h := ?_)
      rintro v Bs ⟨rfl, rfl⟩
      refine go_ ?_
      refine s_call (sp := (by repeat (first | exact Split.nil | apply Split.perx (by repeat (first | with_reducible exact Sel.here | with_reducible apply Sel.there)) (by infer_instance) | apply Split.cons (by repeat (first | with_reducible exact Sel.here | with_reducible apply Sel.there))))) (hs := pfree_c q b 2 32 bc2 mm { (⟨32, exCt.get, exCt.get⟩ : Ct) with now := nset exCt.get 4 (exCt.get 4 - 1) } (by decide) (by decide)) (h := ?_)
      rintro v Bs ⟨rfl, rfl⟩
      rw [show Ct.freeN { (⟨32, exCt.get, exCt.get⟩ : Ct) with now := nset exCt.get 4 (exCt.get 4 - 1) } (32 - firstN 32) (firstN 32) = 27 from rfl]
      refine go_ ?_
      exact s_ret1 (rs := [.tmp 0]) Try.func4 rfl (by intro j; refine RVS.tmp _ rfl ?_; exact RVS.nil) (⟨rfl, rfl⟩) (by repeat (first | exact Ent.nil | refine Ent.per (by repeat (first | with_reducible exact Sel.here | with_reducible apply Sel.there)) ?_ | refine Ent.cons (by repeat (first | with_reducible exact Sel.here | with_reducible apply Sel.there)) ?_))
    · rw [k1] at h0; cases h0
  · have e4 : (Ct.new 32).free? = some 4 := rfl
    rw [e4] at hi; cases hi
end Go.Proofs.Ytldonbnjefhfdaa
/- Two superblocks that are one. -/
namespace Go.Proofs.Ytldonbnjefhfdaa
open Go.Cam
set_option maxRecDepth 100000
theorem eq80 (w : World) : (Op.equalIn 9999 45 (.agg vols0L.toArray) (.agg vols0L.toArray)).run Try.prog w = .ok true w := cst_run _ (by kernel_rfl) w
set_option maxHeartbeats 4000000 in
theorem eqlSup (g s : Nat) (w : World) : (binOp .eql 47 (.agg (supL g s).toArray) (.agg (supL g s).toArray)).run Try.prog w = .ok (.bool true) w := by
  go_simp
  rw [eq80]
  rfl
set_option maxHeartbeats 4000000 in
theorem nqlSup (g s : Nat) (w : World) : (binOp .neq 47 (.agg (supL g s).toArray) (.agg (supL g s).toArray)).run Try.prog w = .ok (.bool (!true)) w := by
  go_simp
  rw [eq80]
  rfl
instance eqSup (g s : Nat) : EQ Try.prog 47 (.agg (supL g s).toArray) (.agg (supL g s).toArray) true := ⟨fun op _ _ => by cases op <;> kernel_rfl, eqlSup g s, nqlSup g s⟩
end Go.Proofs.Ytldonbnjefhfdaa
/- PoolFormats. -/
namespace Go.Proofs.Ytldonbnjefhfdaa
open Go.Cam
set_option maxRecDepth 100000
theorem wrap_u8 (y : Int) : IntKind.u8.wrap y = ((IntKind.u8.wrap y).toNat : Int) ∧ (IntKind.u8.wrap y).toNat < 256 := by
  have e : IntKind.u8.wrap y = y % 256 := by
    unfold IntKind.wrap
    simp [IntKind.signed, IntKind.bits]
  rw [e]
  omega
end Go.Proofs.Ytldonbnjefhfdaa
/- The reference's rows: Put. -/
namespace Go.Proofs.Ytldonbnjefhfdaa
open Go.Cam
set_option maxRecDepth 100000
def iputC (k : Key) (x : Item) (dn : Bool) : Bool := !dn && (k.lt x.key || decide (x.key = k))
def iputL (k : Key) (v : List Nat) : List Item → List Item → Bool → List Item × Bool
  | [], out, dn => (out, dn)
  | x :: l, out, dn => iputL k v l ((if iputC k x dn then out ++ [⟨k, v⟩] else out) ++ if x.key = k then [] else [x]) (dn || iputC k x dn)
def iputF (l : List Item) (k : Key) (v : List Nat) : List Item := (iputL k v l [] false).1 ++ if (iputL k v l [] false).2 then [] else [⟨k, v⟩]
end Go.Proofs.Ytldonbnjefhfdaa
