/- The plain law of a commit: what the disk shows behind it. -/
import Derived.Test.YtgbbcpfnmkeijaaFindCE
import Derived.Test.YtgbbcpfnmkeijaaFindAE
import Derived.Test.YtgbbcpfnmkeijaaCamAN
namespace Go.Proofs.Ytgbbcpfnmkeijaa
open Go.Cam
set_option maxRecDepth 100000
theorem Dr.on_puts : ∀ (ws : List (Nat × List Nat)) {σ : Dr}, σ.on → (σ.puts ws).2 = true ∧ (σ.puts ws).1.on ∧ (σ.puts ws).1.n = σ.n ∧ (σ.puts ws).1.lastS = updsS σ.lastS ws ∧ (σ.puts ws).1.steps = σ.steps + ws.length
  | [], σ, h => ⟨rfl, h, rfl, rfl, rfl⟩
  | x :: ws, σ, h => by
    obtain ⟨h1, h2, h3, h4, h5⟩ := Dr.on_write h x.1 x.2
    obtain ⟨g1, g2, g3, g4, g5⟩ := Dr.on_puts ws h2
    rw [Dr.puts, h1, if_pos rfl]
    exact ⟨g1, g2, g3.trans h3, by rw [updsS, ← h4]; exact g4, by
      show ((σ.write x.1 x.2).1.puts ws).1.steps = _
      rw [g5, h5]; simp; omega⟩
theorem Dr.flush_cached {σ : Dr} (h : σ.flush.2 = true) (k : Int) : σ.flush.1.cached k = [] := by
  unfold Dr.flush at *
  split at h
  · rename_i h2; rw [if_pos h2]
  · cases h
theorem Dr.writes_cached : ∀ (ws : List (Nat × List Nat)) {σ : Dr}, (σ.writes ws).2 = true → ∀ k, (σ.writes ws).1.cached k = []
  | [], σ, h => Dr.flush_cached h
  | x :: ws, σ, h => by
    rw [Dr.writes] at h ⊢
    split at h
    · rename_i h2; rw [if_pos h2]; exact Dr.writes_cached ws h
    · cases h
theorem Dr.flip_cached {σ : Dr} {ct : Ct} {g : Nat} (h : (σ.flip ct g).2 = true) (k : Int) : (σ.flip ct g).1.cached k = [] := by
  unfold Dr.flip at *
  split at h
  · rename_i h2; rw [if_pos h2]; exact Dr.writes_cached _ h k
  · cases h
theorem Dr.on_commit {σd : Dr} (h : σd.on) (σ : Ct) (g : Int → Option OB) (gn : Nat) : (σd.commit σ g gn).2 = true ∧ (σd.commit σ g gn).1.on ∧ (σd.commit σ g gn).1.n = σd.n ∧
    (σd.commit σ g gn).1.lastS = updS (updsS (updsS σd.lastS (putsW σ g gn (keysN (bmap g) σ.n))) (areaW σ σ.n gn (areaN σ.n))) (gn % 2) (sealB ⟨1, gn % 2, 0, 0, gn⟩ (supB σ.n 8)) ∧
    (σd.commit σ g gn).1.steps = σd.steps + (putsW σ g gn (keysN (bmap g) σ.n)).length + areaN σ.n + 3 ∧ ∀ k, (σd.commit σ g gn).1.cached k = [] := by
  obtain ⟨a1, a2, a3, a4, a5⟩ := Dr.on_puts (putsW σ g gn (keysN (bmap g) σ.n)) h
  obtain ⟨b1, b2, b3, b4, b5⟩ := Dr.on_flip a2 σ gn
  have e : σd.commit σ g gn = (σd.puts (putsW σ g gn (keysN (bmap g) σ.n))).1.flip σ gn := by unfold Dr.commit; rw [a1, if_pos rfl]
  rw [e]
  exact ⟨b1, b2, b3.trans a3, by rw [b4, a4], by rw [b5, a5], fun k => Dr.flip_cached b1 k⟩
theorem putsW_mem {σ : Ct} {g : Int → Option OB} {gn : Nat} : ∀ {ks : List Int} {x : Nat × List Nat}, x ∈ putsW σ g gn ks → ∃ k ∈ ks, ∃ o, g k = some o ∧ σ.now k.toNat ≠ 0 ∧ x = (k.toNat, sealB ⟨5, k.toNat, o.l.length, 0, gn⟩ o.l)
  | k :: ks, x, h => by
    rw [putsW] at h
    rcases List.mem_append.1 h with h | h
    · cases hg : g k with
      | none => rw [hg] at h; cases h
      | some o =>
        rw [hg] at h
        dsimp only at h
        split at h
        · cases h
        · rename_i h0
          rw [List.mem_singleton] at h
          exact ⟨k, List.mem_cons_self .., o, hg, h0, h⟩
    · obtain ⟨k', h1, h2⟩ := putsW_mem h
      exact ⟨k', List.mem_cons_of_mem _ h1, h2⟩
/-- what is committed of a block -/
theorem updsS_puts {σ : Ct} {g : Int → Option OB} {gn : Nat} (f : Nat → List Nat) {k : Int} {o : OB} (hg : g k = some o) (h0 : σ.now k.toNat ≠ 0) : ∀ {ks : List Int}, (∀ q ∈ ks, 0 ≤ q) → ks.Pairwise (· < ·) → k ∈ ks → ∀ f, updsS f (putsW σ g gn ks) k.toNat = sealB ⟨5, k.toNat, o.l.length, 0, gn⟩ o.l
  | q :: ks, hp, hs, hk, f => by
    obtain ⟨s1, s2⟩ := List.pairwise_cons.1 hs
    rw [putsW, updsS_app]
    rcases List.mem_cons.1 hk with rfl | hk
    · rw [hg]
      dsimp only
      rw [if_neg h0, updsS_other _ _ _ fun x hx => ?_]
      · show updS f k.toNat _ k.toNat = _
        unfold updS; rw [if_pos rfl]
      · obtain ⟨k', h1, o', h2, h3, rfl⟩ := putsW_mem hx
        have := s1 k' h1
        have := hp k (List.mem_cons_self ..)
        dsimp only; omega
    · exact updsS_puts f hg h0 (fun q hq => hp q (List.mem_cons_of_mem _ hq)) s2 hk _
/-- counts, as they are read again -/
theorem body_at (σ : Ct) (i : Nat) (hw : ∀ a, σ.now a ≤ 65535) : ∀ m k, k < m → numB (((σ.bodyN i m).drop (2 * k)).take 2) = σ.get (i * 118 + k)
  | m + 1, k, hk => by
    have hl := σ.bodyN_len i m
    rw [Ct.bodyN]
    by_cases e : k < m
    · rw [List.drop_append_of_le_length (by omega), List.take_append_of_le_length (by rw [List.length_drop]; omega)]
      exact body_at σ i hw m k e
    · have : k = m := by omega
      subst this
      rw [List.drop_left' hl, List.take_of_length_le (by rw [putN_len]; omega), numB_putN]
      unfold Ct.get
      split
      · have := hw (i * 118 + k); omega
      · decide
theorem ctAt_body (σ : Ct) (hw : ∀ a, σ.now a ≤ 65535) (a : Nat) : ctAt (fun i => σ.bodyN i 118) a = σ.get a := by
  unfold ctAt ctVal
  rw [body_at σ _ hw 118 _ (Nat.mod_lt _ (by decide))]
  congr 1; omega
theorem ctNow_body (σ : Ct) (hw : ∀ a, σ.now a ≤ 65535) : ctNow (fun i => σ.bodyN i 118) (areaN σ.n * 118) = σ.get := by
  funext a
  unfold ctNow
  split
  · exact ctAt_body σ hw a
  · unfold Ct.get; rw [if_neg]; unfold areaN at *; omega
structure Cmt (σ : Ct) (g : Int → Option OB) : Prop where
  n1 : 32 ≤ σ.n
  n2 : σ.n ≤ 2048
  bm : BmOk σ g
  lo : ∀ k, g k ≠ none → (firstN σ.n : Int) ≤ k
  w : ∀ a, σ.now a ≤ 65535
  f : ∀ a, σ.now a ≠ 0 → firstN σ.n ≤ a
theorem Cmt.keys {σ : Ct} {g : Int → Option OB} (h : Cmt σ g) (k : Int) : k ∈ keysN (bmap g) σ.n ↔ g k ≠ none := (keysN_mem (fun k hk => h.bm.k k (bmap_none.1 hk)) k).trans bmap_none
theorem Cmt.at_ {σ : Ct} {g : Int → Option OB} (h : Cmt σ g) {gn : Nat} {x : Nat × List Nat} (hx : x ∈ putsW σ g gn (keysN (bmap g) σ.n)) : firstN σ.n ≤ x.1 := by
  obtain ⟨k, h1, o, h2, h3, rfl⟩ := putsW_mem hx
  have := h.lo k (by rw [h2]; simp)
  dsimp only; omega
theorem area_lt (n g i : Nat) (hi : i < areaN n) : 2 ≤ areaAtN n g + i ∧ areaAtN n g + i < firstN n := by
  have e3 : g % 2 * areaN n ≤ 1 * areaN n := Nat.mul_le_mul_right _ (by omega)
  unfold areaAtN firstN; omega
/-- behind a commit the disk is mounted with the counts of then -/
theorem commit_mnt {σd : Dr} (hon : σd.on) {σ : Ct} {g : Int → Option OB} (h : Cmt σ g) (hn : σd.n = σ.n) (gn : Nat) (hg1 : 1 ≤ gn) (hg2 : gn + 1 ≤ 1099511627775) (hs : IsSup σ.n (gn % 2) (σd.lastS (gn % 2)) (some gn)) :
    Mnt (σd.commit σ g (gn + 1)).1.lastS σ.n (gn + 1) (fun i => σ.bodyN i 118) ∧ IsSup σ.n ((gn + 1) % 2) ((σd.commit σ g (gn + 1)).1.lastS ((gn + 1) % 2)) (some (gn + 1)) ∧
    (∀ k o, g k = some o → σ.now k.toNat ≠ 0 → (σd.commit σ g (gn + 1)).1.lastS k.toNat = sealB ⟨5, k.toNat, o.l.length, 0, gn + 1⟩ o.l) ∧
    (∀ q, firstN σ.n ≤ q → (g q = none ∨ σ.now q = 0) → (σd.commit σ g (gn + 1)).1.lastS q = σd.lastS q) := by
  obtain ⟨_, _, _, e, _, _⟩ := Dr.on_commit hon σ g (gn + 1)
  rw [e]
  have hf2 : 2 ≤ firstN σ.n := by unfold firstN; omega
  have h0 : ∀ f q, q < 2 → updsS (updsS f (putsW σ g (gn + 1) (keysN (bmap g) σ.n))) (areaW σ σ.n (gn + 1) (areaN σ.n)) q = f q := fun f q hq => by
    rw [updsS_other _ _ _ fun x hx => (by have := areaW_at hx; omega), updsS_other _ _ _ fun x hx => (by have := h.at_ hx; omega)]
  have hsup : updS (updsS (updsS σd.lastS (putsW σ g (gn + 1) (keysN (bmap g) σ.n))) (areaW σ σ.n (gn + 1) (areaN σ.n))) ((gn + 1) % 2) (sealB ⟨1, (gn + 1) % 2, 0, 0, gn + 1⟩ (supB σ.n 8)) ((gn + 1) % 2) = sealB ⟨1, (gn + 1) % 2, 0, 0, gn + 1⟩ (supB σ.n 8) := by unfold updS; rw [if_pos rfl]
  have hold : updS (updsS (updsS σd.lastS (putsW σ g (gn + 1) (keysN (bmap g) σ.n))) (areaW σ σ.n (gn + 1) (areaN σ.n))) ((gn + 1) % 2) (sealB ⟨1, (gn + 1) % 2, 0, 0, gn + 1⟩ (supB σ.n 8)) (gn % 2) = σd.lastS (gn % 2) := by
    unfold updS; rw [if_neg (by omega), h0 _ _ (by omega)]
  have hso : supOk (gn + 1) σ.n := ⟨by omega, hg2, h.n1, h.n2⟩
  have hbig : ∀ q, firstN σ.n ≤ q → updS (updsS (updsS σd.lastS (putsW σ g (gn + 1) (keysN (bmap g) σ.n))) (areaW σ σ.n (gn + 1) (areaN σ.n))) ((gn + 1) % 2) (sealB ⟨1, (gn + 1) % 2, 0, 0, gn + 1⟩ (supB σ.n 8)) q = updsS σd.lastS (putsW σ g (gn + 1) (keysN (bmap g) σ.n)) q := fun q hq => by
    unfold updS
    rw [if_neg (by omega), updsS_other _ _ _ fun x hx => ?_]
    obtain ⟨i, hi, rfl⟩ := List.mem_map.1 hx
    have := area_lt σ.n (gn + 1) i (List.mem_range.1 hi)
    dsimp only; omega
  refine ⟨⟨⟨(gn + 1) % 2, ?_⟩, fun i hi => ?_, fun i hi => by rw [σ.bodyN_len], fun i => σ.bodyN_bys i 118, fun a _ hne => ?_⟩, ?_, fun k o hk hk0 => ?_, fun q hq hg => ?_⟩
  · rcases Nat.mod_two_eq_zero_or_one gn with hm | hm
    · have hm2 : (gn + 1) % 2 = 1 := by omega
      rw [hm] at hold hs
      rw [hm2] at hsup hold ⊢
      exact .inr (.inr (.inl ⟨gn, by omega, by rw [hold]; exact hs, by rw [hsup]; exact ⟨hso, rfl⟩, rfl⟩))
    · have hm2 : (gn + 1) % 2 = 0 := by omega
      rw [hm] at hold hs
      rw [hm2] at hsup hold ⊢
      exact .inr (.inr (.inr ⟨gn, by omega, by rw [hsup]; exact ⟨hso, rfl⟩, by rw [hold]; exact hs, rfl⟩))
  · have := area_lt σ.n (gn + 1) i hi
    unfold updS
    rw [if_neg (by omega)]
    exact updsS_area _ σ σ.n (gn + 1) (areaN σ.n) i hi
  · rw [ctAt_body σ h.w] at hne
    unfold Ct.get at hne
    split at hne
    · rename_i h3; exact ⟨h.f a hne, h3⟩
    · exact absurd rfl hne
  · rw [hsup]; exact ⟨hso, rfl⟩
  · have h3 := h.lo k (by rw [hk]; simp)
    rw [hbig _ (by omega)]
    exact updsS_puts σd.lastS hk hk0 (fun q hq => by have := (h.bm.k q ((h.keys q).1 hq)).1; exact this) (keysN_lt _ _) ((h.keys k).2 (by rw [hk]; simp)) _
  · rw [hbig q hq, updsS_other]
    intro x hx
    obtain ⟨k, h1, o, h2, h4, rfl⟩ := putsW_mem hx
    have h5 := (h.bm.k k (by rw [h2]; simp)).1
    intro e
    have e : k.toNat = q := e
    rcases hg with hg | hg
    · rw [← e, Int.toNat_of_nonneg h5, h2] at hg; cases hg
    · rw [← e] at hg; exact h4 hg
theorem fmt_sup {σ : Dr} (h : σ.on) (h1 : 32 ≤ σ.n) (h2 : σ.n ≤ 2048) : IsSup σ.n (1 % 2) (σ.fmt.lastS (1 % 2)) (some 1) := by
  obtain ⟨a1, a2, a3, a4, a5⟩ := Dr.on_writes none2 h
  obtain ⟨b1, b2, b3, b4, b5⟩ := Dr.on_flip a2 (Ct.new σ.n) 1
  have e : σ.fmt.lastS = _ := b4
  rw [e]
  unfold updS
  rw [if_pos rfl]
  exact ⟨⟨Nat.le_refl _, by omega, h1, h2⟩, rfl⟩
theorem keysN_len (gm : Int → Option Value) (N : Nat) : (keysN gm N).length ≤ N := by
  unfold keysN
  refine Nat.le_trans (List.length_filter_le _ _) ?_
  simp
theorem putsW_len (σ : Ct) (g : Int → Option OB) (gn : Nat) : ∀ ks : List Int, (putsW σ g gn ks).length ≤ ks.length
  | [] => Nat.le_refl _
  | q :: ks => by
    have ih := putsW_len σ g gn ks
    rw [putsW, List.length_append, List.length_cons]
    cases g q with
    | none => dsimp only; rw [List.length_nil]; omega
    | some o =>
      dsimp only
      split
      · rw [List.length_nil]; omega
      · rw [List.length_singleton]; omega
end Go.Proofs.Ytgbbcpfnmkeijaa
/- The pool laws' examples: shown. -/
namespace Go.Proofs.Ytgbbcpfnmkeijaa
open Go.Cam
set_option maxRecDepth 100000
/-- a text of two letters, as bytes -/
theorem s_ab {P : Program} {f : FuncId} {n : Nat} {R : Value → HP} {k : List It} {l : List (Nat × Value)} {As Bs : List HP} {r e : Nat} (u : Sel (.own r (.cells (flat 2 (rowsOf 1 [.int .u8 97, .int .u8 98])).toArray e ((flat 2 (rowsOf 1 [.int .u8 97, .int .u8 98])).toArray.size, (flat 2 (rowsOf 1 [.int .u8 97, .int .u8 98])).toArray.size + 1))) As Bs)
    (h : RunS P f n R k l (BS (.slice (some ⟨r, 0, none⟩) ([97, 98] : List Nat).length 2) [97, 98] :: Bs)) : RunS P f n R k l As :=
  s_fzo (b := r) (off := 0) (m := 2) (c := 2) (sz := 1) (row := byR [97, 98]) u (fun _ _ => rfl) (by decide) (by decide) (by rfl) h
abbrev exCt : Ct := { Ct.new 32 with now := nset (Ct.new 32).now 4 1 }
abbrev exBm (a : Option Addr) (c : Nat) : Int → Option OB := bset (fun _ => none) ((4 : Nat) : Int) ⟨5, [97, 98], a, c⟩
theorem exCmt (a : Option Addr) (c : Nat) : Cmt exCt (exBm a c) := by
  have hk : ∀ k, exBm a c k ≠ none → k = 4 := fun k h => by
    unfold exBm bset at h
    by_cases e : k = ((4 : Nat) : Int)
    · exact e
    · rw [if_neg e] at h; exact absurd rfl h
  refine ⟨by decide, by decide, ⟨fun k h => by rw [hk k h]; decide, fun k o h => ?_⟩, fun k h => by rw [hk k h]; decide, fun q => ?_, fun q hq => ?_⟩
  · unfold exBm bset at h
    split at h
    · cases h; exact ⟨rfl, by show 2 ≤ 128; decide, fun c hc => by
        have hc : c ∈ ([97, 98] : List Nat) := hc
        simp at hc; omega⟩
    · cases h
  · show nset _ _ _ _ ≤ _
    unfold nset; split
    · decide
    · exact Nat.zero_le _
  · have hq : nset (Ct.new 32).now 4 1 q ≠ 0 := hq
    unfold nset at hq
    by_cases e : q = 4
    · subst e; decide
    · rw [if_neg e] at hq; exact absurd rfl hq
set_option maxHeartbeats 16000000 in
theorem shown9_c : Ctr Try.prog 25 [] [] (fun v Bs => v = .bool true ∧ Bs = []) := by
  have hon0 : (Dr.new 32).on := ⟨rfl, by show (-1 : Int) < 0; decide⟩
  obtain ⟨f1, f2, f3, f4⟩ := Dr.fmt_mnt hon0 (by decide) (by decide)
  have f5 := fmt_sup hon0 (by decide) (by decide)
  refine s_enter 121 [] (fun F => [F]) Try.func25 fun F => ?_
  refine go_ ?_
  refine s_call (sp := (by repeat (first | exact Split.nil | apply Split.perx (by repeat (first | with_reducible exact Sel.here | with_reducible apply Sel.there)) (by infer_instance) | apply Split.cons (by repeat (first | with_reducible exact Sel.here | with_reducible apply Sel.there))))) (hs := dnew_c 32 (by decide) (by decide)) (h := ?_)
  rintro v Bs ⟨b, rfl, rfl⟩
  refine go_ ?_
  refine s_call (sp := (by repeat (first | exact Split.nil | apply Split.perx (by repeat (first | with_reducible exact Sel.here | with_reducible apply Sel.there)) (by infer_instance) | apply Split.cons (by repeat (first | with_reducible exact Sel.here | with_reducible apply Sel.there))))) (hs := pformat_c b (Dr.new 32) hon0 (by decide) (by decide) (by decide)) (h := ?_)
  rintro v Bs ⟨p, bc, m, rfl, rfl⟩
  have f4' : (Dr.new 32).fmt.steps ≤ 200 := by have : (Dr.new 32).steps = 0 := rfl; omega
  generalize (Dr.new 32).fmt = σd at *
  refine go_ ?_
  refine s_bs (cells := [.int .u8 97, .int .u8 98]) (fun a1 => ?_) (fun j => rfl)
  refine s_full (a := a1) (m := 2) (by repeat (first | with_reducible exact Sel.here | with_reducible apply Sel.there)) (by decide) fun r6 hr6 => ?_
  subst hr6
  refine s_step (st_cvb (b := r6) (cs := (flat 2 (rowsOf 1 [.int .u8 97, .int .u8 98])).toArray) (by repeat (first | with_reducible exact Upd.here | with_reducible apply Upd.there))) ?_
  rintro _ _ ⟨rfl, rfl⟩
  refine s_ab (r := r6) (by repeat (first | with_reducible exact Sel.here | with_reducible apply Sel.there)) ?_
  refine s_obs0 ?_
  refine s_front (a := MG m (fun _ => none)) (by repeat (first | with_reducible exact Sel.here | with_reducible apply Sel.there)) (s_open (B := MG m (bmap fun _ => none)) (fun _ _ q => q) ?_)
  refine go_ ?_
  refine s_call (sp := (by repeat (first | exact Split.nil | apply Split.perx (by repeat (first | with_reducible exact Sel.here | with_reducible apply Sel.there)) (by infer_instance) | apply Split.cons (by repeat (first | with_reducible exact Sel.here | with_reducible apply Sel.there))))) (hs := pputB_c p b 1 32 bc m (Ct.new 32) (fun _ => none) (a := some ⟨r6, 0, none⟩) (c := 2) [97, 98] (by decide)) (h := ?_)
  rintro v Bs (⟨i, a2, c2, hi, rfl, rfl⟩ | ⟨hi, _⟩)
  · have e4 : (Ct.new 32).free? = some 4 := rfl
    rw [e4] at hi
    cases hi
    have hg4 : exBm a2 c2 ((4 : Nat) : Int) = some ⟨5, [97, 98], a2, c2⟩ := by unfold exBm bset; rw [if_pos rfl]
    have hc1 := exCmt a2 c2
    have hon2 : σd.n = exCt.n := f2
    obtain ⟨k1, k2, k3, k4, k5, k6⟩ := Dr.on_commit f1 exCt (exBm a2 c2) 2
    obtain ⟨m1, m2, m3, m4⟩ := commit_mnt f1 hc1 hon2 1 (by decide) (by decide) f5
    have hst2 : (σd.commit exCt (exBm a2 c2) 2).1.steps ≤ 1000 := by
      have h1 : (keysN (bmap (exBm a2 c2)) exCt.n).length ≤ 32 := keysN_len _ _
      have h3 := putsW_len exCt (exBm a2 c2) 2 (keysN (bmap (exBm a2 c2)) exCt.n)
      have h4 : areaN exCt.n = 1 := rfl
      rw [k5, h4]; omega
    refine go_ ?_
    refine s_call (sp := (by repeat (first | exact Split.nil | apply Split.perx (by repeat (first | with_reducible exact Sel.here | with_reducible apply Sel.there)) (by infer_instance) | apply Split.cons (by repeat (first | with_reducible exact Sel.here | with_reducible apply Sel.there))))) (hs := pbytesM_c p b 1 32 bc m exCt (exBm a2 c2) 4 (by decide) (by decide) ⟨5, [97, 98], a2, c2⟩ hg4 rfl (by show 2 < 1000000; decide)) (h := ?_)
    rintro v Bs ⟨a3, c3, rfl, rfl⟩
    refine go_ ?_
    refine s_call (sp := (by repeat (first | exact Split.nil | apply Split.perx (by repeat (first | with_reducible exact Sel.here | with_reducible apply Sel.there)) (by infer_instance) | apply Split.cons (by repeat (first | with_reducible exact Sel.here | with_reducible apply Sel.there))))) (hs := pfree_c p b 1 32 bc m exCt (by decide) (by decide)) (h := ?_)
    rintro v Bs ⟨rfl, rfl⟩
    refine go_ ?_
    refine s_call (sp := (by repeat (first | exact Split.nil | apply Split.perx (by repeat (first | with_reducible exact Sel.here | with_reducible apply Sel.there)) (by infer_instance) | apply Split.cons (by repeat (first | with_reducible exact Sel.here | with_reducible apply Sel.there))))) (hs := pcommit_c p b 1 bc m exCt (exBm a2 c2) σd (by decide) (by decide) hon2 (by omega) (by decide) hc1.bm) (h := ?_)
    rintro v Bs (⟨_, rfl, rfl⟩ | ⟨h0, _⟩)
    · generalize (σd.commit exCt (exBm a2 c2) 2).1 = σ2 at *
      refine go_ ?_
      rw [show exCt.freeN (exCt.n - firstN exCt.n) (firstN exCt.n) = 27 from rfl]
      have hn3 : σ2.n = 32 := k3.trans f2
      have hm2 : Mnt σ2.lastS σ2.n 2 (fun i => exCt.bodyN i 118) := by rw [hn3]; exact m1
      refine s_call (sp := (by repeat (first | exact Split.nil | apply Split.perx (by repeat (first | with_reducible exact Sel.here | with_reducible apply Sel.there)) (by infer_instance) | apply Split.cons (by repeat (first | with_reducible exact Sel.here | with_reducible apply Sel.there))))) (hs := pmount_c b σ2 2 (fun i => exCt.bodyN i 118) k2.1 (by omega) (by omega) (by omega) hm2) (h := ?_)
      rintro v Bs ⟨q, bc2, mm, rfl, rfl⟩
      have hb := ctNow_body exCt hc1.w
      rw [hn3, show areaN 32 * 118 = areaN exCt.n * 118 from rfl, hb]
      refine go_ ?_
      refine s_front (a := MG mm (fun _ => none)) (by repeat (first | with_reducible exact Sel.here | with_reducible apply Sel.there)) (s_open (B := MG mm (bmap fun _ => none)) (fun _ _ q => q) ?_)
      have hs4 := m3 ((4 : Nat) : Int) _ hg4 (by decide)
      refine s_call (sp := (by repeat (first | exact Split.nil | apply Split.perx (by repeat (first | with_reducible exact Sel.here | with_reducible apply Sel.there)) (by infer_instance) | apply Split.cons (by repeat (first | with_reducible exact Sel.here | with_reducible apply Sel.there))))) (hs := pbytesD_c q b 2 32 bc2 mm ⟨32, exCt.get, exCt.get⟩ (fun _ => none) σ2 4 2 [97, 98] (by decide) (by decide) rfl (by omega) k2.1 (by omega) (by decide) (by unfold Bys; decide) (blkHd_ok (n := 32) (by decide) (by decide) (by decide) (by decide)) hs4) (h := ?_)
      rintro v Bs ⟨a4, c4, rfl, rfl⟩
      refine go_ ?_
      refine s_call (sp := (by repeat (first | exact Split.nil | apply Split.perx (by repeat (first | with_reducible exact Sel.here | with_reducible apply Sel.there)) (by infer_instance) | apply Split.cons (by repeat (first | with_reducible exact Sel.here | with_reducible apply Sel.there))))) (hs := punref_c q b 2 32 bc2 mm ⟨32, exCt.get, exCt.get⟩ 4 (by decide) (by decide)) (h := ?_)
      rintro v Bs ⟨rfl, rfl⟩
      refine go_ ?_
      refine s_call (sp := (by repeat (first | exact Split.nil | apply Split.perx (by repeat (first | with_reducible exact Sel.here | with_reducible apply Sel.there)) (by infer_instance) | apply Split.cons (by repeat (first | with_reducible exact Sel.here | with_reducible apply Sel.there))))) (hs := pbytesN_c q b 2 32 bc2 mm { (⟨32, exCt.get, exCt.get⟩ : Ct) with now := nset exCt.get 4 (exCt.get 4 - 1) } 4 (by decide) (by decide)) (h := ?_)
      rintro v Bs ⟨rfl, rfl⟩
      refine go_ ?_
      refine s_look (lk_b2s (a := a3) (c := c3) (m := 2) (s := [97, 98]) (by repeat (first | with_reducible exact SelR.here | with_reducible apply SelR.there)) rfl) ?_
      refine s_look (lk_p (v := .bool ((strB [97, 98]).toList == (ByteArray.mk #[97, 98]).toList)) (by intro j; rfl)) ?_
      rw [show strB [97, 98] = ByteArray.mk #[97, 98] from rfl, beq_self_eq_true]
      refine go_ ?_
      refine s_look (lk_b2s (a := a4) (c := c4) (m := 2) (s := [97, 98]) (by repeat (first | with_reducible exact SelR.here | with_reducible apply SelR.there)) rfl) ?_
      refine s_look (lk_p (v := .bool ((strB [97, 98]).toList == (ByteArray.mk #[97, 98]).toList)) (by intro j; rfl)) ?_
      rw [show strB [97, 98] = ByteArray.mk #[97, 98] from rfl, beq_self_eq_true]
      refine go_ ?_
      refine s_call (sp := (by repeat (first | exact Split.nil | apply Split.perx (by repeat (first | with_reducible exact Sel.here | with_reducible apply Sel.there)) (by infer_instance) | apply Split.cons (by repeat (first | with_reducible exact Sel.here | with_reducible apply Sel.there))))) (hs := psuper_c q b 2 32 bc2 mm) (h := ?_)
      rintro v Bs ⟨rfl, rfl⟩
      refine go_ ?_
      refine s_call (sp := (by repeat (first | exact Split.nil | apply Split.perx (by repeat (first | with_reducible exact Sel.here | with_reducible apply Sel.there)) (by infer_instance) | apply Split.cons (by repeat (first | with_reducible exact Sel.here | with_reducible apply Sel.there))))) (hs := pfree_c q b 2 32 bc2 mm { (⟨32, exCt.get, exCt.get⟩ : Ct) with now := nset exCt.get 4 (exCt.get 4 - 1) } (by decide) (by decide)) (h := ?_)
      rintro v Bs ⟨rfl, rfl⟩
      rw [show Ct.freeN { (⟨32, exCt.get, exCt.get⟩ : Ct) with now := nset exCt.get 4 (exCt.get 4 - 1) } (32 - firstN 32) (firstN 32) = 27 from rfl]
      refine go_ ?_
      exact s_ret1 (rs := [.tmp 0]) Try.func25 rfl (by intro j; refine RVS.tmp _ rfl ?_; exact RVS.nil) (⟨rfl, rfl⟩) (by repeat (first | exact Ent.nil | refine Ent.per (by repeat (first | with_reducible exact Sel.here | with_reducible apply Sel.there)) ?_ | refine Ent.cons (by repeat (first | with_reducible exact Sel.here | with_reducible apply Sel.there)) ?_))
    · rw [k1] at h0; cases h0
  · have e4 : (Ct.new 32).free? = some 4 := rfl
    rw [e4] at hi; cases hi
end Go.Proofs.Ytgbbcpfnmkeijaa
/- Two superblocks that are one. -/
namespace Go.Proofs.Ytgbbcpfnmkeijaa
open Go.Cam
set_option maxRecDepth 100000
theorem eq80 (w : World) : (Op.equalIn 9999 80 (.agg vols0L.toArray) (.agg vols0L.toArray)).run Try.prog w = .ok true w := cst_run _ (by kernel_rfl) w
set_option maxHeartbeats 4000000 in
theorem eqlSup (g s : Nat) (w : World) : (binOp .eql 82 (.agg (supL g s).toArray) (.agg (supL g s).toArray)).run Try.prog w = .ok (.bool true) w := by
  go_simp
  rw [eq80]
  rfl
set_option maxHeartbeats 4000000 in
theorem nqlSup (g s : Nat) (w : World) : (binOp .neq 82 (.agg (supL g s).toArray) (.agg (supL g s).toArray)).run Try.prog w = .ok (.bool (!true)) w := by
  go_simp
  rw [eq80]
  rfl
instance eqSup (g s : Nat) : EQ Try.prog 82 (.agg (supL g s).toArray) (.agg (supL g s).toArray) true := ⟨fun op _ _ => by cases op <;> kernel_rfl, eqlSup g s, nqlSup g s⟩
end Go.Proofs.Ytgbbcpfnmkeijaa
/- PoolFormats. -/
namespace Go.Proofs.Ytgbbcpfnmkeijaa
open Go.Cam
set_option maxRecDepth 100000
abbrev pairR (l : List (Int × Int)) (i : Nat) : List Value := [.int .i64 (l.getD i default).1, .int .i64 (l.getD i default).2]
theorem pairs_of {H : Heap} {cs : List Value} (h : (Sh.slice 2 ((Sh.int .i64).rep 2)).ok H cs) : ∃ a c, ∃ l : List (Int × Int), cs = [.slice a l.length c] ∧ (∀ i, i < l.length → -9223372036854775808 ≤ (l.getD i default).1 ∧ (l.getD i default).1 ≤ 9223372036854775807) ∧ l.length < 9223372036854775808 ∧ ∀ M, (SA none 2 (.slice a l.length c) l.length (pairR l)).p H M := by
  obtain ⟨a, len, cap, row, rfl, h1, h2, h3, h4⟩ := h
  have hm : maxLen = 9223372036854775807 := rfl
  obtain ⟨l, rfl, hl⟩ := list_choose (α := Int × Int) (φ := fun i k => row i = [.int .i64 k.1, .int .i64 k.2] ∧ -9223372036854775808 ≤ k.1 ∧ k.1 ≤ 9223372036854775807) len fun i hi => by
    obtain ⟨x, y, e, ⟨n1, rfl, w1⟩, x2, y2, rfl, ⟨n2, rfl, w2⟩, rfl⟩ := h4 i hi
    exact ⟨(n1, n2), e, wf_i64 w1⟩
  exact ⟨a, cap, l, rfl, fun i hi => (hl i hi).2, by omega, fun M => SA.cg _ (fun i hi => (hl i hi).1) H M (h3 M)⟩
theorem freeN_all {σ : Ct} : ∀ m i, (∀ j, i ≤ j → j < i + m → σ.now j = 0 ∧ σ.done j = 0) → σ.freeN m i = m
  | 0, _, _ => rfl
  | m + 1, i, h => by
    rw [Ct.freeN, if_pos (h i (Nat.le_refl _) (by omega)), freeN_all m (i + 1) fun j h1 h2 => h j (by omega) (by omega)]; omega
theorem bysR (m c : Nat) (i : Nat) (hi : i < m) : byR (List.replicate m c) i = [.int .u8 (c : Int)] := by
  simp [byR, List.getD_eq_getElem?_getD, List.getElem?_replicate, hi]
theorem wrap_u8 (y : Int) : IntKind.u8.wrap y = ((IntKind.u8.wrap y).toNat : Int) ∧ (IntKind.u8.wrap y).toNat < 256 := by
  have e : IntKind.u8.wrap y = y % 256 := by
    unfold IntKind.wrap
    simp [IntKind.signed, IntKind.bits]
  rw [e]
  omega
/-- an element of an array in an element of a slice -/
theorem lk_ixe (j' : Nat) {P : Program} {l : List (Nat × Value)} {As : List HP} {d : Nat} {oty : TypeId} {pos : String} {af : Array Edge} {g : Option (Nat × Bool)} {t : TypeId} {x y : Operand} {m elem s1 fo sz n i : Nat} {kd : IntKind} {v : Value} {row : Nat → List Value} [hu : AR P t m elem] [hs : SZ P elem s1] (s : SelR As sz v n row) (hi : i < n) (hj : j' < m)
    (hx : ∀ j, ev (mk l j) x = eptr v sz i fo := by intro j; rfl) (hy : ∀ j, ev (mk l j) y = .int kd (j' : Int) := by intro j; rfl) :
    LookS P ⟨some d, .indexAddr t x y, oty, pos, af, g⟩ l As (eptr v sz i (fo + j' * s1)) := .mk fun j H M q => by
  obtain ⟨b, off, c, ty, fr, cap, hv, _, _, _, _, hp⟩ := (s.rd q).elem hi
  rw [hp]
  have := qt_ix (o := ⟨some d, .indexAddr t x y, oty, pos, af, g⟩) (H := H) (M := M) rfl ((hx j).trans (hp fo)) (hy j) hu.h hs.h (by omega) (by omega); simpa [Nat.add_assoc] using this
/-- bytes of which the first ones are set -/
def fillR (c j : Nat) (i : Nat) : List Value := [.int .u8 ((if i < j then c else 0 : Nat) : Int)]
set_option maxHeartbeats 16000000 in
theorem formats_c (n : Int) (hn : -9223372036854775808 ≤ n ∧ n ≤ 9223372036854775807) {a : Option Addr} {c : Nat} (l : List (Int × Int)) (hl : l.length < 9223372036854775808) (hb : ∀ i, i < l.length → -9223372036854775808 ≤ (l.getD i default).1 ∧ (l.getD i default).1 ≤ 9223372036854775807) :
    Ctr Try.prog 8 [.int .i64 n, .slice a l.length c] [SA none 2 (.slice a l.length c) l.length (pairR l)] (fun v Bs => v = .bool true ∧ Bs = []) := by
  refine s_enter 126 [(0, _), (1, _)] (fun F => [_, F]) Try.func8 fun F => ?_
  refine go_ ?_
  refine s_call (sp := (by repeat (first | exact Split.nil | apply Split.perx (by repeat (first | with_reducible exact Sel.here | with_reducible apply Sel.there)) (by infer_instance) | apply Split.cons (by repeat (first | with_reducible exact Sel.here | with_reducible apply Sel.there))))) (hs := shown9_c) (h := ?_)
  rintro v Bs ⟨rfl, rfl⟩
  refine go_ ?_
  refine s_call (sp := (by repeat (first | exact Split.nil | apply Split.perx (by repeat (first | with_reducible exact Sel.here | with_reducible apply Sel.there)) (by infer_instance) | apply Split.cons (by repeat (first | with_reducible exact Sel.here | with_reducible apply Sel.there))))) (hs := kind_c n 300 hn (by decide) (by decide)) (h := ?_)
  rintro v Bs ⟨rfl, rfl⟩
  have hk := kindI_lt n (show 0 < 300 by decide)
  generalize hK : kindI n 300 = k0 at *
  refine go_ ?_
  rw [show (32 : Int) + (k0 : Int) = ((32 + k0 : Nat) : Int) by omega]
  generalize hKK : 32 + k0 = k at *
  have hk1 : 32 ≤ k := by omega
  have hk2 : k ≤ 331 := by omega
  refine s_call (sp := (by repeat (first | exact Split.nil | apply Split.perx (by repeat (first | with_reducible exact Sel.here | with_reducible apply Sel.there)) (by infer_instance) | apply Split.cons (by repeat (first | with_reducible exact Sel.here | with_reducible apply Sel.there))))) (hs := dnew_c k hk1 (by omega)) (h := ?_)
  rintro v Bs ⟨b, rfl, rfl⟩
  refine go_ ?_
  refine s_loop (fun q : Nat × Dr => [(0, .int .i64 n), (1, .slice a l.length c), (6, .int .i64 k), (7, .pointer (some ⟨b, 0, none⟩)), (9, .int .i64 q.1)])
    (fun q => [DrA b q.2, SA none 2 (.slice a l.length c) l.length (pairR l), F]) (fun q => q.1 ≤ 20 ∧ q.2.on ∧ q.2.n = k ∧ q.2.steps ≤ q.1) (fun q => 20 - q.1) (0, Dr.new k) ⟨Nat.zero_le _, ⟨rfl, by show (-1 : Int) < 0; decide⟩, rfl, Nat.le_refl _⟩ (by repeat (first | exact Ent.nil | refine Ent.per (by repeat (first | with_reducible exact Sel.here | with_reducible apply Sel.there)) ?_ | refine Ent.cons (by repeat (first | with_reducible exact Sel.here | with_reducible apply Sel.there)) ?_)) ?_
  rintro ⟨i, σ⟩ ⟨hi, hon, hsn, hss⟩ next
  dsimp only at hi hon hsn hss next ⊢
  apply s_join (α := Unit) (fun _ => [(6, .int .i64 k), (7, .pointer (some ⟨b, 0, none⟩)), (70, .pointer (some ⟨b, 0, none⟩))]) (fun _ => [DrA b σ, F]) (fun _ => True)
  case h =>
    intro K
    refine go_ ?_
    cases h1 : decide ((i : Int) < (l.length : Int)) with
    | false =>
      refine go_ ?_
      exact s_entF (by repeat (first | exact Ent.nil | refine Ent.per (by repeat (first | with_reducible exact Sel.here | with_reducible apply Sel.there)) ?_ | refine Ent.cons (by repeat (first | with_reducible exact Sel.here | with_reducible apply Sel.there)) ?_)) (s_keep _ (K () trivial))
    | true =>
      have h1' := of_decide_eq_true h1
      refine go_ ?_
      refine s_if (fun h2 => ?_) (fun h2 => ?_)
      · have hi2 : i < l.length := by omega
        refine go_ ?_
        refine s_step (st_mk (len := 256) (o1 := ⟨rfl⟩)) ?_
        rintro _ _ ⟨ab, rfl, rfl⟩
        obtain ⟨cc, hw1, hw2⟩ : ∃ cc : Nat, IntKind.u8.wrap (l.getD i default).2 = (cc : Int) ∧ cc < 256 := ⟨_, wrap_u8 (l.getD i default).2⟩
        refine s_open (SA.cg (fillR cc 0) fun q hq => by unfold fillR; rw [if_neg (Nat.not_lt_zero _)]; rfl) ?_
        refine go_ ?_
        refine s_loop (fun j : Nat => [(0, .int .i64 n), (1, .slice a l.length c), (6, .int .i64 k), (7, .pointer (some ⟨b, 0, none⟩)), (9, .int .i64 i), (10, .slice ab 256 256), (11, .int .i64 j)])
          (fun j => [DrA b σ, SA none 2 (.slice a l.length c) l.length (pairR l), SA (some 5) 1 (.slice ab 256 256) 256 (fillR cc j), F]) (fun j => j ≤ 256) (fun j => 256 - j) 0 (Nat.zero_le _) (by repeat (first | exact Ent.nil | refine Ent.per (by repeat (first | with_reducible exact Sel.here | with_reducible apply Sel.there)) ?_ | refine Ent.cons (by repeat (first | with_reducible exact Sel.here | with_reducible apply Sel.there)) ?_)) ?_
        intro j hj next2
        refine go_ ?_
        refine s_if (fun h3 => ?_) (fun h3 => ?_)
        · have hj2 : j < 256 := by omega
          refine go_ ?_
          refine s_look (lk_ixe 1 (n := l.length) (i := i) (sz := 2) (fo := 0) (v := .slice a l.length c) (by repeat (first | with_reducible exact SelR.here | with_reducible apply SelR.there)) hi2 (by decide)) ?_
          refine go_ ?_
          rw [hw1]
          refine s_stepU (st_ste (i := j) (fo := 0) (m' := 1) (vs := [.int .u8 (cc : Int)]) (v := .slice ab 256 256) (by repeat (first | with_reducible exact Sel.here | with_reducible apply Sel.there))) ?_
          rintro _ _ rfl
          refine s_open (SA.cg (fillR cc (j + 1)) fun q _ => by
            unfold rput fillR
            by_cases h : q = j
            · subst h; simp
            · rw [if_neg h]
              by_cases h4 : q < j
              · rw [if_pos h4, if_pos (by omega)]
              · rw [if_neg h4, if_neg (by omega)]) ?_
          refine go_ ?_
          exact s_entF (by repeat (first | exact Ent.nil | refine Ent.per (by repeat (first | with_reducible exact Sel.here | with_reducible apply Sel.there)) ?_ | refine Ent.cons (by repeat (first | with_reducible exact Sel.here | with_reducible apply Sel.there)) ?_)) (s_keep _ (next2 (j + 1) (by omega) (by omega)))
        · have : j = 256 := by omega
          subst this
          refine s_fz (e := 5) (v := .slice ab 256 256) (by repeat (first | with_reducible exact Sel.here | with_reducible apply Sel.there)) ?_
          refine s_open (SA.cg (byR (List.replicate 256 cc)) fun q hq => by
            rw [bysR 256 _ q hq]; unfold fillR; rw [if_pos hq]) ?_
          refine go_ ?_
          refine s_look (lk_ixe 0 (n := l.length) (i := i) (sz := 2) (fo := 0) (v := .slice a l.length c) (by repeat (first | with_reducible exact SelR.here | with_reducible apply SelR.there)) hi2 (by decide)) ?_
          refine go_ ?_
          refine s_call (sp := (by repeat (first | exact Split.nil | apply Split.perx (by repeat (first | with_reducible exact Sel.here | with_reducible apply Sel.there)) (by infer_instance) | apply Split.cons (by repeat (first | with_reducible exact Sel.here | with_reducible apply Sel.there))))) (hs := kind_c (l.getD i default).1 k (hb i hi2) (by omega) (by omega)) (h := ?_)
          rintro v Bs ⟨rfl, rfl⟩
          have hkl := kindI_lt (l.getD i default).1 (show 0 < k by omega)
          refine go_ ?_
          refine s_call (sp := (by repeat (first | exact Split.nil | apply Split.perx (by repeat (first | with_reducible exact Sel.here | with_reducible apply Sel.there)) (by infer_instance) | apply Split.cons (by repeat (first | with_reducible exact Sel.here | with_reducible apply Sel.there))))) (hs := dwrite_c b σ (kindI (l.getD i default).1 k) (List.replicate 256 cc) (a := ab) (c := 256) (by omega) ⟨by simp, fun x hx => by rw [(List.mem_replicate.1 hx).2]; exact hw2⟩ (by omega)) (h := ?_)
          rintro v Bs ⟨rfl, rfl⟩
          obtain ⟨w1, w2, w3, w4, w5⟩ := Dr.on_write hon (kindI (l.getD i default).1 k) (List.replicate 256 cc)
          refine go_ ?_
          exact s_entF (by repeat (first | exact Ent.nil | refine Ent.per (by repeat (first | with_reducible exact Sel.here | with_reducible apply Sel.there)) ?_ | refine Ent.cons (by repeat (first | with_reducible exact Sel.here | with_reducible apply Sel.there)) ?_)) (s_keep _ (next (i + 1, (σ.write (kindI (l.getD i default).1 k) (List.replicate 256 cc)).1) ⟨by dsimp only; omega, w2, w3.trans hsn, by dsimp only; omega⟩ (by dsimp only; omega)))
      · refine go_ ?_
        exact s_entF (by repeat (first | exact Ent.nil | refine Ent.per (by repeat (first | with_reducible exact Sel.here | with_reducible apply Sel.there)) ?_ | refine Ent.cons (by repeat (first | with_reducible exact Sel.here | with_reducible apply Sel.there)) ?_)) (s_keep _ (K () trivial))
  case K =>
    intro _ _
    obtain ⟨f1, f2, f3, f4⟩ := Dr.fmt_mnt hon (by omega) (by omega)
    refine go_ ?_
    refine s_call (sp := (by repeat (first | exact Split.nil | apply Split.perx (by repeat (first | with_reducible exact Sel.here | with_reducible apply Sel.there)) (by infer_instance) | apply Split.cons (by repeat (first | with_reducible exact Sel.here | with_reducible apply Sel.there))))) (hs := pformat_c b σ hon (by omega) (by omega) (by omega)) (h := ?_)
    rintro v Bs ⟨p, bc, m, rfl, rfl⟩
    rw [hsn] at f2 f3 ⊢
    generalize σ.fmt = σ2 at *
    refine go_ ?_
    have f3' : Mnt σ2.lastS σ2.n 1 (fun _ => List.replicate 236 0) := by rw [f2]; exact f3
    refine s_call (sp := (by repeat (first | exact Split.nil | apply Split.perx (by repeat (first | with_reducible exact Sel.here | with_reducible apply Sel.there)) (by infer_instance) | apply Split.cons (by repeat (first | with_reducible exact Sel.here | with_reducible apply Sel.there))))) (hs := pmount_c b σ2 1 (fun _ => List.replicate 236 0) f1.1 (by omega) (by omega) (by omega) f3') (h := ?_)
    rintro v Bs ⟨q, bc2, mm, rfl, rfl⟩
    rw [f2, ctNow_zeros]
    refine go_ ?_
    refine s_call (sp := (by repeat (first | exact Split.nil | apply Split.perx (by repeat (first | with_reducible exact Sel.here | with_reducible apply Sel.there)) (by infer_instance) | apply Split.cons (by repeat (first | with_reducible exact Sel.here | with_reducible apply Sel.there))))) (hs := rareas_c k (by omega)) (h := ?_)
    rintro v Bs ⟨rfl, rfl⟩
    refine go_ ?_
    refine s_call (sp := (by repeat (first | exact Split.nil | apply Split.perx (by repeat (first | with_reducible exact Sel.here | with_reducible apply Sel.there)) (by infer_instance) | apply Split.cons (by repeat (first | with_reducible exact Sel.here | with_reducible apply Sel.there))))) (hs := psuper_c p b 1 k bc m) (h := ?_)
    rintro v Bs ⟨rfl, rfl⟩
    refine go_ ?_
    refine s_look (lk_eqs (eq := eqSup 1 k)) ?_
    refine go_ ?_
    refine s_call (sp := (by repeat (first | exact Split.nil | apply Split.perx (by repeat (first | with_reducible exact Sel.here | with_reducible apply Sel.there)) (by infer_instance) | apply Split.cons (by repeat (first | with_reducible exact Sel.here | with_reducible apply Sel.there))))) (hs := psuper_c q b 1 k bc2 mm) (h := ?_)
    rintro v Bs ⟨rfl, rfl⟩
    refine go_ ?_
    refine s_call (sp := (by repeat (first | exact Split.nil | apply Split.perx (by repeat (first | with_reducible exact Sel.here | with_reducible apply Sel.there)) (by infer_instance) | apply Split.cons (by repeat (first | with_reducible exact Sel.here | with_reducible apply Sel.there))))) (hs := psuper_c p b 1 k bc m) (h := ?_)
    rintro v Bs ⟨rfl, rfl⟩
    refine go_ ?_
    refine s_look (lk_eqs (eq := eqSup 1 k)) ?_
    refine go_ ?_
    have hfr : ∀ σ : Ct, σ.n = k → (∀ j, firstN k ≤ j → j < firstN k + (k - firstN k) → σ.now j = 0 ∧ σ.done j = 0) → σ.freeN (σ.n - firstN σ.n) (firstN σ.n) = k - firstN k := by
      intro σ h1 h2
      rw [h1]; exact freeN_all _ _ h2
    have hf1 := hfr (Ct.new k) rfl fun _ _ _ => ⟨rfl, rfl⟩
    have hf2 := hfr ⟨k, fun _ => 0, fun _ => 0⟩ rfl fun _ _ _ => ⟨rfl, rfl⟩
    have hfk := firstN_lt hk1 (show k ≤ 2048 by omega)
    refine s_call (sp := (by repeat (first | exact Split.nil | apply Split.perx (by repeat (first | with_reducible exact Sel.here | with_reducible apply Sel.there)) (by infer_instance) | apply Split.cons (by repeat (first | with_reducible exact Sel.here | with_reducible apply Sel.there))))) (hs := pfree_c p b 1 k bc m (Ct.new k) (by exact hk1) (by show k ≤ 2048; omega)) (h := ?_)
    rintro v Bs ⟨rfl, rfl⟩
    rw [hf1]
    have hbt : (((k - firstN k : Nat) : Int) == (k : Int) - (firstN k : Int)) = true := by
      rw [beq_iff_eq]; omega
    refine go_ ?_
    rw [hbt]
    refine go_ ?_
    refine s_call (sp := (by repeat (first | exact Split.nil | apply Split.perx (by repeat (first | with_reducible exact Sel.here | with_reducible apply Sel.there)) (by infer_instance) | apply Split.cons (by repeat (first | with_reducible exact Sel.here | with_reducible apply Sel.there))))) (hs := pfree_c q b 1 k bc2 mm ⟨k, fun _ => 0, fun _ => 0⟩ (by exact hk1) (by show k ≤ 2048; omega)) (h := ?_)
    rintro v Bs ⟨rfl, rfl⟩
    rw [hf2]
    refine go_ ?_
    rw [hbt]
    exact s_ret1 (rs := [.tmp 4]) Try.func8 rfl (by intro j; refine RVS.tmp _ rfl ?_; exact RVS.nil) (⟨rfl, rfl⟩) (by repeat (first | exact Ent.nil | refine Ent.per (by repeat (first | with_reducible exact Sel.here | with_reducible apply Sel.there)) ?_ | refine Ent.cons (by repeat (first | with_reducible exact Sel.here | with_reducible apply Sel.there)) ?_))
end Go.Proofs.Ytgbbcpfnmkeijaa
