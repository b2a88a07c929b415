/- drive: Corrupt, of a disk of which nothing of the sector is cached. -/
import Derived.Test.YtgbbcpfnmkeijaaGreatGrtQ
import Derived.Test.YtgbbcpfnmkeijaaGreatCamAQ
import Derived.Test.YtgbbcpfnmkeijaaGreatGrtEA
import Derived.Test.YtgbbcpfnmkeijaaGreatGrtAV
import Derived.Test.YtgbbcpfnmkeijaaGreatGrtEG
import Derived.Test.YtgbbcpfnmkeijaaGreatGrtEH
import Derived.Test.YtgbbcpfnmkeijaaGreatGrtBJ
import Derived.Test.YtgbbcpfnmkeijaaGreatGrtEM
namespace Go.Proofs.YtgbbcpfnmkeijaaGreat
open Go.Cam
set_option maxRecDepth 100000
/-- a byte is turned -/
def Dr.turn (σ : Dr) (s i m : Nat) : Dr := { σ with sure := fun q => if q = s then (σ.sure s).set i ((σ.sure s).getD i 0 ^^^ m) else σ.sure q }
theorem Dr.turn_sec {σ : Dr} {s i m : Nat} (h : Sec (σ.sure s)) (hi : i < 256) (hm : m < 256) : Sec ((σ.sure s).set i ((σ.sure s).getD i 0 ^^^ m)) := by
  refine ⟨by rw [List.length_set]; exact h.1, fun c hc => ?_⟩
  rcases List.mem_or_eq_of_mem_set hc with hc | rfl
  · exact h.2 c hc
  · refine Nat.xor_lt_two_pow (n := 8) ?_ hm
    rw [List.getD_eq_getElem?_getD, List.getElem?_eq_getElem (by rw [h.1]; exact hi)]
    exact h.2 _ (List.getElem_mem _)
theorem DrOk.turn {σ : Dr} {x : DrW} (h : DrOk σ x) {s i m : Nat} (hs : s < σ.n) (hi : i < 256) (hm : m < 256) : DrOk (σ.turn s i m) x :=
  { n1 := h.n1, n2 := h.n2, nd := h.nd, ne := h.ne, em := h.em, rg := h.rg, ss := fun q hq => by
      show Sec (if q = s then _ else _)
      by_cases e : q = s
      · rw [if_pos e]; exact Dr.turn_sec (h.ss s hs) hi hm
      · rw [if_neg e]; exact h.ss q hq
    cs := h.cs, cl := h.cl, f1 := h.f1, f2 := h.f2 }
theorem turn_row {l : List Nat} {i c : Nat} (hi : i < l.length) : (bcl l).take i ++ [.int .u8 c] ++ (bcl l).drop (i + 1) = bcl (l.set i c) := by
  unfold bcl
  rw [List.set_eq_take_append_cons_drop, if_pos hi, List.map_append, List.map_cons, List.map_take, List.map_drop, List.append_assoc]; rfl
set_option maxHeartbeats 4000000 in
theorem dcorrupt_c (b : Nat) (σ : Dr) (s i m : Nat) (hs : s < σ.n) (hi : i < 256) (hm : m < 256) (hc : σ.cached s = []) : Ctr Tryz.prog 19 [.pointer (some ⟨b, 0, none⟩), .int .i64 s, .int .i64 i, .int .i64 m] [DrA b σ]
    (fun v Bs => v = .int .i64 0 ∧ Bs = [DrA b (σ.turn s i m)]) := by
  refine s_enter 71 [(0, _), (1, _), (2, _), (3, _)] (fun F => [_, F]) Tryz.func19 fun F => ?_
  refine s_opn (by repeat (first | with_reducible exact Sel.here | with_reducible apply Sel.there)) fun x hx => ?_
  unfold Dr.parts
  refine s_nrm ?_
  refine go_ ?_
  refine s_call (sp := (by repeat (first | exact Split.nil | apply Split.perx (by repeat (first | with_reducible exact Sel.here | with_reducible apply Sel.there)) (by infer_instance) | apply Split.cons (by repeat (first | with_reducible exact Sel.here | with_reducible apply Sel.there))))) (hs := is_c b σ x s) (h := ?_)
  rintro v Bs ⟨rfl, rfl⟩
  rw [show decide (0 ≤ (s : Int) ∧ (s : Int) < σ.n) = true from decide_eq_true (by omega)]
  have hsec := hx.ss s hs
  have hbc : (bcl (σ.sure s))[0 + i * 1]? = some (.int .u8 ((σ.sure s).getD i 0 : Nat)) := by
    rw [Nat.zero_add, Nat.mul_one]; unfold bcl; rw [List.getElem?_map, List.getD_eq_getElem?_getD, List.getElem?_eq_getElem (by rw [hsec.1]; exact hi)]; rfl
  have hlt : (σ.sure s).getD i 0 < 256 := by
    rw [List.getD_eq_getElem?_getD, List.getElem?_eq_getElem (by rw [hsec.1]; exact hi)]; exact hsec.2 _ (List.getElem_mem _)
  refine go_ ?_
  rw [show decide ((i : Int) < 0) = false from decide_eq_false (by omega)]
  refine go_ ?_
  rw [show decide ((i : Int) ≥ 256) = false from decide_eq_false (by omega)]
  refine go_ ?_
  rw [show decide ((m : Int) < 0) = false from decide_eq_false (by omega)]
  refine go_ ?_
  rw [show decide ((m : Int) > 255) = false from decide_eq_false (by omega)]
  refine go_ ?_
  refine s_front (a := SA (some 120) 256 (.slice x.a σ.n x.c) σ.n (fun i => bcl (σ.sure i))) (by repeat (first | with_reducible exact Sel.here | with_reducible apply Sel.there)) ?_
  refine s_drawN 0 [.q 0, .q 1, .q 2, .q 3, .q 4, .q 5, .q 6, .q 7, .q 8, .q 9, .q 10, .q 11, .q 12, .q 13, .r, .s 14] ?_
  refine do_ ?_
  refine d_look rfl (lk_ixe (q := i) (i := s) (n := σ.n) (sz := 256) (v := .slice x.a σ.n x.c) (fo := 0)) ?_
  refine do_ ?_
  refine d_look rfl (lk_lde (i := s) (n := σ.n) (sz := 256) (v := .slice x.a σ.n x.c) (hv := hbc)) ?_
  refine do_ ?_
  rw [wrap_u8 m, Nat.mod_eq_of_lt hm, xor_u8 ((σ.sure s).getD i 0) m rfl rfl hlt hm]
  refine do_ ?_
  refine d_look rfl (lk_ixe (q := i) (i := s) (n := σ.n) (sz := 256) (v := .slice x.a σ.n x.c) (fo := 0)) ?_
  refine do_ ?_
  refine d_rel 1 ?_
  refine d_nrm ?_
  refine d_stepU rfl (st_ste (i := s) (fo := 0 + i * 1) (vs := [.int .u8 ((σ.sure s).getD i 0 ^^^ m : Nat)]) (m' := 1) (by repeat (first | with_reducible exact Sel.here | with_reducible apply Sel.there)) (hf := by omega)) ?_
  rintro v Bs rfl
  refine do_ ?_
  refine go_ ?_
  have hk : (s : Int) ∉ x.ks := fun h => hx.ne _ h hc
  have hv : (Dr.mg x s).getD (.slice none 0 0) = .slice none 0 0 := by unfold Dr.mg; rw [if_neg hk]; rfl
  refine s_look (v := .slice none 0 0) (by rw [← hv]; exact lk_lkp (b := false)) ?_
  refine s_open (SA.cg (fun q => bcl ((σ.turn s i m).sure q)) fun q hq => ?_) ?_
  · unfold rput Dr.turn
    dsimp only
    by_cases e : q = s
    · subst e
      rw [if_pos rfl, if_pos rfl, Nat.zero_add, Nat.mul_one]
      exact turn_row (by rw [hsec.1]; exact hi)
    · rw [if_neg e, if_neg e]
  refine go_ ?_
  refine s_loop (fun _ : Unit => [(50, .int .i64 0), (51, .int .i64 0)]) (fun _ => [SA (some 120) 256 (.slice x.a σ.n x.c) σ.n (fun q => bcl ((σ.turn s i m).sure q)), Dr.box b σ x, MG x.m (Dr.mg x), All x.ks (σ.F x), F]) (fun _ => True) (fun _ => 0) () trivial (by repeat (first | exact Ent.nil | refine Ent.per (by repeat (first | with_reducible exact Sel.here | with_reducible apply Sel.there)) ?_ | refine Ent.cons (by repeat (first | with_reducible exact Sel.here | with_reducible apply Sel.there)) ?_)) ?_
  rintro _ _ _
  refine go_ ?_
  refine s_front (a := Dr.box b σ x) (by repeat (first | with_reducible exact Sel.here | with_reducible apply Sel.there)) (s_open (B := Dr.box b (σ.turn s i m) x) (fun _ _ q => q) ?_)
  refine s_front (a := All x.ks (σ.F x)) (by repeat (first | with_reducible exact Sel.here | with_reducible apply Sel.there)) (s_open (B := All x.ks ((σ.turn s i m).F x)) (fun _ _ q => q) ?_)
  refine s_front (a := SA (some 120) 256 (.slice x.a σ.n x.c) σ.n (fun q => bcl ((σ.turn s i m).sure q))) (by repeat (first | with_reducible exact Sel.here | with_reducible apply Sel.there)) (s_open (B := SA (some 120) 256 (.slice x.a (σ.turn s i m).n x.c) (σ.turn s i m).n (fun q => bcl ((σ.turn s i m).sure q))) (fun _ _ q => q) ?_)
  refine s_cls (φ := DrOk (σ.turn s i m)) (X := Dr.parts b (σ.turn s i m)) x (hx.turn hs hi hm) (by repeat (first | exact Split.nil | apply Split.perx (by repeat (first | with_reducible exact Sel.here | with_reducible apply Sel.there)) (by infer_instance) | apply Split.cons (by repeat (first | with_reducible exact Sel.here | with_reducible apply Sel.there)))) ?_
  exact s_ret1 (rs := [.tmp 8]) Tryz.func19 rfl (by intro j; refine RVS.tmp _ rfl ?_; exact RVS.nil) (⟨rfl, rfl⟩) (by repeat (first | exact Ent.nil | refine Ent.per (by repeat (first | with_reducible exact Sel.here | with_reducible apply Sel.there)) ?_ | refine Ent.cons (by repeat (first | with_reducible exact Sel.here | with_reducible apply Sel.there)) ?_))
end Go.Proofs.YtgbbcpfnmkeijaaGreat
/- The plain law of a commit: what the disk shows behind it. -/
namespace Go.Proofs.YtgbbcpfnmkeijaaGreat
open Go.Cam
set_option maxRecDepth 100000
theorem Dr.on_puts : ∀ (ws : List (Nat × List Nat)) {σ : Dr}, σ.on → (σ.puts ws).2 = true ∧ (σ.puts ws).1.on ∧ (σ.puts ws).1.n = σ.n ∧ (σ.puts ws).1.lastS = updsS σ.lastS ws ∧ (σ.puts ws).1.steps = σ.steps + ws.length
  | [], σ, h => ⟨rfl, h, rfl, rfl, rfl⟩
  | x :: ws, σ, h => by
    obtain ⟨h1, h2, h3, h4, h5⟩ := Dr.on_write h x.1 x.2
    obtain ⟨g1, g2, g3, g4, g5⟩ := Dr.on_puts ws h2
    rw [Dr.puts, h1, if_pos rfl]
    exact ⟨g1, g2, g3.trans h3, by rw [updsS, ← h4]; exact g4, by
      show ((σ.write x.1 x.2).1.puts ws).1.steps = _
      rw [g5, h5]; simp; omega⟩
theorem Dr.flush_cached {σ : Dr} (h : σ.flush.2 = true) (k : Int) : σ.flush.1.cached k = [] := by
  unfold Dr.flush at *
  split at h
  · rename_i h2; rw [if_pos h2]
  · cases h
theorem Dr.writes_cached : ∀ (ws : List (Nat × List Nat)) {σ : Dr}, (σ.writes ws).2 = true → ∀ k, (σ.writes ws).1.cached k = []
  | [], σ, h => Dr.flush_cached h
  | x :: ws, σ, h => by
    rw [Dr.writes] at h ⊢
    split at h
    · rename_i h2; rw [if_pos h2]; exact Dr.writes_cached ws h
    · cases h
theorem Dr.flip_cached {σ : Dr} {ct : Ct} {g : Nat} (h : (σ.flip ct g).2 = true) (k : Int) : (σ.flip ct g).1.cached k = [] := by
  unfold Dr.flip at *
  split at h
  · rename_i h2; rw [if_pos h2]; exact Dr.writes_cached _ h k
  · cases h
theorem putsW_mem {σ : Ct} {g : Int → Option OB} {gn : Nat} : ∀ {ks : List Int} {x : Nat × List Nat}, x ∈ putsW σ g gn ks → ∃ k ∈ ks, ∃ o, g k = some o ∧ σ.now k.toNat ≠ 0 ∧ x = (k.toNat, sealB ⟨5, k.toNat, o.l.length, 0, gn⟩ o.l)
  | k :: ks, x, h => by
    rw [putsW] at h
    rcases List.mem_append.1 h with h | h
    · cases hg : g k with
      | none => rw [hg] at h; cases h
      | some o =>
        rw [hg] at h
        dsimp only at h
        split at h
        · cases h
        · rename_i h0
          rw [List.mem_singleton] at h
          exact ⟨k, List.mem_cons_self .., o, hg, h0, h⟩
    · obtain ⟨k', h1, h2⟩ := putsW_mem h
      exact ⟨k', List.mem_cons_of_mem _ h1, h2⟩
/-- counts, as they are read again -/
theorem body_at (σ : Ct) (i : Nat) (hw : ∀ a, σ.now a ≤ 65535) : ∀ m k, k < m → numB (((σ.bodyN i m).drop (2 * k)).take 2) = σ.get (i * 118 + k)
  | m + 1, k, hk => by
    have hl := σ.bodyN_len i m
    rw [Ct.bodyN]
    by_cases e : k < m
    · rw [List.drop_append_of_le_length (by omega), List.take_append_of_le_length (by rw [List.length_drop]; omega)]
      exact body_at σ i hw m k e
    · have : k = m := by omega
      subst this
      rw [List.drop_left' hl, List.take_of_length_le (by rw [putN_len]; omega), numB_putN]
      unfold Ct.get
      split
      · have := hw (i * 118 + k); omega
      · decide
theorem ctAt_body (σ : Ct) (hw : ∀ a, σ.now a ≤ 65535) (a : Nat) : ctAt (fun i => σ.bodyN i 118) a = σ.get a := by
  unfold ctAt ctVal
  rw [body_at σ _ hw 118 _ (Nat.mod_lt _ (by decide))]
  congr 1; omega
structure Cmt (σ : Ct) (g : Int → Option OB) : Prop where
  n1 : 32 ≤ σ.n
  n2 : σ.n ≤ 2048
  bm : BmOk σ g
  lo : ∀ k, g k ≠ none → (firstN σ.n : Int) ≤ k
  w : ∀ a, σ.now a ≤ 65535
  f : ∀ a, σ.now a ≠ 0 → firstN σ.n ≤ a
theorem Cmt.keys {σ : Ct} {g : Int → Option OB} (h : Cmt σ g) (k : Int) : k ∈ keysN (bmap g) σ.n ↔ g k ≠ none := (keysN_mem (fun k hk => h.bm.k k (bmap_none.1 hk)) k).trans bmap_none
theorem Cmt.at_ {σ : Ct} {g : Int → Option OB} (h : Cmt σ g) {gn : Nat} {x : Nat × List Nat} (hx : x ∈ putsW σ g gn (keysN (bmap g) σ.n)) : firstN σ.n ≤ x.1 := by
  obtain ⟨k, h1, o, h2, h3, rfl⟩ := putsW_mem hx
  have := h.lo k (by rw [h2]; simp)
  dsimp only; omega
theorem area_lt (n g i : Nat) (hi : i < areaN n) : 2 ≤ areaAtN n g + i ∧ areaAtN n g + i < firstN n := by
  have e3 : g % 2 * areaN n ≤ 1 * areaN n := Nat.mul_le_mul_right _ (by omega)
  unfold areaAtN firstN; omega
theorem fmt_sup {σ : Dr} (h : σ.on) (h1 : 32 ≤ σ.n) (h2 : σ.n ≤ 2048) : IsSup σ.n (1 % 2) (σ.fmt.lastS (1 % 2)) (some 1) := by
  obtain ⟨a1, a2, a3, a4, a5⟩ := Dr.on_writes none2 h
  obtain ⟨b1, b2, b3, b4, b5⟩ := Dr.on_flip a2 (Ct.new σ.n) 1
  have e : σ.fmt.lastS = _ := b4
  rw [e]
  unfold updS
  rw [if_pos rfl]
  exact ⟨⟨Nat.le_refl _, by omega, h1, h2⟩, rfl⟩
theorem keysN_len (gm : Int → Option Value) (N : Nat) : (keysN gm N).length ≤ N := by
  unfold keysN
  refine Nat.le_trans (List.length_filter_le _ _) ?_
  simp
end Go.Proofs.YtgbbcpfnmkeijaaGreat
/- The plain law of a commit of nodes and bytes. -/
namespace Go.Proofs.YtgbbcpfnmkeijaaGreat
open Go.Cam
set_option maxRecDepth 100000
theorem keyK_none {G : Int → Option Bk} {k : Int} : ((G k).map fun _ => (.bool true : Value)) ≠ none ↔ G k ≠ none := by
  cases G k <;> simp
theorem Dr.on_commitK {σd : Dr} (h : σd.on) (σ : Ct) (G : Int → Option Bk) (gn : Nat) : (σd.commitK σ G gn).2 = true ∧ (σd.commitK σ G gn).1.on ∧ (σd.commitK σ G gn).1.n = σd.n ∧
    (σd.commitK σ G gn).1.lastS = updS (updsS (updsS σd.lastS (putsK σ G gn (keysK G σ.n))) (areaW σ σ.n gn (areaN σ.n))) (gn % 2) (sealB ⟨1, gn % 2, 0, 0, gn⟩ (supB σ.n 8)) ∧
    (σd.commitK σ G gn).1.steps = σd.steps + (putsK σ G gn (keysK G σ.n)).length + areaN σ.n + 3 ∧ ∀ k, (σd.commitK σ G gn).1.cached k = [] := by
  obtain ⟨a1, a2, a3, a4, a5⟩ := Dr.on_puts (putsK σ G gn (keysK G σ.n)) h
  obtain ⟨b1, b2, b3, b4, b5⟩ := Dr.on_flip a2 σ gn
  have e : σd.commitK σ G gn = (σd.puts (putsK σ G gn (keysK G σ.n))).1.flip σ gn := by unfold Dr.commitK; rw [a1, if_pos rfl]
  rw [e]
  exact ⟨b1, b2, b3.trans a3, by rw [b4, a4], by rw [b5, a5], fun k => Dr.flip_cached b1 k⟩
theorem putsK_mem {σ : Ct} {G : Int → Option Bk} {gn : Nat} : ∀ {ks : List Int} {x : Nat × List Nat}, x ∈ putsK σ G gn ks → ∃ k ∈ ks, ∃ o, G k = some o ∧ σ.now k.toNat ≠ 0 ∧ x = (k.toNat, o.blk k.toNat gn)
  | k :: ks, x, h => by
    rw [putsK] at h
    rcases List.mem_append.1 h with h | h
    · cases hg : G k with
      | none => rw [hg] at h; cases h
      | some o =>
        rw [hg] at h
        dsimp only at h
        split at h
        · cases h
        · rename_i h0
          rw [List.mem_singleton] at h
          exact ⟨k, List.mem_cons_self .., o, hg, h0, h⟩
    · obtain ⟨k', h1, h2⟩ := putsK_mem h
      exact ⟨k', List.mem_cons_of_mem _ h1, h2⟩
/-- what is committed of a block -/
theorem updsS_putsK {σ : Ct} {G : Int → Option Bk} {gn : Nat} (f : Nat → List Nat) {k : Int} {o : Bk} (hg : G k = some o) (h0 : σ.now k.toNat ≠ 0) : ∀ {ks : List Int}, (∀ q ∈ ks, 0 ≤ q) → ks.Pairwise (· < ·) → k ∈ ks → ∀ f, updsS f (putsK σ G gn ks) k.toNat = o.blk k.toNat gn
  | q :: ks, hp, hs, hk, f => by
    obtain ⟨s1, s2⟩ := List.pairwise_cons.1 hs
    rw [putsK, updsS_app]
    rcases List.mem_cons.1 hk with rfl | hk
    · rw [hg]
      dsimp only
      rw [if_neg h0, updsS_other _ _ _ fun x hx => ?_]
      · show updS f k.toNat _ k.toNat = _
        unfold updS; rw [if_pos rfl]
      · obtain ⟨k', h1, o', h2, h3, rfl⟩ := putsK_mem hx
        have := s1 k' h1
        have := hp k (List.mem_cons_self ..)
        dsimp only; omega
    · exact updsS_putsK f hg h0 (fun q hq => hp q (List.mem_cons_of_mem _ hq)) s2 hk _
structure CmtK (σ : Ct) (G : Int → Option Bk) : Prop where
  n1 : 32 ≤ σ.n
  n2 : σ.n ≤ 2048
  bm : BkOk σ G
  lo : ∀ k, G k ≠ none → (firstN σ.n : Int) ≤ k
  w : ∀ a, σ.now a ≤ 65535
  f : ∀ a, σ.now a ≠ 0 → firstN σ.n ≤ a
theorem CmtK.keys {σ : Ct} {G : Int → Option Bk} (h : CmtK σ G) (k : Int) : k ∈ keysK G σ.n ↔ G k ≠ none := (keysN_mem (fun k hk => h.bm.k k (keyK_none.1 hk)) k).trans keyK_none
theorem CmtK.at_ {σ : Ct} {G : Int → Option Bk} (h : CmtK σ G) {gn : Nat} {x : Nat × List Nat} (hx : x ∈ putsK σ G gn (keysK G σ.n)) : firstN σ.n ≤ x.1 := by
  obtain ⟨k, h1, o, h2, h3, rfl⟩ := putsK_mem hx
  have := h.lo k (by rw [h2]; simp)
  dsimp only; omega
/-- behind a commit the disk is mounted with the counts of then -/
theorem commitK_mnt {σd : Dr} (hon : σd.on) {σ : Ct} {G : Int → Option Bk} (h : CmtK σ G) (hn : σd.n = σ.n) (gn : Nat) (hg1 : 1 ≤ gn) (hg2 : gn + 1 ≤ 1099511627775) (hs : IsSup σ.n (gn % 2) (σd.lastS (gn % 2)) (some gn)) :
    Mnt (σd.commitK σ G (gn + 1)).1.lastS σ.n (gn + 1) (fun i => σ.bodyN i 118) ∧ IsSup σ.n ((gn + 1) % 2) ((σd.commitK σ G (gn + 1)).1.lastS ((gn + 1) % 2)) (some (gn + 1)) ∧
    (∀ k o, G k = some o → σ.now k.toNat ≠ 0 → (σd.commitK σ G (gn + 1)).1.lastS k.toNat = o.blk k.toNat (gn + 1)) ∧
    (∀ q, firstN σ.n ≤ q → (G q = none ∨ σ.now q = 0) → (σd.commitK σ G (gn + 1)).1.lastS q = σd.lastS q) := by
  obtain ⟨_, _, _, e, _, _⟩ := Dr.on_commitK hon σ G (gn + 1)
  rw [e]
  have hf2 : 2 ≤ firstN σ.n := by unfold firstN; omega
  have h0 : ∀ f q, q < 2 → updsS (updsS f (putsK σ G (gn + 1) (keysK G σ.n))) (areaW σ σ.n (gn + 1) (areaN σ.n)) q = f q := fun f q hq => by
    rw [updsS_other _ _ _ fun x hx => (by have := areaW_at hx; omega), updsS_other _ _ _ fun x hx => (by have := h.at_ hx; omega)]
  have hsup : updS (updsS (updsS σd.lastS (putsK σ G (gn + 1) (keysK G σ.n))) (areaW σ σ.n (gn + 1) (areaN σ.n))) ((gn + 1) % 2) (sealB ⟨1, (gn + 1) % 2, 0, 0, gn + 1⟩ (supB σ.n 8)) ((gn + 1) % 2) = sealB ⟨1, (gn + 1) % 2, 0, 0, gn + 1⟩ (supB σ.n 8) := by unfold updS; rw [if_pos rfl]
  have hold : updS (updsS (updsS σd.lastS (putsK σ G (gn + 1) (keysK G σ.n))) (areaW σ σ.n (gn + 1) (areaN σ.n))) ((gn + 1) % 2) (sealB ⟨1, (gn + 1) % 2, 0, 0, gn + 1⟩ (supB σ.n 8)) (gn % 2) = σd.lastS (gn % 2) := by
    unfold updS; rw [if_neg (by omega), h0 _ _ (by omega)]
  have hso : supOk (gn + 1) σ.n := ⟨by omega, hg2, h.n1, h.n2⟩
  have hbig : ∀ q, firstN σ.n ≤ q → updS (updsS (updsS σd.lastS (putsK σ G (gn + 1) (keysK G σ.n))) (areaW σ σ.n (gn + 1) (areaN σ.n))) ((gn + 1) % 2) (sealB ⟨1, (gn + 1) % 2, 0, 0, gn + 1⟩ (supB σ.n 8)) q = updsS σd.lastS (putsK σ G (gn + 1) (keysK G σ.n)) q := fun q hq => by
    unfold updS
    rw [if_neg (by omega), updsS_other _ _ _ fun x hx => ?_]
    obtain ⟨i, hi, rfl⟩ := List.mem_map.1 hx
    have := area_lt σ.n (gn + 1) i (List.mem_range.1 hi)
    dsimp only; omega
  refine ⟨⟨⟨(gn + 1) % 2, ?_⟩, fun i hi => ?_, fun i hi => by rw [σ.bodyN_len], fun i => σ.bodyN_bys i 118, fun a _ hne => ?_⟩, ?_, fun k o hk hk0 => ?_, fun q hq hg => ?_⟩
  · rcases Nat.mod_two_eq_zero_or_one gn with hm | hm
    · have hm2 : (gn + 1) % 2 = 1 := by omega
      rw [hm] at hold hs
      rw [hm2] at hsup hold ⊢
      exact .inr (.inr (.inl ⟨gn, by omega, by rw [hold]; exact hs, by rw [hsup]; exact ⟨hso, rfl⟩, rfl⟩))
    · have hm2 : (gn + 1) % 2 = 0 := by omega
      rw [hm] at hold hs
      rw [hm2] at hsup hold ⊢
      exact .inr (.inr (.inr ⟨gn, by omega, by rw [hsup]; exact ⟨hso, rfl⟩, by rw [hold]; exact hs, rfl⟩))
  · have := area_lt σ.n (gn + 1) i hi
    unfold updS
    rw [if_neg (by omega)]
    exact updsS_area _ σ σ.n (gn + 1) (areaN σ.n) i hi
  · rw [ctAt_body σ h.w] at hne
    unfold Ct.get at hne
    split at hne
    · rename_i h3; exact ⟨h.f a hne, h3⟩
    · exact absurd rfl hne
  · rw [hsup]; exact ⟨hso, rfl⟩
  · have h3 := h.lo k (by rw [hk]; simp)
    rw [hbig _ (by omega)]
    exact updsS_putsK σd.lastS hk hk0 (fun q hq => by have := (h.bm.k q ((h.keys q).1 hq)).1; exact this) (keysN_lt _ _) ((h.keys k).2 (by rw [hk]; simp)) _
  · rw [hbig q hq, updsS_other]
    intro x hx
    obtain ⟨k, h1, o, h2, h4, rfl⟩ := putsK_mem hx
    have h5 := (h.bm.k k (by rw [h2]; simp)).1
    intro e
    have e : k.toNat = q := e
    rcases hg with hg | hg
    · rw [← e, Int.toNat_of_nonneg h5, h2] at hg; cases hg
    · rw [← e] at hg; exact h4 hg
theorem putsK_len (σ : Ct) (G : Int → Option Bk) (gn : Nat) : ∀ ks : List Int, (putsK σ G gn ks).length ≤ ks.length
  | [] => Nat.le_refl _
  | q :: ks => by
    have ih := putsK_len σ G gn ks
    rw [putsK, List.length_append, List.length_cons]
    cases G q with
    | none => dsimp only; rw [List.length_nil]; omega
    | some o =>
      dsimp only
      split
      · rw [List.length_nil]; omega
      · rw [List.length_singleton]; omega
end Go.Proofs.YtgbbcpfnmkeijaaGreat
/- The plain law: a tree's items are got, whether its nodes are laid down or committed. -/
namespace Go.Proofs.YtgbbcpfnmkeijaaGreat
open Go.Cam
set_option maxRecDepth 100000
/-- nodes that are laid down are read -/
def Agr (rd : Int → Except Nat Node) (σ : Ct) (g : Int → Option (Node × Plc)) : Prop := ∀ k x u, Held σ g k x u → rd k = .ok x
theorem leafX_tr {rd : Int → Except Nat Node} {σ : Ct} {g : Int → Option (Node × Plc)} (ha : Agr rd σ g) (key : Key) : ∀ h k, Tr σ g h k → leafX rd key h (nd g k) = .ok (nd g (leafN g key h k))
  | 0, k, _ => rfl
  | h + 1, k, t => by
    have ht := t.2.2.2 _ (t.seek key)
    obtain ⟨u, hu⟩ := ht.held
    have hr := ha _ _ _ hu
    have e : atR rd (kidX (nd g k) key) (h : Nat) = .ok (nd g (kidN g key k)) := by
      unfold atR
      rw [hr]
      exact if_neg fun q => q.2 ht.lv
    rw [leafX, e]
    exact leafX_tr ha key h _ ht
theorem leafR_tr {rd : Int → Except Nat Node} {σ : Ct} {g : Int → Option (Node × Plc)} (ha : Agr rd σ g) (key : Key) {h : Nat} {k : Int} (t : Tr σ g h k) : leafR rd key k = .ok (nd g (leafN g key h k)) := by
  obtain ⟨u, hu⟩ := t.held
  have e : atR rd k (-1) = .ok (nd g k) := by
    unfold atR
    rw [ha _ _ _ hu]
    exact if_neg fun q => by omega
  unfold leafR
  rw [e]
  have h1 := leafX_tr ha key h k t
  rw [show h = (nd g k).level.toNat by rw [t.lv]; rfl] at h1
  rw [show leafN g key h k = leafN g key (nd g k).level.toNat k by rw [t.lv]; rfl]
  exact h1
theorem getR_tree {rd : Int → Except Nat Node} {σ : Ct} {g : Int → Option (Node × Plc)} (ha : Agr rd σ g) {root : Int} {l : List Item} (ht : TreeOf σ g root l) (hr : Ris l) (key : Key) : getR rd key root = match getT l key with
    | some x => .ok x.val
    | none => .error 10 := by
  rcases ht with ⟨h1, h2⟩ | ⟨_, h1, h, hh, t, w, e⟩
  · unfold getR; rw [if_pos h2, h1]; rfl
  · have hp := getT_tree g key h root w (by rw [e]; exact hr)
    rw [e] at hp
    unfold getR
    rw [if_neg h1, leafR_tr ha key t, hp]
    dsimp only
    cases hs : seekHit (nd g (leafN g key h root)) key with
    | true => rw [if_pos rfl, if_pos rfl]
    | false => rw [if_neg (by decide), if_neg (by decide)]
/-- what is known of the blocks of a tree that grew -/
structure Inv (σ : Ct) (g : Int → Option (Node × Plc)) : Prop where
  gk : ∀ k x u, g k = some (x, u) → 8 ≤ k ∧ k < 256 ∧ nodeOk x = true ∧ ∀ y ∈ x.items, Bys y.val
  gc : ∀ k, σ.now k ≠ 0 → g (k : Int) ≠ none
  gw : ∀ a, σ.now a ≤ 65535
theorem Inv.new : Inv (Ct.new (Dr.new 256).n) (fun _ => none) := ⟨fun _ _ _ e => (nomatch e), fun _ h => absurd rfl h, fun _ => Nat.zero_le _⟩
theorem Inv.lay {σ : Ct} {g : Int → Option (Node × Plc)} (h : Inv σ g) {i : Nat} {x : Node} (u : Plc) (hx : nodeOk x = true ∧ ∀ y ∈ x.items, Bys y.val) (h1 : 8 ≤ i) (h2 : i < 256) : Inv { σ with now := nset σ.now i 1 } (gset g i (x, u)) := by
  refine ⟨fun k y v e => ?_, fun k hk => ?_, fun a => ?_⟩
  · unfold gset at e
    by_cases hq : k = (i : Int)
    · rw [if_pos hq] at e; cases e; exact ⟨by omega, by omega, hx⟩
    · rw [if_neg hq] at e; exact h.gk k y v e
  · unfold gset
    by_cases hq : (k : Int) = (i : Int)
    · rw [if_pos hq]; simp
    · rw [if_neg hq]
      refine h.gc k fun e => hk ?_
      show nset σ.now i 1 k = 0
      unfold nset; rw [if_neg (by omega)]; exact e
  · show nset σ.now i 1 a ≤ _
    unfold nset
    split
    · decide
    · exact h.gw a
abbrev bkG (g : Int → Option (Node × Plc)) : Int → Option Bk := fun k => (g k).map fun q => .nd q.1
theorem Inv.bk {σ : Ct} {g : Int → Option (Node × Plc)} (h : Inv σ g) (hn : σ.n = 256) : BkOk σ (bkG g) := by
  refine ⟨fun k hk => ?_, fun k o e => ?_⟩
  · cases hg : g k with
    | none => exact absurd (by show (g k).map _ = none; rw [hg]; rfl) hk
    | some y => obtain ⟨x, u⟩ := y; have := h.gk k x u hg; omega
  · have e : (g k).map (fun q => Bk.nd q.1) = some o := e
    cases hg : g k with
    | none => rw [hg] at e; cases e
    | some y => obtain ⟨x, u⟩ := y; rw [hg] at e; cases e; exact (h.gk k x u hg).2.2
theorem Inv.cmt {σ : Ct} {g : Int → Option (Node × Plc)} (h : Inv σ g) (hn : σ.n = 256) : CmtK σ (bkG g) := by
  have e : firstN σ.n = 8 := by rw [hn]; rfl
  refine ⟨by omega, by omega, h.bk hn, fun k hk => ?_, h.gw, fun a ha => ?_⟩
  · rw [e]
    cases hg : g k with
    | none => exact absurd (by show (g k).map _ = none; rw [hg]; rfl) hk
    | some y => obtain ⟨x, u⟩ := y; have := h.gk k x u hg; omega
  · rw [e]
    cases hg : g (a : Int) with
    | none => exact absurd hg (h.gc a ha)
    | some y => obtain ⟨x, u⟩ := y; have := h.gk _ x u hg; omega
def dkOf (g : Int → Option (Node × Plc)) (k : Nat) : DK := match g (k : Int) with | some q => .nd q.1 | none => .oth
theorem agr_disk {σ σ' : Ct} {g : Int → Option (Node × Plc)} (e1 : σ'.n = σ.n) (e2 : σ'.now = σ.now) : Agr (rdK σ' (fun _ => none) (dkOf g)) σ g := fun k x u h => by
  unfold rdK
  rw [if_pos ⟨h.hk.1, by rw [e1]; exact h.hk.2, by rw [e2]; exact h.hc⟩]
  have : dkOf g k.toNat = .nd x := by unfold dkOf; rw [Int.toNat_of_nonneg h.hk.1, h.hg]
  rw [this]
theorem Inv.disk {σ : Ct} {g : Int → Option (Node × Plc)} (h : Inv σ g) (hn : σ.n = 256) {σd : Dr} (hon : σd.on) (hd : σd.n = 256) (hs : σd.steps < 900000000) (gn : Nat) (hg1 : 1 ≤ gn) (hg2 : gn + 1 ≤ 1099511627775) (hsup : IsSup σ.n (gn % 2) (σd.lastS (gn % 2)) (some gn)) :
    DskOk { σ with done := σ.now } (fun _ => none) (σd.commitK σ (bkG g) (gn + 1)).1 (dkOf g) := by
  obtain ⟨a1, a2, a3, a4, a5, a6⟩ := Dr.on_commitK hon σ (bkG g) (gn + 1)
  obtain ⟨_, _, b3, _⟩ := commitK_mnt hon (h.cmt hn) (by rw [hd, hn]) gn hg1 hg2 hsup
  have hl : (putsK σ (bkG g) (gn + 1) (keysK (bkG g) σ.n)).length ≤ 256 := by
    have h1 : ∀ ks : List Int, (putsK σ (bkG g) (gn + 1) ks).length ≤ ks.length := fun ks => putsK_len σ (bkG g) (gn + 1) ks
    have h2 := keysN_len (fun k => ((bkG g) k).map fun _ => (.bool true : Value)) σ.n
    exact Nat.le_trans (h1 _) (by rw [← hn]; exact h2)
  refine ⟨by rw [a3, hd, ← hn], by show σ.n ≤ 2048; omega, a2.1, ?_, ⟨fun _ hk => absurd rfl hk, fun _ _ e => nomatch e⟩, fun k hk h0 _ => ?_⟩
  · rw [a5]
    have : areaN σ.n = 3 := by rw [hn]; rfl
    omega
  · have h0 : σ.now k ≠ 0 := h0
    cases hg : g (k : Int) with
    | none => exact absurd hg (h.gc k h0)
    | some y =>
      obtain ⟨x, u⟩ := y
      obtain ⟨_, _, c3, c4⟩ := h.gk _ x u hg
      refine .inl ⟨x, by unfold dkOf; rw [hg], c3, c4, gn + 1, hg2, ?_⟩
      have := b3 (k : Int) (.nd x) (by show (g (k : Int)).map _ = _; rw [hg]; rfl) (by rw [Int.toNat_natCast]; exact h0)
      rw [Int.toNat_natCast] at this
      exact this
end Go.Proofs.YtgbbcpfnmkeijaaGreat
/- FindRows. -/
namespace Go.Proofs.YtgbbcpfnmkeijaaGreat
open Go.Cam
set_option maxRecDepth 100000
theorem getT_self {l : List Item} (h : Ris l) {i : Nat} (hi : i < l.length) : getT l (l.getD i default).key = some (l.getD i default) := by
  conv => lhs; arg 1; rw [← List.take_append_drop i l, List.drop_eq_getElem_cons hi, ← getD_get hi]
  rw [getT_app_r fun y hy => by
    obtain ⟨j, hj1, hj2, rfl⟩ := mem_take_i hy
    exact ne_of_lt (h.get hj1 hi)]
  unfold getT
  rw [List.find?_cons, decide_eq_true rfl]
end Go.Proofs.YtgbbcpfnmkeijaaGreat
/- FindSame. -/
namespace Go.Proofs.YtgbbcpfnmkeijaaGreat
open Go.Cam
set_option maxRecDepth 100000
def gv (l : List Item) (k : Key) : List Nat := match getT l k with | some x => x.val | none => []
end Go.Proofs.YtgbbcpfnmkeijaaGreat
/- FindGets. -/
namespace Go.Proofs.YtgbbcpfnmkeijaaGreat
open Go.Cam
set_option maxRecDepth 100000
/-- a pool and its disk -/
def Pd.parts (p : Nat) (z : PoZ) (σ : Ct) (G : Int → Option Bk) (σd : Dr) (_ : Unit) : List HP := [PL p z σ G, DrA z.b σd]
abbrev Pd (p : Nat) (z : PoZ) (σ : Ct) (G : Int → Option Bk) (σd : Dr) : HP := EX (fun _ : Unit => True) (Pd.parts p z σ G σd)
theorem pd_nd (p : Nat) (z : PoZ) {σ : Ct} {G : Int → Option Bk} {σd : Dr} {D : Nat → DK} (h : DskOk σ G σd D) : NdC (Pd p z σ G σd) p (rdK σ G D) := fun k => by
  refine Ctr.post ((pnodeK_c p z σ G σd D h k).pre (Bs := [Pd p z σ G σd]) fun H M q => ?_) fun v Bs q => ?_
  · obtain ⟨_, _, hs⟩ := star_fst q
    exact hs
  · rcases q with ⟨x, u, h1, h2, h3, rfl⟩ | ⟨e, h1, h2, h3, rfl⟩
    · exact ⟨_, .inl ⟨x, u, h1, h2, h3, rfl⟩, fun H M q => star_monoL (fun H M q => EX.mk () trivial H M q) (star_mono (fun _ _ => id) (Sat.part (As := [PL p z σ G, DrA z.b σd]) (Fs := [Nd1 x u, Nd2 x u, Nd3 x u]) q))⟩
    · exact ⟨_, .inr ⟨e, h1, h2, h3, rfl⟩, fun H M q => star_monoL (fun H M q => EX.mk () trivial H M q) (Sat.part (As := [PL p z σ G, DrA z.b σd]) (Fs := []) q)⟩
/-- nodes alone as a pool of both -/
theorem s_poPL {P : Program} {f : FuncId} {n : Nat} {R : Value → HP} {K : List It} {s : List (Nat × Value)} {As Bs : List HP} {p : Nat} {z : PoZ} {σ : Ct} {g : Int → Option (Node × Plc)} (u : Sel (Po p z σ g) As Bs) (h : RunS P f n R K s (PL p z σ (bkG g) :: Bs)) : RunS P f n R K s As := .mk fun H M q => by
  have h0 := u.sat q
  refine h H M (star_monoL (fun H M hp => ?_) h0)
  obtain ⟨_, _, hs⟩ := hp
  have e : kmap (fun k => (g k).map fun q => (Bk.nd q.1, (⟨q.2, none, 0⟩ : Pc))) = gmap g := by
    funext k; show ((g k).map _).map _ = (g k).map _; cases g k <;> rfl
  refine ⟨fun k => (g k).map fun q => (Bk.nd q.1, ⟨q.2, none, 0⟩), fun k => by show (g k).map _ = ((g k).map _).map _; cases g k <;> rfl, ?_⟩
  unfold PL.parts
  rw [e]
  refine star_mono (fun H M hs => ?_) hs
  refine star_mono (fun H M hs => ?_) hs
  refine star_mono (fun H M hs => ?_) hs
  refine star_monoL (fun H M hn => ?_) hs
  intro k b q hk
  replace hk : (g k).map (fun q => (Bk.nd q.1, (⟨q.2, none, 0⟩ : Pc))) = some (b, q) := hk
  cases hg : g k with
  | none => rw [hg] at hk; cases hk
  | some y =>
    rw [hg] at hk; cases hk
    exact hn k y.1 y.2 hg
theorem s_pdP {P : Program} {f : FuncId} {n : Nat} {R : Value → HP} {K : List It} {s : List (Nat × Value)} {As Bs Rs : List HP} {p : Nat} {z : PoZ} {σ : Ct} {G : Int → Option Bk} {σd : Dr} (u1 : Sel (PL p z σ G) As Bs) (u2 : Sel (DrA z.b σd) Bs Rs) (h : RunS P f n R K s (Pd p z σ G σd :: Rs)) : RunS P f n R K s As :=
  s_cls (φ := fun _ : Unit => True) (X := Pd.parts p z σ G σd) () trivial (Split.cons u1 (Split.cons u2 Split.nil)) h
end Go.Proofs.YtgbbcpfnmkeijaaGreat
/- The plain law of a tree of which one block is spoilt. -/
namespace Go.Proofs.YtgbbcpfnmkeijaaGreat
open Go.Cam
set_option maxRecDepth 100000
/-- as good as the other one, or an error of the disk -/
def Le5 {α : Type} (a b : Except Nat α) : Prop := a = b ∨ a = .error 5
theorem Le5.refl {α : Type} (a : Except Nat α) : Le5 a a := .inl rfl
theorem le5_at {rd' rd : Int → Except Nat Node} (h : ∀ k, Le5 (rd' k) (rd k)) (k lv : Int) : Le5 (atR rd' k lv) (atR rd k lv) := by
  rcases h k with e | e
  · exact .inl (by unfold atR; rw [e])
  · exact .inr (by unfold atR; rw [e])
theorem le5_leafX {rd' rd : Int → Except Nat Node} (h : ∀ k, Le5 (rd' k) (rd k)) (key : Key) : ∀ n x, Le5 (leafX rd' key n x) (leafX rd key n x)
  | 0, _ => .inl rfl
  | n + 1, x => by
    rw [leafX, leafX]
    rcases le5_at h (kidX x key) (n : Nat) with e | e
    · rw [e]
      cases atR rd (kidX x key) (n : Nat) with
      | error e => exact .inl rfl
      | ok y => exact le5_leafX h key n y
    · rw [e]; exact .inr rfl
theorem le5_leafR {rd' rd : Int → Except Nat Node} (h : ∀ k, Le5 (rd' k) (rd k)) (key : Key) (k : Int) : Le5 (leafR rd' key k) (leafR rd key k) := by
  unfold leafR
  rcases le5_at h k (-1) with e | e
  · rw [e]
    cases atR rd k (-1) with
    | error e => exact .inl rfl
    | ok y => exact le5_leafX h key _ y
  · rw [e]; exact .inr rfl
theorem le5_getR {rd' rd : Int → Except Nat Node} (h : ∀ k, Le5 (rd' k) (rd k)) (key : Key) (k : Int) : Le5 (getR rd' key k) (getR rd key k) := by
  unfold getR
  by_cases h0 : k = 0
  · rw [if_pos h0, if_pos h0]; exact .inl rfl
  · rw [if_neg h0, if_neg h0]
    rcases le5_leafR h key k with e | e
    · rw [e]; exact .inl rfl
    · rw [e]; exact .inr rfl
theorem le5_kids {r' r : Int → List Item → Except Nat (List Item)} (h : ∀ a o, Le5 (r' a o) (r a o)) (to : Key) (most : Int) : ∀ l out, Le5 (scanKidsE to most r' l out) (scanKidsE to most r l out)
  | [], _ => .inl rfl
  | y :: l, out => by
    rw [scanKidsE, scanKidsE]
    split
    · exact .inl rfl
    · rcases h y.addr out with e | e
      · rw [e]
        cases r y.addr out with
        | error e => exact .inl rfl
        | ok o => exact le5_kids h to most l o
      · rw [e]; exact .inr rfl
theorem le5_scanX {rd' rd : Int → Except Nat Node} (h : ∀ k, Le5 (rd' k) (rd k)) (fr to : Key) (most : Int) : ∀ n x out, Le5 (scanX rd' fr to most n x out) (scanX rd fr to most n x out)
  | 0, _, _ => .inl rfl
  | n + 1, x, out => by
    rw [scanX, scanX]
    refine le5_kids (fun a o => ?_) to most _ out
    rcases le5_at h a (n : Nat) with e | e
    · rw [e]
      cases atR rd a (n : Nat) with
      | error e => exact .inl rfl
      | ok y => exact le5_scanX h fr to most n y o
    · rw [e]; exact .inr rfl
theorem le5_scanG {rd' rd : Int → Except Nat Node} (h : ∀ k, Le5 (rd' k) (rd k)) (fr to : Key) (most : Int) (k : Int) : Le5 (scanG rd' fr to most k) (scanG rd fr to most k) := by
  unfold scanG
  split
  · exact .inl rfl
  · unfold scanR
    rcases le5_at h k (-1) with e | e
    · rw [e]
      cases atR rd k (-1) with
      | error e => exact .inl rfl
      | ok y => exact le5_scanX h fr to most _ y []
    · rw [e]; exact .inr rfl
theorem scanKidsE_ok {to : Key} {most : Int} {r : Int → List Item → Except Nat (List Item)} {r0 : Int → List Item → List Item} : ∀ (l : List Kid) (out : List Item), (∀ y ∈ l, ∀ o, r y.addr o = .ok (r0 y.addr o)) → scanKidsE to most r l out = .ok (scanKids to most r0 l out)
  | [], _, _ => rfl
  | y :: l, out, h => by
    rw [scanKidsE, scanKids]
    split
    · rfl
    · rw [h y (List.mem_cons_self ..)]
      exact scanKidsE_ok l _ fun z hz => h z (List.mem_cons_of_mem _ hz)
theorem scanX_tr {rd : Int → Except Nat Node} {σ : Ct} {g : Int → Option (Node × Plc)} (ha : Agr rd σ g) (fr to : Key) (most : Int) : ∀ h k out, Tr σ g h k → scanX rd fr to most h (nd g k) out = .ok (scanN g fr to most h k out)
  | 0, _, _, _ => rfl
  | h + 1, k, out, t => by
    rw [scanX, scanN]
    refine scanKidsE_ok _ _ fun y hy o => ?_
    obtain ⟨i, hi, rfl⟩ := List.mem_iff_getElem.1 (List.mem_of_mem_drop hy)
    have ht := t.2.2.2 i hi
    rw [getD_get hi] at ht
    obtain ⟨u, hu⟩ := ht.held
    have e : atR rd (nd g k).kids[i].addr (h : Nat) = .ok (nd g (nd g k).kids[i].addr) := by
      unfold atR
      rw [ha _ _ _ hu]
      exact if_neg fun q => q.2 ht.lv
    rw [e]
    exact scanX_tr ha fr to most h _ o ht
theorem scanG_tree {rd : Int → Except Nat Node} {σ : Ct} {g : Int → Option (Node × Plc)} (ha : Agr rd σ g) {root : Int} {l : List Item} (ht : TreeOf σ g root l) (hr : Ris l) (fr to : Key) (most : Int) : scanG rd fr to most root = .ok (pick fr to most l []) := by
  unfold scanG
  by_cases h0 : root = 0 ∨ most < 1
  · rw [if_pos h0, pick_empty]
    rcases h0 with h0 | h0
    · rcases ht with ⟨h1, _⟩ | ⟨_, h2, _⟩
      · exact .inl h1
      · exact absurd h0 h2
    · exact .inr h0
  · rw [if_neg h0]
    rcases ht with ⟨_, h3⟩ | ⟨_, _, h, hh, t, w, e⟩
    · exact absurd (.inl h3) h0
    · have hp := scan_pick g fr to most h root [] w (by rw [e]; exact hr)
      rw [e] at hp
      obtain ⟨u, hu⟩ := t.held
      have eA : atR rd root (-1) = .ok (nd g root) := by
        unfold atR
        rw [ha _ _ _ hu]
        exact if_neg fun q => by omega
      unfold scanR
      rw [eA]
      show scanX rd fr to most (nd g root).level.toNat (nd g root) [] = _
      rw [t.lv, show ((h : Nat) : Int).toNat = h from rfl, scanX_tr ha fr to most h root [] t, hp]
def dkBad (D : Nat → DK) (b m : Nat) (k : Nat) : DK := if k = b ∧ m ≠ 0 then .bad else D k
theorem le5_bad (σ : Ct) (D : Nat → DK) (b m : Nat) (k : Int) : Le5 (rdK σ (fun _ => none) (dkBad D b m) k) (rdK σ (fun _ => none) D k) := by
  unfold rdK
  split
  · dsimp only
    by_cases hq : k.toNat = b ∧ m ≠ 0
    · rw [show dkBad D b m k.toNat = .bad by unfold dkBad; rw [if_pos hq]]; exact .inr rfl
    · rw [show dkBad D b m k.toNat = D k.toNat by unfold dkBad; rw [if_neg hq]]; exact .inl rfl
  · exact .inl rfl
theorem Dr.lastS_sure {σ : Dr} (h : ∀ k, σ.cached k = []) (q : Nat) : σ.lastS q = σ.sure q := by unfold Dr.lastS; rw [h]; rfl
theorem dsk_turn {σ : Ct} {σd : Dr} {D : Nat → DK} (h : DskOk σ (fun _ => none) σd D) (hD : ∀ k, D k ≠ .bad) (hc : ∀ k, σd.cached k = []) (hs : ∀ q, q < σd.n → Sec (σd.sure q)) {b i m : Nat} (hb : b < σd.n) (hi : i < 256) (hm : m < 256) :
    DskOk σ (fun _ => none) (σd.turn b i m) (dkBad D b m) := by
  have hc' : ∀ k, (σd.turn b i m).cached k = [] := hc
  refine ⟨h.n, h.n2, h.off, h.st, h.ok, fun k hk h0 hG => ?_⟩
  have hd := h.d k hk h0 hG
  have hkn : k < σd.n := by rw [h.n]; exact hk
  rw [Dr.lastS_sure hc] at hd
  rw [Dr.lastS_sure hc']
  rw [show (σd.turn b i m).sure k = if k = b then (σd.sure b).set i ((σd.sure b).getD i 0 ^^^ m) else σd.sure k from rfl]
  by_cases e : k = b
  · subst e
    rw [if_pos rfl]
    rcases hd with ⟨x, d1, d2, d3, gn, d4, d5⟩ | ⟨d1, _⟩
    · by_cases hm0 : m = 0
      · subst hm0
        refine .inl ⟨x, by unfold dkBad; rw [if_neg (fun q => q.2 rfl)]; exact d1, d2, d3, gn, d4, ?_⟩
        rw [Nat.xor_zero, ← d5]
        refine List.ext_getElem (by rw [List.length_set]) fun j h1 h2 => ?_
        rw [List.getElem_set]
        split
        · rename_i e; subst e; simp [List.getD_eq_getElem?_getD, h2]
        · rfl
      · have ho := (open_seal ((NdF.of d2).head (by have := h.n2; omega : k ≤ 2047) d4) (nodB_bys d3) (NdF.of d2).len).1
        have hsec := hs k hkn
        have hT := Dr.turn_sec hsec hi hm
        rw [show sealB (nodH x k gn) (nodB x) = σd.sure k from d5.symm] at ho
        refine .inr ⟨by unfold dkBad; rw [if_pos ⟨rfl, hm0⟩], ?_, hT.1, hT.2⟩
        refine open_turn hsec.2 ho (by rw [hsec.1]; exact hi) ?_ fun e => hm0 ?_
        · refine Nat.xor_lt_two_pow (n := 8) ?_ hm
          rw [List.getD_eq_getElem?_getD, List.getElem?_eq_getElem (by rw [hsec.1]; exact hi)]
          exact hsec.2 _ (List.getElem_mem _)
        · exact xor_injL (c := (σd.sure k).getD i 0) (by rw [Nat.xor_zero]; exact e)
    · exact absurd d1 (hD k)
  · rw [if_neg e]
    have e2 : dkBad D b m k = D k := by unfold dkBad; rw [if_neg fun q => e q.1]
    rw [e2]
    exact hd
end Go.Proofs.YtgbbcpfnmkeijaaGreat
