/- pool: flip; what a disk shows. -/
import Derived.Test.YtldonbnjefhfdaaCrsZ
import Derived.Test.YtldonbnjefhfdaaCrsS
import Derived.Test.YtldonbnjefhfdaaCrsW
namespace Go.Proofs.Ytldonbnjefhfdaa
open Go.Cam
set_option maxRecDepth 100000
def Dr.flip (σ : Dr) (ct : Ct) (g : Nat) : Dr × Bool :=
  if (σ.writes (areaW ct ct.n g (areaN ct.n))).2 then (σ.writes (areaW ct ct.n g (areaN ct.n))).1.writes [(g % 2, sealB ⟨1, g % 2, 0, 0, g⟩ (supB ct.n 8))] else ((σ.writes (areaW ct ct.n g (areaN ct.n))).1, false)
theorem areaW_ok {ct : Ct} {g : Nat} (h1 : 32 ≤ ct.n) (h2 : ct.n ≤ 2048) : WsOk ct.n (areaW ct ct.n g (areaN ct.n)) := fun x hx => by
  obtain ⟨i, hi, rfl⟩ := List.mem_map.1 hx
  have h3 := areaAtN_lt g h1 h2
  have h4 := List.mem_range.1 hi
  have hl : (ct.bodyN i 118).length ≤ 236 := by rw [ct.bodyN_len]; decide
  exact ⟨by show areaAtN ct.n g + i < ct.n; omega, sealB_len hl, sealB_bys (ct.bodyN_bys i 118)⟩
theorem supW_sec (slot g s : Nat) : Sec (sealB ⟨1, slot, 0, 0, g⟩ (supB s 8)) := ⟨sealB_len (by rw [supB_len]; decide), sealB_bys (supB_bys s 8)⟩
theorem Dr.flush_n (σ : Dr) : σ.flush.1.n = σ.n ∧ σ.flush.1.steps ≤ σ.steps + 1 := by
  obtain ⟨e1, _, _, _, e5, _⟩ := σ.step_same
  unfold Dr.flush; split <;> exact ⟨e1, e5⟩
theorem Dr.writes_n : ∀ (ws : List (Nat × List Nat)) (σ : Dr), (σ.writes ws).1.n = σ.n ∧ (σ.writes ws).1.steps ≤ σ.steps + ws.length + 1
  | [], σ => by have := σ.flush_n; exact this
  | x :: ws, σ => by
    obtain ⟨h1, h2⟩ := σ.write_n x.1 x.2
    rw [Dr.writes]
    split
    · obtain ⟨h3, h4⟩ := Dr.writes_n ws (σ.write x.1 x.2).1
      exact ⟨h3.trans h1, by simp; omega⟩
    · exact ⟨h1, by simp; omega⟩
set_option maxHeartbeats 4000000 in
theorem pflip_c (b bc : Nat) (σ : Dr) (ct : Ct) (g : Nat) (h1 : 32 ≤ ct.n) (h2 : ct.n ≤ 2048) (hn : σ.n = ct.n) (hg1 : 1 ≤ g) (hg : g ≤ 1099511627775) (hst : σ.steps < 900000000) : Ctr Try.prog 21 [.pointer (some ⟨b, 0, none⟩), .pointer (some ⟨bc, 0, none⟩), .agg (supL g ct.n).toArray] [DrA b σ, CtA bc ct]
    (fun v Bs => v = .int .i64 (if (σ.flip ct g).2 then 0 else 4) ∧ Bs = [DrA b (σ.flip ct g).1, CtA bc ct]) := by
  have ha : areaN ct.n < 100 := by unfold areaN; omega
  refine s_enter 40 [(0, _), (1, _), (2, _)] (fun F => [_, _, F]) Try.func21 fun F => ?_
  refine go_ ?_
  refine s_box fun r5 => ?_
  refine go_ ?_
  refine s_call (sp := (by repeat (first | exact Split.nil | apply Split.perx (by repeat (first | with_reducible exact Sel.here | with_reducible apply Sel.there)) (by infer_instance) | apply Split.cons (by repeat (first | with_reducible exact Sel.here | with_reducible apply Sel.there))))) (hs := parea_c bc ct g h1 h2 hg) (h := ?_)
  rintro v Bs ⟨a, c, w, rfl, rfl⟩
  refine go_ ?_
  refine s_call (sp := (by repeat (first | exact Split.nil | apply Split.perx (by repeat (first | with_reducible exact Sel.here | with_reducible apply Sel.there)) (by infer_instance) | apply Split.cons (by repeat (first | with_reducible exact Sel.here | with_reducible apply Sel.there))))) (hs := pwrite_n b σ w (areaW ct ct.n g (areaN ct.n)) (areaW_len _ _ _ _) (by rw [hn]; exact areaW_ok h1 h2) (by omega)) (h := ?_)
  rintro v Bs ⟨rfl, rfl⟩
  refine go_ ?_
  obtain ⟨n1, n2⟩ := Dr.writes_n (areaW ct ct.n g (areaN ct.n)) σ
  rw [areaW_len] at n2
  cases hok : (σ.writes (areaW ct ct.n g (areaN ct.n))).2 with
  | false =>
    have e : σ.flip ct g = ((σ.writes (areaW ct ct.n g (areaN ct.n))).1, false) := by unfold Dr.flip; rw [hok]; rfl
    rw [e]
    refine go_ ?_
    exact s_ret1 (rs := [.tmp 6]) Try.func21 rfl (by intro j; refine RVS.tmp _ rfl ?_; exact RVS.nil) (⟨rfl, rfl⟩) (by repeat (first | exact Ent.nil | refine Ent.per (by repeat (first | with_reducible exact Sel.here | with_reducible apply Sel.there)) ?_ | refine Ent.cons (by repeat (first | with_reducible exact Sel.here | with_reducible apply Sel.there)) ?_))
  | true =>
    have e : σ.flip ct g = (σ.writes (areaW ct ct.n g (areaN ct.n))).1.writes [(g % 2, sealB ⟨1, g % 2, 0, 0, g⟩ (supB ct.n 8))] := by unfold Dr.flip; rw [hok]; rfl
    rw [e]
    generalize (σ.writes (areaW ct ct.n g (areaN ct.n))).1 = σ1 at n1 n2 ⊢
    refine go_ ?_
    have e1 : (g : Int).tmod 2 = ((g % 2 : Nat) : Int) := by rw [Int.tmod_eq_emod_of_nonneg (by omega)]; omega
    rw [e1]
    refine s_call (sp := (by repeat (first | exact Split.nil | apply Split.perx (by repeat (first | with_reducible exact Sel.here | with_reducible apply Sel.there)) (by infer_instance) | apply Split.cons (by repeat (first | with_reducible exact Sel.here | with_reducible apply Sel.there))))) (hs := swrite_c g ct.n (g % 2) ⟨hg1, hg, h1, h2⟩ (by omega)) (h := ?_)
    rintro v Bs ⟨r, rfl, rfl⟩
    refine go_ ?_
    refine s_step (st_bs1 (sz := 2) (cells := [.int .i64 (g % 2 : Nat), .slice (some ⟨r, 0, none⟩) 256 256]) rfl) ?_
    rintro _ _ ⟨a3, rfl, rfl⟩
    refine s_fz (e := 61) (v := .slice a3 1 1) (by repeat (first | with_reducible exact Sel.here | with_reducible apply Sel.there)) ?_
    refine s_open (SA.cg (secRow (fun _ => (some ⟨r, 0, none⟩, 256)) [(g % 2, sealB ⟨1, g % 2, 0, 0, g⟩ (supB ct.n 8))]) fun q hq => (by have e : q = 0 := (by omega); subst e; rfl)) ?_
    refine s_fam0 (F := secFam (fun _ => (some ⟨r, 0, none⟩, 256)) [(g % 2, sealB ⟨1, g % 2, 0, 0, g⟩ (supB ct.n 8))]) ?_
    refine s_front (a := SA none 1 (.slice (some ⟨r, 0, none⟩) 256 256) 256 (byR (sealB ⟨1, g % 2, 0, 0, g⟩ (supB ct.n 8)))) (by repeat (first | with_reducible exact Sel.here | with_reducible apply Sel.there)) (s_open (B := secFam (fun _ => (some ⟨r, 0, none⟩, 256)) [(g % 2, sealB ⟨1, g % 2, 0, 0, g⟩ (supB ct.n 8))] 0) (fun _ _ q => q) ?_)
    refine s_famS (m := 0) (F := secFam (fun _ => (some ⟨r, 0, none⟩, 256)) [(g % 2, sealB ⟨1, g % 2, 0, 0, g⟩ (supB ct.n 8))]) (by repeat (first | with_reducible exact Sel.here | with_reducible apply Sel.there)) (by repeat (first | with_reducible exact Sel.here | with_reducible apply Sel.there)) ?_
    refine go_ ?_
    refine s_call (sp := (by repeat (first | exact Split.nil | apply Split.perx (by repeat (first | with_reducible exact Sel.here | with_reducible apply Sel.there)) (by infer_instance) | apply Split.cons (by repeat (first | with_reducible exact Sel.here | with_reducible apply Sel.there))))) (hs := pwrite_n (m := 1) b σ1 (fun _ => (some ⟨r, 0, none⟩, 256)) [(g % 2, sealB ⟨1, g % 2, 0, 0, g⟩ (supB ct.n 8))] rfl (fun x hx => by rw [List.mem_singleton] at hx; subst hx; exact ⟨by show g % 2 < σ1.n; omega, supW_sec _ _ _⟩) (by omega)) (h := ?_)
    rintro v Bs ⟨rfl, rfl⟩
    refine go_ ?_
    exact s_ret1 (rs := [.tmp 6]) Try.func21 rfl (by intro j; refine RVS.tmp _ rfl ?_; exact RVS.nil) (⟨rfl, rfl⟩) (by repeat (first | exact Ent.nil | refine Ent.per (by repeat (first | with_reducible exact Sel.here | with_reducible apply Sel.there)) ?_ | refine Ent.cons (by repeat (first | with_reducible exact Sel.here | with_reducible apply Sel.there)) ?_))
end Go.Proofs.Ytldonbnjefhfdaa
/- counts.Load. -/
namespace Go.Proofs.Ytldonbnjefhfdaa
open Go.Cam
set_option maxRecDepth 100000
def ctVal (ls : Nat → List Nat) (i k : Nat) : Nat := numB (((ls i).drop (2 * k)).take 2)
def ctAt (ls : Nat → List Nat) (a : Nat) : Nat := ctVal ls (a / 118) (a % 118)
/-- whether counts may be: those of no sector are none -/
def ctOk (n : Nat) (ls : Nat → List Nat) (p : Nat) : Prop := ∀ a, a < p → ctAt ls a ≠ 0 → firstN n ≤ a ∧ a < n
def ctNow (ls : Nat → List Nat) (p a : Nat) : Nat := if a < p then ctAt ls a else 0
theorem ctVal_lt {ls : Nat → List Nat} {i k : Nat} (h : Bys (ls i)) : ctVal ls i k ≤ 65535 := by
  have h1 := numB_lt (((ls i).drop (2 * k)).take 2) ((h.drop _).take _)
  have h2 : (((ls i).drop (2 * k)).take 2).length ≤ 2 := by simp; omega
  have h3 : 256 ^ (((ls i).drop (2 * k)).take 2).length ≤ 256 ^ 2 := Nat.pow_le_pow_right (by decide) h2
  unfold ctVal
  have h4 : (256 : Nat) ^ 2 = 65536 := by decide
  omega
theorem ctAt_mk (ls : Nat → List Nat) (i k : Nat) (hk : k < 118) : ctAt ls (i * 118 + k) = ctVal ls i k := by
  unfold ctAt
  rw [show (i * 118 + k) / 118 = i by omega, show (i * 118 + k) % 118 = k by omega]
theorem ctOk_succ {n : Nat} {ls : Nat → List Nat} {p : Nat} (h : ctOk n ls p) (h2 : ctAt ls p ≠ 0 → firstN n ≤ p ∧ p < n) : ctOk n ls (p + 1) := fun a ha hne => by
  by_cases e : a < p
  · exact h a e hne
  · have : a = p := by omega
    subst this; exact h2 hne
theorem ctNow_zero {ls : Nat → List Nat} {p : Nat} (h : ctAt ls p = 0) : ctNow ls (p + 1) = ctNow ls p := by
  funext a; unfold ctNow
  by_cases e : a < p
  · rw [if_pos e, if_pos (by omega)]
  · rw [if_neg e]
    by_cases e2 : a = p
    · subst e2; rw [if_pos (by omega), h]
    · rw [if_neg (by omega)]
theorem ctNow_set (ls : Nat → List Nat) (p : Nat) : nset (ctNow ls p) p (ctAt ls p) = ctNow ls (p + 1) := by
  funext a; unfold nset ctNow
  by_cases e : a = p
  · subst e; rw [if_pos rfl, if_pos (by omega)]
  · rw [if_neg e]
    by_cases e2 : a < p
    · rw [if_pos e2, if_pos (by omega)]
    · rw [if_neg e2, if_neg (by omega)]
theorem ctNow_le {ls : Nat → List Nat} (hb : ∀ i, Bys (ls i)) (p a : Nat) : ctNow ls p a ≤ 65535 := by
  unfold ctNow; split
  · exact ctVal_lt (hb _)
  · omega
abbrev bodR (w : Nat → Option Addr × Nat) (i : Nat) : List Value := [.slice (w i).1 236 (w i).2]
abbrev bodF (w : Nat → Option Addr × Nat) (ls : Nat → List Nat) (i : Nat) : HP := SA none 1 (.slice (w i).1 236 (w i).2) 236 (byR (ls i))
set_option maxHeartbeats 4000000 in
theorem cload_c (n : Nat) (h1 : 32 ≤ n) (h2 : n ≤ 2048) (w : Nat → Option Addr × Nat) (ls : Nat → List Nat) {a : Option Addr} {c : Nat} (hl : ∀ i, i < areaN n → (ls i).length = 236) (hb : ∀ i, Bys (ls i)) :
    Ctr Try.prog 35 [.int .i64 (n : Int), .slice a (areaN n) c] [SA none 1 (.slice a (areaN n) c) (areaN n) (bodR w), Fam (areaN n) (bodF w ls)]
    (fun v Bs => (ctOk n ls (areaN n * 118) ∧ ∃ b, v = .tuple #[.pointer (some ⟨b, 0, none⟩), .int .i64 0] ∧ Bs = [CtA b ⟨n, ctNow ls (areaN n * 118), ctNow ls (areaN n * 118)⟩]) ∨
      (¬ ctOk n ls (areaN n * 118) ∧ v = .tuple #[.pointer none, .int .i64 3] ∧ Bs = [])) := by
  have ha : areaN n < 100 := by unfold areaN; omega
  refine s_enter 83 [(0, _), (1, _)] (fun F => [_, _, F]) Try.func35 fun F => ?_
  refine go_ ?_
  refine s_call (sp := (by repeat (first | exact Split.nil | apply Split.perx (by repeat (first | with_reducible exact Sel.here | with_reducible apply Sel.there)) (by infer_instance) | apply Split.cons (by repeat (first | with_reducible exact Sel.here | with_reducible apply Sel.there))))) (hs := cnew_c n h1 h2) (h := ?_)
  rintro v Bs ⟨b, rfl, rfl⟩
  refine go_ ?_
  refine s_opn (by repeat (first | with_reducible exact Sel.here | with_reducible apply Sel.there)) fun x hx => ?_
  unfold Ct.parts
  refine go_ ?_
  refine s_ine (fun h => ?_) (fun h => ?_)
  · exact absurd rfl h
  refine s_cls (φ := CtOk (Ct.new n)) (X := Ct.parts b (Ct.new n)) x hx (by repeat (first | exact Split.nil | apply Split.perx (by repeat (first | with_reducible exact Sel.here | with_reducible apply Sel.there)) (by infer_instance) | apply Split.cons (by repeat (first | with_reducible exact Sel.here | with_reducible apply Sel.there)))) ?_
  refine go_ ?_
  refine s_open (B := CtA b ⟨n, ctNow ls (0 * 118 + 0), fun _ => 0⟩) (fun _ _ q => by have e : ctNow ls (0 * 118 + 0) = fun _ => 0 := (by funext a; simp [ctNow]); rw [e]; exact q) ?_
  refine s_loop (fun i : Nat => [(0, .int .i64 n), (4, .pointer none), (5, .int .i64 0), (6, .pointer (some ⟨b, 0, none⟩)), (32, .slice a (areaN n) c), (33, .int .i64 (areaN n : Nat)), (34, .int .i64 i)]) (fun i => [CtA b ⟨n, ctNow ls (i * 118 + 0), fun _ => 0⟩, SA none 1 (.slice a (areaN n) c) (areaN n) (bodR w), Fam (areaN n) (bodF w ls), F]) (fun i => i ≤ areaN n ∧ ctOk n ls (i * 118 + 0)) (fun i => areaN n - i) 0 ⟨by omega, fun a h => by omega⟩ (by repeat (first | exact Ent.nil | refine Ent.per (by repeat (first | with_reducible exact Sel.here | with_reducible apply Sel.there)) ?_ | refine Ent.cons (by repeat (first | with_reducible exact Sel.here | with_reducible apply Sel.there)) ?_)) ?_
  rintro i ⟨hi, hok⟩ next
  refine go_ ?_
  refine s_if (fun h3 => ?_) (fun h3 => ?_)
  · have hi2 : i < areaN n := by omega
    refine go_ ?_
    refine s_get i (F := bodF w ls) (m := areaN n) (by repeat (first | with_reducible exact Sel.here | with_reducible apply Sel.there)) hi2 ?_
    have hli := hl i hi2
    refine s_open (B := SA none 1 (.slice (w i).1 236 (w i).2) 236 (byR (ls i))) (fun _ _ q => q) ?_
    refine s_loop (fun k : Nat => [(0, .int .i64 n), (4, .pointer none), (5, .int .i64 0), (6, .pointer (some ⟨b, 0, none⟩)), (8, .int .i64 i), (9, .slice (w i).1 236 (w i).2), (32, .slice a (areaN n) c), (33, .int .i64 (areaN n : Nat)), (34, .int .i64 i), (42, .int .i64 k)]) (fun k => [CtA b ⟨n, ctNow ls (i * 118 + k), fun _ => 0⟩, SA none 1 (.slice (w i).1 236 (w i).2) 236 (byR (ls i)), SA none 1 (.slice a (areaN n) c) (areaN n) (bodR w), Fam (areaN n) (bodF w ls), F]) (fun k => k ≤ 118 ∧ ctOk n ls (i * 118 + k)) (fun k => 118 - k) 0 ⟨by omega, hok⟩ (by repeat (first | exact Ent.nil | refine Ent.per (by repeat (first | with_reducible exact Sel.here | with_reducible apply Sel.there)) ?_ | refine Ent.cons (by repeat (first | with_reducible exact Sel.here | with_reducible apply Sel.there)) ?_)) ?_
    rintro k ⟨hk, hok2⟩ next2
    refine go_ ?_
    refine s_if (fun h4 => ?_) (fun h4 => ?_)
    · have hk2 : k < 118 := by omega
      refine go_ ?_
      rw [wrap_id (x := 2 * (k : Int)) (by omega) (by omega), show 2 * (k : Int) = ((2 * k : Nat) : Int) by omega]
      refine s_know (a := SA none 1 (.slice (w i).1 236 (w i).2) 236 (byR (ls i))) (by repeat (first | with_reducible exact Sel.here | with_reducible apply Sel.there)) SA.cap (fun hc => ?_)
      refine s_look (lk_slc (2 * k) 236 (cap := (w i).2) (by omega) (by omega)) ?_
      refine s_part (2 * k) 236 (by omega) (by omega) (a := (w i).1) (cap := (w i).2) (m := 236) (by repeat (first | with_reducible exact Sel.here | with_reducible apply Sel.there)) ?_
      have hd : ((ls i).drop (2 * k)).length = 236 - 2 * k := by rw [List.length_drop, hli]
      rw [← hd]
      refine s_open (SA.cg (byR ((ls i).drop (2 * k))) fun q hq => by simp [byR, List.getD_eq_getElem?_getD]) ?_
      refine s_call (sp := (by repeat (first | exact Split.nil | apply Split.perx (by repeat (first | with_reducible exact Sel.here | with_reducible apply Sel.there)) (by infer_instance) | apply Split.cons (by repeat (first | with_reducible exact Sel.here | with_reducible apply Sel.there))))) (hs := take_f ((ls i).drop (2 * k)) 2 (by omega) (by omega) (by omega) ((hb i).drop _) (by omega)) (h := ?_)
      rintro v Bs ⟨a2, c2, rfl, rfl⟩
      refine go_ ?_
      have hat := ctAt_mk ls i k hk2
      have hv : numB (((ls i).drop (2 * k)).take 2) = ctAt ls (i * 118 + k) := hat.symm
      rw [hv]
      refine s_ieq (fun h5 => ?_) (fun h5 => ?_)
      · have h5' : ctAt ls (i * 118 + k) = 0 := by omega
        refine go_ ?_
        rw [← ctNow_zero h5', Nat.add_assoc]
        exact s_entF (by repeat (first | exact Ent.nil | refine Ent.per (by repeat (first | with_reducible exact Sel.here | with_reducible apply Sel.there)) ?_ | refine Ent.cons (by repeat (first | with_reducible exact Sel.here | with_reducible apply Sel.there)) ?_)) (s_keep _ (next2 (k + 1) ⟨by omega, ctOk_succ hok2 (fun h => absurd h5' h)⟩ (by omega)))
      · have h5' : ctAt ls (i * 118 + k) ≠ 0 := by omega
        have hlast : i * 118 + k < areaN n * 118 := by omega
        refine go_ ?_
        rw [wrap_id (x := (i : Int) * 118) (by omega) (by omega)]
        refine go_ ?_
        rw [wrap_id (x := (i : Int) * 118 + (k : Int)) (by omega) (by omega)]
        refine s_front (a := CtA b ⟨n, ctNow ls (i * 118 + k), fun _ => 0⟩) (by repeat (first | with_reducible exact Sel.here | with_reducible apply Sel.there)) ?_
        refine s_opn (by repeat (first | with_reducible exact Sel.here | with_reducible apply Sel.there)) fun y hy => ?_
        unfold Ct.parts
        refine go_ ?_
        cases h6 : decide ((i : Int) * 118 + (k : Int) < (firstN n : Nat)) with
        | true =>
          have h6' := of_decide_eq_true h6
          refine go_ ?_
          exact s_rett (rs := [.tmp 4, .tmp 5]) (vs := [_, _]) Try.func35 rfl (by intro j; refine RVS.tmp _ rfl ?_; refine RVS.tmp _ rfl ?_; exact RVS.nil) rfl (.inr ⟨fun h => by have := (h _ hlast h5').1; omega, rfl, rfl⟩) (by repeat (first | exact Ent.nil | refine Ent.per (by repeat (first | with_reducible exact Sel.here | with_reducible apply Sel.there)) ?_ | refine Ent.cons (by repeat (first | with_reducible exact Sel.here | with_reducible apply Sel.there)) ?_))
        | false =>
          have h6' := of_decide_eq_false h6
          refine go_ ?_
          refine s_if (fun h7 => ?_) (fun h7 => ?_)
          · refine go_ ?_
            exact s_rett (rs := [.tmp 4, .tmp 5]) (vs := [_, _]) Try.func35 rfl (by intro j; refine RVS.tmp _ rfl ?_; refine RVS.tmp _ rfl ?_; exact RVS.nil) rfl (.inr ⟨fun h => by have := (h _ hlast h5').2; omega, rfl, rfl⟩) (by repeat (first | exact Ent.nil | refine Ent.per (by repeat (first | with_reducible exact Sel.here | with_reducible apply Sel.there)) ?_ | refine Ent.cons (by repeat (first | with_reducible exact Sel.here | with_reducible apply Sel.there)) ?_))
          · have h7' : ¬ ((i : Int) * 118 + (k : Int) ≥ (n : Int)) := h7
            refine go_ ?_
            refine s_look (lk_ixz (i * 118 + k) (v := .slice y.a n y.c) (by repeat (first | with_reducible exact SelR.here | with_reducible apply SelR.there)) (hi := by dsimp only; omega)) ?_
            refine s_stepU (st_ste (i := i * 118 + k) (fo := 0) (m' := 1) (vs := [.int .i64 (ctAt ls (i * 118 + k) : Nat)]) (v := .slice y.a n y.c) (by repeat (first | with_reducible exact Sel.here | with_reducible apply Sel.there)) (hi := by dsimp only; omega)) ?_
            rintro _ _ rfl
            refine s_open (SA.cg (intR (nset (ctNow ls (i * 118 + k)) (i * 118 + k) (ctAt ls (i * 118 + k)))) fun q _ => intR_put _ _ _ q) ?_
            rw [ctNow_set, Nat.add_assoc]
            refine go_ ?_
            refine s_cls (φ := CtOk ⟨n, ctNow ls (i * 118 + (k + 1)), fun _ => 0⟩) (X := Ct.parts b ⟨n, ctNow ls (i * 118 + (k + 1)), fun _ => 0⟩) y ⟨h1, h2, fun q => ctNow_le hb _ q, fun _ => Nat.zero_le _⟩ (by repeat (first | exact Split.nil | apply Split.perx (by repeat (first | with_reducible exact Sel.here | with_reducible apply Sel.there)) (by infer_instance) | apply Split.cons (by repeat (first | with_reducible exact Sel.here | with_reducible apply Sel.there)))) ?_
            exact s_entF (by repeat (first | exact Ent.nil | refine Ent.per (by repeat (first | with_reducible exact Sel.here | with_reducible apply Sel.there)) ?_ | refine Ent.cons (by repeat (first | with_reducible exact Sel.here | with_reducible apply Sel.there)) ?_)) (s_keep _ (next2 (k + 1) ⟨by omega, ctOk_succ (p := i * 118 + k) hok2 (fun _ => ⟨by omega, by omega⟩)⟩ (by omega)))
    · have : k = 118 := by omega
      subst this
      refine go_ ?_
      rw [show i * 118 + 118 = (i + 1) * 118 + 0 by omega] at hok2 ⊢
      exact s_entF (by repeat (first | exact Ent.nil | refine Ent.per (by repeat (first | with_reducible exact Sel.here | with_reducible apply Sel.there)) ?_ | refine Ent.cons (by repeat (first | with_reducible exact Sel.here | with_reducible apply Sel.there)) ?_)) (s_keep _ (next (i + 1) ⟨by omega, hok2⟩ (by omega)))
  · have : i = areaN n := by omega
    subst this
    rw [Nat.add_zero] at hok ⊢
    refine go_ ?_
    refine s_call (sp := (by repeat (first | exact Split.nil | apply Split.perx (by repeat (first | with_reducible exact Sel.here | with_reducible apply Sel.there)) (by infer_instance) | apply Split.cons (by repeat (first | with_reducible exact Sel.here | with_reducible apply Sel.there))))) (hs := ccommit_c b ⟨n, ctNow ls (areaN n * 118), fun _ => 0⟩) (h := ?_)
    rintro v Bs ⟨rfl, rfl⟩
    refine go_ ?_
    exact s_rett (rs := [.tmp 4, .tmp 5]) (vs := [_, _]) Try.func35 rfl (by intro j; refine RVS.tmp _ rfl ?_; refine RVS.tmp _ rfl ?_; exact RVS.nil) rfl (.inl ⟨hok, b, rfl, rfl⟩) (by repeat (first | exact Ent.nil | refine Ent.per (by repeat (first | with_reducible exact Sel.here | with_reducible apply Sel.there)) ?_ | refine Ent.cons (by repeat (first | with_reducible exact Sel.here | with_reducible apply Sel.there)) ?_))
end Go.Proofs.Ytldonbnjefhfdaa
/- What a disk shows while the power is on; which superblock counts. -/
namespace Go.Proofs.Ytldonbnjefhfdaa
open Go.Cam
def Dr.on (σ : Dr) : Prop := σ.off = false ∧ σ.fuse < 0
theorem Dr.on_step {σ : Dr} (h : σ.on) : σ.step = ({ σ with steps := σ.steps + 1 }, true) := by
  unfold Dr.step
  rw [if_neg (by rw [h.1]; have := h.2; simp; omega), if_neg (by have := h.2; omega)]
def updS (f : Nat → List Nat) (s : Nat) (l : List Nat) : Nat → List Nat := fun q => if q = s then l else f q
def updsS (f : Nat → List Nat) : List (Nat × List Nat) → Nat → List Nat
  | [] => f
  | x :: ws => updsS (updS f x.1 x.2) ws
theorem Dr.on_write {σ : Dr} (h : σ.on) (s : Nat) (l : List Nat) : (σ.write s l).2 = true ∧ (σ.write s l).1.on ∧ (σ.write s l).1.n = σ.n ∧ (σ.write s l).1.lastS = updS σ.lastS s l ∧ (σ.write s l).1.steps = σ.steps + 1 := by
  have e := Dr.on_step h
  unfold Dr.write
  rw [e]
  refine ⟨rfl, h, rfl, ?_, rfl⟩
  funext q
  unfold Dr.lastS updS cadd
  dsimp only
  by_cases hq : q = s
  · subst hq; simp
  · have : (q : Int) ≠ s := by omega
    simp [hq, this]
theorem Dr.on_flush {σ : Dr} (h : σ.on) : σ.flush.2 = true ∧ σ.flush.1.on ∧ σ.flush.1.n = σ.n ∧ σ.flush.1.lastS = σ.lastS ∧ σ.flush.1.steps = σ.steps + 1 := by
  have e := Dr.on_step h
  unfold Dr.flush
  rw [e]
  exact ⟨rfl, h, rfl, by funext q; simp [Dr.lastS], rfl⟩
theorem Dr.on_writes : ∀ (ws : List (Nat × List Nat)) {σ : Dr}, σ.on → (σ.writes ws).2 = true ∧ (σ.writes ws).1.on ∧ (σ.writes ws).1.n = σ.n ∧ (σ.writes ws).1.lastS = updsS σ.lastS ws ∧ (σ.writes ws).1.steps = σ.steps + ws.length + 1
  | [], σ, h => Dr.on_flush h
  | x :: ws, σ, h => by
    obtain ⟨h1, h2, h3, h4, h5⟩ := Dr.on_write h x.1 x.2
    obtain ⟨g1, g2, g3, g4, g5⟩ := Dr.on_writes ws h2
    rw [Dr.writes, h1]
    exact ⟨g1, g2, g3.trans h3, by rw [updsS, ← h4]; exact g4, by
      show ((σ.write x.1 x.2).1.writes ws).1.steps = _
      rw [g5, h5]; simp; omega⟩
theorem updsS_other : ∀ (ws : List (Nat × List Nat)) (f : Nat → List Nat) (q : Nat), (∀ x ∈ ws, x.1 ≠ q) → updsS f ws q = f q
  | [], _, _, _ => rfl
  | x :: ws, f, q, h => by
    rw [updsS, updsS_other ws _ q fun y hy => h y (List.mem_cons_of_mem _ hy)]
    exact if_neg fun e => h x (List.mem_cons_self ..) e.symm
theorem updsS_app : ∀ (a b : List (Nat × List Nat)) (f : Nat → List Nat), updsS f (a ++ b) = updsS (updsS f a) b
  | [], _, _ => rfl
  | x :: a, b, f => updsS_app a b _
theorem updsS_area (f : Nat → List Nat) (σ : Ct) (n g : Nat) : ∀ k i, i < k → updsS f (areaW σ n g k) (areaAtN n g + i) = sealB ⟨2, areaAtN n g + i, 0, 0, g⟩ (σ.bodyN i 118)
  | 0, _, h => by omega
  | k + 1, i, h => by
    rw [areaW_succ, updsS_app]
    show updS _ _ _ _ = _
    unfold updS
    by_cases e : i = k
    · subst e; rw [if_pos rfl]
    · rw [if_neg (by omega)]; exact updsS_area f σ n g k i (by omega)
/-- which superblock counts -/
def NewerIs (s : Nat) (la lb : List Nat) (g slot : Nat) : Prop :=
  (IsSup s 0 la none ∧ IsSup s 1 lb (some g) ∧ slot = 1) ∨ (IsSup s 0 la (some g) ∧ IsSup s 1 lb none ∧ slot = 0) ∨ (∃ h, h < g ∧ IsSup s 0 la (some h) ∧ IsSup s 1 lb (some g) ∧ slot = 1) ∨ (∃ h, h ≤ g ∧ IsSup s 0 la (some g) ∧ IsSup s 1 lb (some h) ∧ slot = 0)
theorem snewer_c {a b : Option Addr} {c d : Nat} {la lb : List Nat} (s g slot : Nat) (h : NewerIs s la lb g slot) :
    Ctr Try.prog 32 [.slice a 256 c, .slice b 256 d] [SA none 1 (.slice a 256 c) 256 (byR la), SA none 1 (.slice b 256 d) 256 (byR lb)]
    (fun v Bs => v = .tuple #[.agg (supL g s).toArray, .int .i64 (slot : Int), .int .i64 0] ∧ Bs = []) := by
  rcases h with ⟨h1, h2, rfl⟩ | ⟨h1, h2, rfl⟩ | ⟨x, hx, h1, h2, rfl⟩ | ⟨x, hx, h1, h2, rfl⟩
  · exact snewerB_c s g h1 h2
  · exact snewerA_c s g h1 h2
  · exact snewerAB_c s x g hx h1 h2
  · exact snewerBA_c s g x hx h1 h2
theorem NewerIs.ok {s g slot : Nat} {la lb : List Nat} (h : NewerIs s la lb g slot) : supOk g s := by
  rcases h with ⟨h1, h2, rfl⟩ | ⟨h1, h2, rfl⟩ | ⟨x, hx, h1, h2, rfl⟩ | ⟨x, hx, h1, h2, rfl⟩
  · exact h2.1
  · exact h1.1
  · exact h2.1
  · exact h1.1
/-- what a disk has that is mounted: the generation, and the bytes of the counts -/
structure Mnt (f : Nat → List Nat) (n g : Nat) (ls : Nat → List Nat) : Prop where
  new : ∃ slot, NewerIs n (f 0) (f 1) g slot
  area : ∀ i, i < areaN n → f (areaAtN n g + i) = sealB ⟨2, areaAtN n g + i, 0, 0, g⟩ (ls i)
  len : ∀ i, i < areaN n → (ls i).length = 236
  bys : ∀ i, Bys (ls i)
  ok : ctOk n ls (areaN n * 118)
theorem zero_not_sup (slot : Nat) : ¬ checkOk (List.replicate 256 0) 1 slot := by
  intro h
  have h1 := h.2.1
  unfold openH at h1
  dsimp only at h1
  rw [List.drop_replicate, List.take_replicate, numB_zeros] at h1
  omega
end Go.Proofs.Ytldonbnjefhfdaa
/- pool.Mount. -/
namespace Go.Proofs.Ytldonbnjefhfdaa
open Go.Cam
set_option maxRecDepth 100000
abbrev volsT (t : List Value) : List Value := .string ByteArray.empty :: .bool false :: .int .i64 0 :: .int .i64 0 :: .string ByteArray.empty :: .bool false :: .int .i64 0 :: .int .i64 0 :: .string ByteArray.empty :: .bool false :: .int .i64 0 :: .int .i64 0 :: .string ByteArray.empty :: .bool false :: .int .i64 0 :: .int .i64 0 ::
  .string ByteArray.empty :: .bool false :: .int .i64 0 :: .int .i64 0 :: .string ByteArray.empty :: .bool false :: .int .i64 0 :: .int .i64 0 :: .string ByteArray.empty :: .bool false :: .int .i64 0 :: .int .i64 0 :: .string ByteArray.empty :: .bool false :: .int .i64 0 :: .int .i64 0 :: t
/-- the cells of a pool -/
abbrev poolL (b g n bc m : Nat) : List Value := .pointer (some ⟨b, 0, none⟩) :: .int .i64 (g : Int) :: .int .i64 (n : Int) :: .int .i64 0 :: volsT [.pointer (some ⟨bc, 0, none⟩), .map (some m)]
abbrev pool0L : List Value := .pointer none :: .int .i64 0 :: .int .i64 0 :: .int .i64 0 :: volsT [.pointer none, .map none]
theorem pool_fill (b g n bc m : Nat) : FillL [(0, 1), (1, 35), (36, 1), (37, 1)] pool0L [(0, .pointer (some ⟨b, 0, none⟩)), (1, .agg (supL g n).toArray), (2, .pointer (some ⟨bc, 0, none⟩)), (3, .map (some m))] (poolL b g n bc m) :=
  fill_cons (by infer_instance) (by infer_instance) (by infer_instance) (by infer_instance) (by infer_instance) (fill_cons (by infer_instance) (by infer_instance) (by infer_instance) (by infer_instance) (by infer_instance) (fill_cons (by infer_instance) (by infer_instance) (by infer_instance) (by infer_instance) (by infer_instance) (fill_cons (by infer_instance) (by infer_instance) (by infer_instance) (by infer_instance) (by infer_instance) (by infer_instance))))
set_option maxHeartbeats 16000000 in
theorem pmount_c (b : Nat) (σ : Dr) (g : Nat) (ls : Nat → List Nat) (hoff : σ.off = false) (hst : σ.steps < 900000000) (h1 : 32 ≤ σ.n) (h2 : σ.n ≤ 2048) (hm : Mnt σ.lastS σ.n g ls) : Ctr Try.prog 12 [.pointer (some ⟨b, 0, none⟩)] [DrA b σ]
    (fun v Bs => ∃ p bc m, v = .tuple #[.pointer (some ⟨p, 0, none⟩), .int .i64 0] ∧ Bs = [DrA b σ, Box p 78 (poolL b g σ.n bc m), CtA bc ⟨σ.n, ctNow ls (areaN σ.n * 118), ctNow ls (areaN σ.n * 118)⟩, MG m (fun _ => none)]) := by
  have ha : areaN σ.n < 100 := by unfold areaN; omega
  obtain ⟨slot, hnew⟩ := hm.new
  obtain ⟨hg1, hg2, _, _⟩ := hnew.ok
  have hlt := areaAtN_lt g h1 h2
  refine s_enter 117 [(0, _)] (fun F => [_, F]) Try.func12 fun F => ?_
  refine go_ ?_
  refine s_call (sp := (by repeat (first | exact Split.nil | apply Split.perx (by repeat (first | with_reducible exact Sel.here | with_reducible apply Sel.there)) (by infer_instance) | apply Split.cons (by repeat (first | with_reducible exact Sel.here | with_reducible apply Sel.there))))) (hs := dread_c b σ 0 (by omega) (by omega)) (h := ?_)
  rintro v Bs (⟨ho, _⟩ | ⟨_, ra, rfl, rfl⟩)
  · rw [hoff] at ho; cases ho
  refine go_ ?_
  refine s_call (sp := (by repeat (first | exact Split.nil | apply Split.perx (by repeat (first | with_reducible exact Sel.here | with_reducible apply Sel.there)) (by infer_instance) | apply Split.cons (by repeat (first | with_reducible exact Sel.here | with_reducible apply Sel.there))))) (hs := dread_c b σ 1 (by omega) (by omega)) (h := ?_)
  rintro v Bs (⟨ho, _⟩ | ⟨_, rb, rfl, rfl⟩)
  · rw [hoff] at ho; cases ho
  refine go_ ?_
  refine s_call (sp := (by repeat (first | exact Split.nil | apply Split.perx (by repeat (first | with_reducible exact Sel.here | with_reducible apply Sel.there)) (by infer_instance) | apply Split.cons (by repeat (first | with_reducible exact Sel.here | with_reducible apply Sel.there))))) (hs := snewer_c σ.n g slot hnew) (h := ?_)
  rintro v Bs ⟨rfl, rfl⟩
  refine go_ ?_
  refine s_alloc fun r8 => ?_
  refine go_ ?_
  refine s_opn (φ := DrOk σ) (X := Dr.parts b σ) (by repeat (first | with_reducible exact Sel.here | with_reducible apply Sel.there)) fun x hx => ?_
  unfold Dr.parts
  refine s_nrm ?_
  refine s_drawN 0 [.q 0, .q 1, .q 2, .q 3, .q 4, .q 5, .q 6, .q 7, .q 8] ?_
  refine do_ ?_
  refine d_call (ho := rfl) (v := .int .i64 (σ.n : Nat)) (sp := (by repeat (first | exact Split.nil | apply Split.perx (by repeat (first | with_reducible exact Sel.here | with_reducible apply Sel.there)) (by infer_instance) | apply Split.cons (by repeat (first | with_reducible exact Sel.here | with_reducible apply Sel.there))))) (hs := size_c b σ x) (hq := by rintro r Bs ⟨rfl, rfl⟩; exact ⟨rfl, (by (try simp only [List.cons_append, List.nil_append]); repeat (first | exact Ent.nil | refine Ent.per (by repeat (first | with_reducible exact Sel.here | with_reducible apply Sel.there)) ?_ | refine Ent.cons (by repeat (first | with_reducible exact Sel.here | with_reducible apply Sel.there)) ?_))⟩) (h := ?_)
  refine do_ ?_
  refine go_ ?_
  refine s_cls (φ := DrOk σ) (X := Dr.parts b σ) x hx (by repeat (first | exact Split.nil | apply Split.perx (by repeat (first | with_reducible exact Sel.here | with_reducible apply Sel.there)) (by infer_instance) | apply Split.cons (by repeat (first | with_reducible exact Sel.here | with_reducible apply Sel.there)))) ?_
  refine go_ ?_
  rw [show (((σ.n : Nat) : Int) != ((σ.n : Nat) : Int)) = false by simp]
  refine go_ ?_
  refine s_call (sp := (by repeat (first | exact Split.nil | apply Split.perx (by repeat (first | with_reducible exact Sel.here | with_reducible apply Sel.there)) (by infer_instance) | apply Split.cons (by repeat (first | with_reducible exact Sel.here | with_reducible apply Sel.there))))) (hs := areaAt_c σ.n g (by omega) (by omega)) (h := ?_)
  rintro v Bs ⟨rfl, rfl⟩
  refine go_ ?_
  refine s_newO (e := 37) (sz := 1) (row := bodR fun _ => (none, 0)) ?_
  refine s_fam0 (F := bodF (fun _ => (none, 0)) ls) ?_
  refine s_loop (fun q : Nat × (Nat → Option Addr × Nat) × Option Addr × Nat => [(0, .pointer (some ⟨b, 0, none⟩)), (8, .pointer (some ⟨r8, 0, none⟩)), (10, .int .i64 (areaAtN σ.n g : Nat)), (12, .slice q.2.2.1 q.1 q.2.2.2), (57, .int .i64 (areaN σ.n : Nat)), (58, .int .i64 q.1)])
    (fun q => [DrA b σ, SO 37 1 (.slice q.2.2.1 q.1 q.2.2.2) q.1 (bodR q.2.1), Fam q.1 (bodF q.2.1 ls), Box r8 47 (.int .i64 (g : Int) :: .int .i64 (σ.n : Int) :: .int .i64 0 :: vols0L), F]) (fun q => q.1 ≤ areaN σ.n) (fun q => areaN σ.n - q.1) (0, fun _ => (none, 0), none, 0) (Nat.zero_le _) (by repeat (first | exact Ent.nil | refine Ent.per (by repeat (first | with_reducible exact Sel.here | with_reducible apply Sel.there)) ?_ | refine Ent.cons (by repeat (first | with_reducible exact Sel.here | with_reducible apply Sel.there)) ?_)) ?_
  rintro ⟨i, w, a, c⟩ hi next
  dsimp only at hi next ⊢
  refine go_ ?_
  refine s_if (fun h => ?_) (fun h => ?_)
  · have hi2 : i < areaN σ.n := by omega
    have hli := hm.len i hi2
    have hsl := hm.area i hi2
    obtain ⟨o1, o2, o3⟩ := open_seal (areaHd_ok h1 h2 hg2 hi2) (hm.bys i) (by omega : (ls i).length ≤ 236)
    have hl256 := sealB_len (h := ⟨2, areaAtN σ.n g + i, 0, 0, g⟩) (body := ls i) (by omega)
    have hbys := sealB_bys (h := ⟨2, areaAtN σ.n g + i, 0, 0, g⟩) (hm.bys i)
    rw [hli, Nat.sub_self, List.replicate_zero, List.append_nil] at o3
    rw [← hsl] at o1 o2 o3 hl256 hbys
    refine go_ ?_
    refine s_call (sp := (by repeat (first | exact Split.nil | apply Split.perx (by repeat (first | with_reducible exact Sel.here | with_reducible apply Sel.there)) (by infer_instance) | apply Split.cons (by repeat (first | with_reducible exact Sel.here | with_reducible apply Sel.there))))) (hs := dread_c b σ (areaAtN σ.n g + i) (by omega) (by omega)) (h := ?_)
    rintro v Bs (⟨ho, _⟩ | ⟨_, rx, rfl, rfl⟩)
    · rw [hoff] at ho; cases ho
    refine go_ ?_
    refine s_call (sp := (by repeat (first | exact Split.nil | apply Split.perx (by repeat (first | with_reducible exact Sel.here | with_reducible apply Sel.there)) (by infer_instance) | apply Split.cons (by repeat (first | with_reducible exact Sel.here | with_reducible apply Sel.there))))) (hs := check_c (σ.lastS (areaAtN σ.n g + i)) 2 (areaAtN σ.n g + i) hl256 hbys) (h := ?_)
    rintro v Bs (⟨hno, _⟩ | ⟨_, a2, c2, rfl, rfl⟩)
    · exact absurd ⟨o1, by rw [o2], by rw [o2]⟩ hno
    rw [o2, o3]
    refine go_ ?_
    refine s_alloc fun r16 => ?_
    refine go_ ?_
    rw [show (((⟨2, areaAtN σ.n g + i, 0, 0, g⟩ : Head).gen : Int) != (g : Int)) = false by simp]
    refine go_ ?_
    refine s_step (st_bs1 (sz := 1) (cells := [.slice a2 236 c2]) rfl) ?_
    rintro _ _ ⟨a3, rfl, rfl⟩
    refine go_ ?_
    refine s_step (st_appO (a := a) (len := i) (cap := c) (b := a3) (m := 1) (c := 1) (by repeat (first | with_reducible exact Sel.here | with_reducible apply Sel.there)) (by repeat (first | with_reducible exact SelR.here | with_reducible apply SelR.there)) (by rw [flat_one]; rfl)) ?_
    rintro _ _ ⟨a4, c4, rfl, rfl⟩
    refine s_open (SO.cg (bodR (wset w i (a2, c2))) fun q hq => ?_) ?_
    · unfold rcat bodR wset
      by_cases hq2 : q < i
      · rw [if_pos hq2, if_neg (by omega)]
      · rw [if_neg hq2, if_pos (by omega)]
    refine s_front (a := Fam i (bodF w ls)) (by repeat (first | with_reducible exact Sel.here | with_reducible apply Sel.there)) (s_open (Fam.cg (bodF (wset w i (a2, c2)) ls) fun q hq H M hh => ?_) ?_)
    · unfold bodF wset at *
      rw [if_neg (by omega)]; exact hh
    refine s_front (a := SA none 1 (.slice a2 236 c2) 236 (byR (ls i))) (by repeat (first | with_reducible exact Sel.here | with_reducible apply Sel.there)) (s_open (B := bodF (wset w i (a2, c2)) ls i) (fun _ _ q => ?_) ?_)
    · unfold bodF wset; rw [if_pos rfl]; exact q
    refine s_famS (m := i) (F := bodF (wset w i (a2, c2)) ls) (by repeat (first | with_reducible exact Sel.here | with_reducible apply Sel.there)) (by repeat (first | with_reducible exact Sel.here | with_reducible apply Sel.there)) ?_
    refine go_ ?_
    exact s_entF (by repeat (first | exact Ent.nil | refine Ent.per (by repeat (first | with_reducible exact Sel.here | with_reducible apply Sel.there)) ?_ | refine Ent.cons (by repeat (first | with_reducible exact Sel.here | with_reducible apply Sel.there)) ?_)) (s_keep _ (next (i + 1, wset w i (a2, c2), a4, c4) (by dsimp only; omega) (by dsimp only; omega)))
  · have : i = areaN σ.n := by omega
    subst this
    refine go_ ?_
    refine s_fzO (e := 37) (v := .slice a (areaN σ.n) c) (by repeat (first | with_reducible exact Sel.here | with_reducible apply Sel.there)) ?_
    refine s_call (sp := (by repeat (first | exact Split.nil | apply Split.perx (by repeat (first | with_reducible exact Sel.here | with_reducible apply Sel.there)) (by infer_instance) | apply Split.cons (by repeat (first | with_reducible exact Sel.here | with_reducible apply Sel.there))))) (hs := cload_c σ.n h1 h2 w ls hm.len hm.bys) (h := ?_)
    rintro v Bs (⟨_, bc, rfl, rfl⟩ | ⟨hno, _⟩)
    · refine go_ ?_
      refine s_step st_mkm ?_
      rintro _ _ ⟨m, rfl, rfl⟩
      refine go_ ?_
      refine s_look (lk_bd4 (r := poolL b g σ.n bc m) (hf := pool_fill b g σ.n bc m)) ?_
      refine s_box (c := poolL b g σ.n bc m) fun p => ?_
      refine go_ ?_
      exact s_rett (rs := [.tmp 2, .tmp 3]) (vs := [_, _]) Try.func12 rfl (by intro j; refine RVS.tmp _ rfl ?_; refine RVS.tmp _ rfl ?_; exact RVS.nil) rfl (⟨p, bc, m, rfl, rfl⟩) (by repeat (first | exact Ent.nil | refine Ent.per (by repeat (first | with_reducible exact Sel.here | with_reducible apply Sel.there)) ?_ | refine Ent.cons (by repeat (first | with_reducible exact Sel.here | with_reducible apply Sel.there)) ?_))
    · exact absurd hm.ok hno
end Go.Proofs.Ytldonbnjefhfdaa
