/- seal.may, seal.Seal. -/
import Derived.Test.YtldonbnjefhfdaaCrsQ
import Derived.Test.YtldonbnjefhfdaaCamAM
namespace Go.Proofs.Ytldonbnjefhfdaa
open Go.Cam
set_option maxRecDepth 100000
structure Head where
  kind : Nat
  addr : Nat
  count : Nat
  level : Nat
  gen : Nat
  deriving DecidableEq
abbrev Head.v (h : Head) : Value := .agg #[.int .i64 (h.kind : Int), .int .i64 (h.addr : Int), .int .i64 (h.count : Int), .int .i64 (h.level : Int), .int .i64 (h.gen : Int)]
def Head.lo (h : Head) : Nat → Nat | 0 => h.level | 1 => h.addr | 2 => h.count | _ => h.gen
def hdHi : Nat → Nat | 0 => 8 | 1 => 2047 | 2 => 65535 | _ => 1099511627775
def Head.ok (h : Head) : Prop := 1 ≤ h.kind ∧ h.kind ≤ 6 ∧ ∀ i, i < 4 → h.lo i ≤ hdHi i
instance (h : Head) : Decidable h.ok := inferInstanceAs (Decidable (_ ∧ _ ∧ _))
theorem hmay_c (h : Head) : Ctr Try.prog 52 [h.v] [] (fun r Bs => r = .bool (decide h.ok) ∧ Bs = []) := by
  refine s_enter 42 [(0, _)] (fun F => [F]) Try.func52 fun F => ?_
  refine go_ ?_
  refine s_box fun r1 => ?_
  refine go_ ?_
  cases hk : decide ((h.kind : Int) < 1) with
  | true =>
    have h1 := of_decide_eq_true hk
    refine go_ ?_
    exact s_ret1 (rs := [.tmp 2]) Try.func52 rfl (by intro j; refine RVS.tmp _ rfl ?_; exact RVS.nil) (⟨by rw [decide_eq_false]; intro h2; have := h2.1; omega, rfl⟩) (by repeat (first | exact Ent.nil | refine Ent.per (by repeat (first | with_reducible exact Sel.here | with_reducible apply Sel.there)) ?_ | refine Ent.cons (by repeat (first | with_reducible exact Sel.here | with_reducible apply Sel.there)) ?_))
  | false =>
    have h1 := of_decide_eq_false hk
    refine go_ ?_
    refine s_if (fun h2 => ?_) (fun h2 => ?_)
    · refine go_ ?_
      exact s_ret1 (rs := [.tmp 2]) Try.func52 rfl (by intro j; refine RVS.tmp _ rfl ?_; exact RVS.nil) (⟨by rw [decide_eq_false]; intro h3; have := h3.2.1; omega, rfl⟩) (by repeat (first | exact Ent.nil | refine Ent.per (by repeat (first | with_reducible exact Sel.here | with_reducible apply Sel.there)) ?_ | refine Ent.cons (by repeat (first | with_reducible exact Sel.here | with_reducible apply Sel.there)) ?_))
    · refine go_ ?_
      refine s_look (lk_bda #[.int .i64 (h.level : Int), .int .i64 8]) ?_
      refine go_ ?_
      refine s_look (lk_bda #[.int .i64 (h.addr : Int), .int .i64 2047]) ?_
      refine go_ ?_
      refine s_look (lk_bda #[.int .i64 (h.count : Int), .int .i64 65535]) ?_
      refine go_ ?_
      refine s_look (lk_bda #[.int .i64 (h.gen : Int), .int .i64 1099511627775]) ?_
      refine go_ ?_
      refine s_bs (cells := [.int .i64 (h.level : Int), .int .i64 8, .int .i64 (h.addr : Int), .int .i64 2047, .int .i64 (h.count : Int), .int .i64 65535, .int .i64 (h.gen : Int), .int .i64 1099511627775]) (fun o => ?_) (fun j => rfl)
      refine s_open (SA.cg (fun i => [.int .i64 (h.lo i : Nat), .int .i64 (hdHi i : Nat)]) fun i hi => by match i, hi with | 0, _ => rfl | 1, _ => rfl | 2, _ => rfl | 3, _ => rfl) ?_
      refine go_ ?_
      refine s_loop (fun i : Nat => [(25, .slice o 4 4), (26, .int .i64 4), (27, .int .i64 i)]) (fun _ => [SA (some 144) 2 (.slice o 4 4) 4 (fun i => [.int .i64 (h.lo i : Nat), .int .i64 (hdHi i : Nat)]), F]) (fun i => i ≤ 4 ∧ ∀ q, q < i → h.lo q ≤ hdHi q) (fun i => 4 - i) 0 ⟨by omega, fun q hq => by omega⟩ (by repeat (first | exact Ent.nil | refine Ent.per (by repeat (first | with_reducible exact Sel.here | with_reducible apply Sel.there)) ?_ | refine Ent.cons (by repeat (first | with_reducible exact Sel.here | with_reducible apply Sel.there)) ?_)) ?_
      rintro i ⟨hi, hq⟩ next
      refine go_ ?_
      refine s_if (fun h4 => ?_) (fun h4 => ?_)
      · refine go_ ?_
        refine s_alloc fun r4 => ?_
        refine s_st ?_
        refine go_ ?_
        cases hz : decide (((h.lo i : Nat) : Int) < 0) with
        | true => have := of_decide_eq_true hz; omega
        | false =>
          refine go_ ?_
          refine s_if (fun h5 => ?_) (fun h5 => ?_)
          · refine go_ ?_
            exact s_ret1 (rs := [.tmp 2]) Try.func52 rfl (by intro j; refine RVS.tmp _ rfl ?_; exact RVS.nil) (⟨by rw [decide_eq_false]; intro h3; have := h3.2.2 i (by omega); omega, rfl⟩) (by repeat (first | exact Ent.nil | refine Ent.per (by repeat (first | with_reducible exact Sel.here | with_reducible apply Sel.there)) ?_ | refine Ent.cons (by repeat (first | with_reducible exact Sel.here | with_reducible apply Sel.there)) ?_))
          · refine go_ ?_
            exact s_entF (by repeat (first | exact Ent.nil | refine Ent.per (by repeat (first | with_reducible exact Sel.here | with_reducible apply Sel.there)) ?_ | refine Ent.cons (by repeat (first | with_reducible exact Sel.here | with_reducible apply Sel.there)) ?_)) (s_keep _ (next (i + 1) ⟨by omega, fun q hq2 => by by_cases h6 : q < i; exact hq q h6; have e : q = i := (by omega); subst e; omega⟩ (by omega)))
      · have : i = 4 := by omega
        subst this
        refine go_ ?_
        exact s_ret1 (rs := [.tmp 2]) Try.func52 rfl (by intro j; refine RVS.tmp _ rfl ?_; exact RVS.nil) (⟨by rw [decide_eq_true]; exact ⟨by omega, by omega, hq⟩, rfl⟩) (by repeat (first | exact Ent.nil | refine Ent.per (by repeat (first | with_reducible exact Sel.here | with_reducible apply Sel.there)) ?_ | refine Ent.cons (by repeat (first | with_reducible exact Sel.here | with_reducible apply Sel.there)) ?_))
end Go.Proofs.Ytldonbnjefhfdaa
/- seal.Seal. -/
namespace Go.Proofs.Ytldonbnjefhfdaa
open Go.Cam
set_option maxRecDepth 100000
theorem put_f {a : Option Addr} {c : Nat} (l : List Nat) (x n : Nat) (h1 : 1 ≤ n) (h8 : n ≤ 8) (hx : x < 9223372036854775808) (hl : l.length < 1000000) : Ctr Try.prog 50 [.slice a l.length c, .int .i64 (x : Int), .int .i64 (n : Int)] [BS (.slice a l.length c) l]
    (fun v Bs => ∃ a' cap, v = .slice a' (l ++ putN x n).length cap ∧ Bs = [BS (.slice a' (l ++ putN x n).length cap) (l ++ putN x n)]) :=
  (put_c l x n h1 h8 hx hl).view fun v Bs ⟨a', cap, hv, hb⟩ => ⟨_, ⟨a', cap, hv, rfl⟩, by rw [hb]; exact View.fz⟩
theorem bs_nil {H M : Heap} : (Sat [BS (.slice none ([] : List Nat).length 0) []]).p H M := sat1 ⟨none, 0, rfl, Nat.le_refl _, fun i hi => by simp at hi, fun h => by simp at h⟩
theorem put_f0 (x n : Nat) (h1 : 1 ≤ n) (h8 : n ≤ 8) (hx : x < 9223372036854775808) : Ctr Try.prog 50 [.slice none 0 0, .int .i64 (x : Int), .int .i64 (n : Int)] []
    (fun v Bs => ∃ a' cap, v = .slice a' (putN x n).length cap ∧ Bs = [BS (.slice a' (putN x n).length cap) (putN x n)]) :=
  (put_f (a := none) (c := 0) [] x n h1 h8 hx (by simp)).pre fun _ _ _ => bs_nil
theorem putN_lt (x n : Nat) : Bys (putN x n) := fun c hc => by
  obtain ⟨i, _, rfl⟩ := List.mem_map.1 hc; exact Nat.mod_lt _ (by decide)
/-- a block's header, behind its sum -/
@[reducible] def hdrB (h : Head) : List Nat := putN h.kind 1 ++ putN h.level 1 ++ putN h.addr 2 ++ putN h.count 2 ++ putN h.gen 5
theorem hdrB_len (h : Head) : (hdrB h).length = 11 := by simp [hdrB, putN_len]
/-- a block, behind its sum -/
def sealT (h : Head) (body : List Nat) : List Nat := hdrB h ++ List.replicate 5 0 ++ body ++ List.replicate (236 - body.length) 0
def sealB (h : Head) (body : List Nat) : List Nat := putN (sumB (sealT h body)) 4 ++ sealT h body
theorem sealT_len {h : Head} {body : List Nat} (hb : body.length ≤ 236) : (sealT h body).length = 252 := by simp [sealT, putN_len]; omega
theorem sealB_len {h : Head} {body : List Nat} (hb : body.length ≤ 236) : (sealB h body).length = 256 := by simp [sealB, sealT_len hb, putN_len]
theorem sealT_bys {h : Head} {body : List Nat} (hb : Bys body) : Bys (sealT h body) :=
  ((((((((putN_lt _ _).app (putN_lt _ _)).app (putN_lt _ _)).app (putN_lt _ _)).app (putN_lt _ _))).app (Bys.zeros _)).app hb).app (Bys.zeros _)
theorem sealB_bys {h : Head} {body : List Nat} (hb : Bys body) : Bys (sealB h body) := (putN_lt _ _).app (sealT_bys hb)
theorem over_app (a b c x : List Nat) (h : b.length = x.length) : over (a ++ b ++ c) a.length x = a ++ x ++ c := by
  unfold over
  rw [List.append_assoc a b c, List.take_left' rfl, ← h, ← List.append_assoc a b c, List.drop_left' (by simp)]
theorem over2 (h : Head) (body : List Nat) (hb : body.length ≤ 236) : over (over (List.replicate 256 0) 4 (hdrB h)) 20 body = List.replicate 4 0 ++ sealT h body := by
  have e1 : List.replicate 256 0 = List.replicate 4 0 ++ List.replicate 11 0 ++ List.replicate 241 0 := by rw [List.replicate_append_replicate, List.replicate_append_replicate]
  have e2 : over (List.replicate 256 0) 4 (hdrB h) = List.replicate 4 0 ++ hdrB h ++ List.replicate 241 0 := by
    rw [e1]; exact over_app (List.replicate 4 0) _ _ _ (by simp [putN_len])
  rw [e2]
  have e3 : List.replicate 241 0 = List.replicate 5 0 ++ (List.replicate body.length 0 ++ List.replicate (236 - body.length) 0) := by rw [List.replicate_append_replicate, List.replicate_append_replicate]; congr 1; omega
  rw [e3]
  have := over_app (List.replicate 4 0 ++ hdrB h ++ List.replicate 5 0) (List.replicate body.length 0) (List.replicate (236 - body.length) 0) body (by simp)
  have e6 : (List.replicate 4 0 ++ hdrB h ++ List.replicate 5 0).length = 20 := by simp [putN_len]
  rw [e6] at this
  simpa [sealT, List.append_assoc] using this
theorem over_seal (h : Head) (body s : List Nat) (hb : body.length ≤ 236) (hs : s.length = 4) :
    over (over (over (List.replicate 256 0) 4 (hdrB h)) 20 body) 0 s = s ++ sealT h body := by
  rw [over2 h body hb]
  have := over_app [] (List.replicate 4 0) (sealT h body) s (by simp [hs])
  simpa using this
theorem drop4_seal (h : Head) (body : List Nat) (hb : body.length ≤ 236) : (over (over (List.replicate 256 0) 4 (hdrB h)) 20 body).drop 4 = sealT h body := by
  rw [over2 h body hb]; rfl
set_option maxHeartbeats 2000000 in
theorem seal_c {a : Option Addr} {c : Nat} (h : Head) (body : List Nat) (ho : h.ok) (hb : Bys body) (hl : body.length ≤ 236) : Ctr Try.prog 28 [h.v, .slice a body.length c] [BS (.slice a body.length c) body]
    (fun v Bs => ∃ r, v = .tuple #[.slice (some ⟨r, 0, none⟩) 256 256, .int .i64 0] ∧ Bs = [SA none 1 (.slice (some ⟨r, 0, none⟩) 256 256) 256 (byR (sealB h body))]) := by
  have hg : h.gen < 9223372036854775808 := by have := ho.2.2 3 (by omega); simp only [Head.lo, hdHi] at this; omega
  have hk : h.kind < 9223372036854775808 := by have := ho.2.1; omega
  have hlv : h.level < 9223372036854775808 := by have := ho.2.2 0 (by omega); simp only [Head.lo, hdHi] at this; omega
  have had : h.addr < 9223372036854775808 := by have := ho.2.2 1 (by omega); simp only [Head.lo, hdHi] at this; omega
  have hct : h.count < 9223372036854775808 := by have := ho.2.2 2 (by omega); simp only [Head.lo, hdHi] at this; omega
  refine s_enter 48 [(0, _), (1, _)] (fun F => [_, F]) Try.func28 fun F => ?_
  refine go_ ?_
  refine s_box fun r2 => ?_
  refine go_ ?_
  refine s_call (sp := (by repeat (first | exact Split.nil | apply Split.perx (by repeat (first | with_reducible exact Sel.here | with_reducible apply Sel.there)) (by infer_instance) | apply Split.cons (by repeat (first | with_reducible exact Sel.here | with_reducible apply Sel.there))))) (hs := hmay_c h) (h := ?_)
  rintro v Bs ⟨rfl, rfl⟩
  rw [show decide h.ok = true from decide_eq_true ho]
  refine go_ ?_
  refine s_if (fun h2 => ?_) (fun h2 => ?_)
  · exact absurd h2 (by omega)
  refine go_ ?_
  refine s_step (st_mk (len := 256) (o1 := ⟨rfl⟩)) ?_
  rintro _ _ ⟨ab, rfl, rfl⟩
  refine s_full (m := 256) (by repeat (first | with_reducible exact Sel.here | with_reducible apply Sel.there)) (by decide) fun rb eb => ?_
  subst eb
  refine s_open (B := BA rb 5 (List.replicate 256 0)) (fun _ _ q => q) ?_
  refine go_ ?_
  refine s_drawN 0 [.q 0, .q 1, .q 3, .q 4, .q 6, .q 7, .s 2, .s 5, .s 8, .q 9] ?_
  refine do_ ?_
  refine d_step rfl (st_call (sp := (by repeat (first | exact Split.nil | apply Split.perx (by repeat (first | with_reducible exact Sel.here | with_reducible apply Sel.there)) (by infer_instance) | apply Split.cons (by repeat (first | with_reducible exact Sel.here | with_reducible apply Sel.there))))) (hs := put_f0 h.kind 1 (by omega) (by omega) hk)) ?_
  rintro v Bs ⟨Cs, ⟨a1, c1, rfl, rfl⟩, rfl⟩
  refine do_ ?_
  refine d_step rfl (st_call (sp := (by repeat (first | exact Split.nil | apply Split.perx (by repeat (first | with_reducible exact Sel.here | with_reducible apply Sel.there)) (by infer_instance) | apply Split.cons (by repeat (first | with_reducible exact Sel.here | with_reducible apply Sel.there))))) (hs := put_f (putN h.kind 1) h.level 1 (by omega) (by omega) hlv (by simp [putN_len]))) ?_
  rintro v Bs ⟨Cs, ⟨a2, c2, rfl, rfl⟩, rfl⟩
  refine do_ ?_
  refine d_step rfl (st_call (sp := (by repeat (first | exact Split.nil | apply Split.perx (by repeat (first | with_reducible exact Sel.here | with_reducible apply Sel.there)) (by infer_instance) | apply Split.cons (by repeat (first | with_reducible exact Sel.here | with_reducible apply Sel.there))))) (hs := put_f (putN h.kind 1 ++ putN h.level 1) h.addr 2 (by omega) (by omega) had (by simp [putN_len]))) ?_
  rintro v Bs ⟨Cs, ⟨a3, c3, rfl, rfl⟩, rfl⟩
  refine do_ ?_
  refine go_ ?_
  refine s_drawN 4 [.q 0, .q 1, .q 2, .q 3, .q 4, .q 6, .q 7, .s 5, .s 8, .s 9] ?_
  refine do_ ?_
  refine d_step rfl (st_call (sp := (by repeat (first | exact Split.nil | apply Split.perx (by repeat (first | with_reducible exact Sel.here | with_reducible apply Sel.there)) (by infer_instance) | apply Split.cons (by repeat (first | with_reducible exact Sel.here | with_reducible apply Sel.there))))) (hs := put_f _ h.count 2 (by omega) (by omega) hct (by simp [putN_len]))) ?_
  rintro v Bs ⟨Cs, ⟨a4, c4, rfl, rfl⟩, rfl⟩
  refine do_ ?_
  refine d_step rfl (st_call (sp := (by repeat (first | exact Split.nil | apply Split.perx (by repeat (first | with_reducible exact Sel.here | with_reducible apply Sel.there)) (by infer_instance) | apply Split.cons (by repeat (first | with_reducible exact Sel.here | with_reducible apply Sel.there))))) (hs := put_f _ h.gen 5 (by omega) (by omega) hg (by simp [putN_len]))) ?_
  rintro v Bs ⟨Cs, ⟨a5, c5, rfl, rfl⟩, rfl⟩
  refine do_ ?_
  refine d_step rfl (st_cpB (b := rb) (off := 4) (n' := 252) (u := a5) (c := c5) (o := List.replicate 256 0) (s := hdrB h) (by repeat (first | with_reducible exact Upd.here | with_reducible apply Upd.there)) (by repeat (first | with_reducible exact SelR.here | with_reducible apply SelR.there)) rfl (by rw [hdrB_len]; decide)) ?_
  rintro _ _ ⟨rfl, rfl⟩
  refine do_ ?_
  refine go_ ?_
  rw [show (List.take 252 (hdrB h)) = hdrB h from List.take_of_length_le (by rw [hdrB_len]; decide)]
  refine s_step (st_cpB (b := rb) (off := 20) (n' := 236) (u := a) (c := c) (o := over (List.replicate 256 0) 4 (hdrB h)) (s := body) (by repeat (first | with_reducible exact Upd.here | with_reducible apply Upd.there)) (by repeat (first | with_reducible exact SelR.here | with_reducible apply SelR.there)) rfl (by rw [over_len (by rw [hdrB_len]; decide)]; simp; omega)) ?_
  rintro _ _ ⟨rfl, rfl⟩
  rw [show (List.take 236 body) = body from List.take_of_length_le hl]
  refine go_ ?_
  haveI hrd := rd_BA (r := rb) (ty := 5) (x := over (over (List.replicate 256 0) 4 (hdrB h)) 20 body) 4 252 252 (by rw [over2 h body hl]; simp [sealT_len hl]) (Nat.le_refl _)
  rw [drop4_seal h body hl, List.take_of_length_le (by rw [sealT_len hl]; decide)] at hrd
  refine s_call (sp := (by repeat (first | exact Split.nil | apply Split.perx (by repeat (first | with_reducible exact Sel.here | with_reducible apply Sel.there)) (by infer_instance) | apply Split.cons (by repeat (first | with_reducible exact Sel.here | with_reducible apply Sel.there))))) (hs := sum_n (A := BA rb 5 (over (over (List.replicate 256 0) 4 (hdrB h)) 20 body)) (a := some ⟨rb, 4, none⟩) (n := 252) (c := 252) (sealT h body) (sealT_len hl) (sealT_bys hb) (by decide)) (h := ?_)
  rintro v Bs ⟨rfl, rfl⟩
  refine go_ ?_
  have hsl := moreB_lt 0 (sealT h body) (by decide) (sealT_bys hb)
  rw [show IntKind.i64.wrap ((sumB (sealT h body) : Nat) : Int) = ((sumB (sealT h body) : Nat) : Int) from wrap_id (by omega) (by unfold sumB; omega)]
  refine s_call (sp := (by repeat (first | exact Split.nil | apply Split.perx (by repeat (first | with_reducible exact Sel.here | with_reducible apply Sel.there)) (by infer_instance) | apply Split.cons (by repeat (first | with_reducible exact Sel.here | with_reducible apply Sel.there))))) (hs := put_f0 (sumB (sealT h body)) 4 (by omega) (by omega) (by unfold sumB; omega)) (h := ?_)
  rintro v Bs ⟨a6, c6, rfl, rfl⟩
  refine go_ ?_
  refine s_step (st_cpB (b := rb) (off := 0) (n' := 256) (u := a6) (c := c6) (o := over (over (List.replicate 256 0) 4 (hdrB h)) 20 body) (s := putN (sumB (sealT h body)) 4) (by repeat (first | with_reducible exact Upd.here | with_reducible apply Upd.there)) (by repeat (first | with_reducible exact SelR.here | with_reducible apply SelR.there)) rfl (by rw [over2 h body hl, putN_len]; simp [sealT_len hl])) ?_
  rintro _ _ ⟨rfl, rfl⟩
  rw [show (List.take 256 (putN (sumB (sealT h body)) 4)) = putN (sumB (sealT h body)) 4 from List.take_of_length_le (by rw [putN_len]; decide), over_seal h body _ hl (putN_len _ _)]
  refine go_ ?_
  refine s_fzB 0 256 256 (by repeat (first | with_reducible exact Sel.here | with_reducible apply Sel.there)) (by omega) (by rw [List.length_append, putN_len, sealT_len hl]; decide) (by omega) ?_
  rw [List.drop_zero, List.take_of_length_le (by rw [List.length_append, putN_len, sealT_len hl]; decide)]
  have e256 : (putN (sumB (sealT h body)) 4 ++ sealT h body).length = 256 := by rw [List.length_append, putN_len, sealT_len hl]
  refine s_open (B := SA none 1 (.slice (some ⟨rb, 0, none⟩) 256 256) 256 (byR (sealB h body))) (fun _ _ q => by rw [show BS (.slice (some ⟨rb, 0, none⟩) (256 - 0) 256) (putN (sumB (sealT h body)) 4 ++ sealT h body) = SA none 1 (.slice (some ⟨rb, 0, none⟩) 256 256) 256 (byR (sealB h body)) from by unfold BS; rw [e256]; rfl] at q; exact q) ?_
  exact s_rett (rs := [.tmp 4, .tmp 5]) (vs := [_, _]) Try.func28 rfl (by intro j; refine RVS.tmp _ rfl ?_; refine RVS.tmp _ rfl ?_; exact RVS.nil) rfl (⟨rb, rfl, rfl⟩) (by repeat (first | exact Ent.nil | refine Ent.per (by repeat (first | with_reducible exact Sel.here | with_reducible apply Sel.there)) ?_ | refine Ent.cons (by repeat (first | with_reducible exact Sel.here | with_reducible apply Sel.there)) ?_))
theorem seal_n {a : Option Addr} {n c : Nat} (h : Head) (body : List Nat) (hn : body.length = n) (ho : h.ok) (hb : Bys body) (hl : n ≤ 236) : Ctr Try.prog 28 [h.v, .slice a n c] [SA none 1 (.slice a n c) n (byR body)]
    (fun v Bs => ∃ r, v = .tuple #[.slice (some ⟨r, 0, none⟩) 256 256, .int .i64 0] ∧ Bs = [SA none 1 (.slice (some ⟨r, 0, none⟩) 256 256) 256 (byR (sealB h body))]) := by
  subst hn; exact seal_c h body ho hb hl
end Go.Proofs.Ytldonbnjefhfdaa
/- counts: New, free, Alloc, Get, Commit, Body; super.Areas. -/
namespace Go.Proofs.Ytldonbnjefhfdaa
open Go.Cam
set_option maxRecDepth 100000
def areaN (n : Nat) : Nat := (n + 117) / 118
def firstN (n : Nat) : Nat := 2 + 2 * areaN n
theorem areas_c (n : Nat) (h : n < 100000) : Ctr Try.prog 42 [.int .i64 (n : Int)] [] (fun v Bs => v = .tuple #[.int .i64 (areaN n : Nat), .int .i64 (firstN n : Nat)] ∧ Bs = []) := by
  refine s_enter 12 [(0, _)] (fun F => [F]) Try.func42 fun F => ?_
  refine go_ ?_
  have e0 : ((n : Int) + 118 - 1).tdiv 118 = ((areaN n : Nat) : Int) := by
    rw [Int.tdiv_eq_ediv_of_nonneg (by omega)]; unfold areaN; omega
  have ha : areaN n < 100000 := by unfold areaN; omega
  rw [e0, wrap_id (x := ((areaN n : Nat) : Int)) (by omega) (by omega), wrap_id (x := 2 * ((areaN n : Nat) : Int)) (by omega) (by omega), wrap_id (x := 2 + 2 * ((areaN n : Nat) : Int)) (by omega) (by omega),
    show 2 + 2 * ((areaN n : Nat) : Int) = ((firstN n : Nat) : Int) by unfold firstN; omega]
  exact s_rett (rs := [.tmp 2, .tmp 3]) (vs := [_, _]) Try.func42 rfl (by intro j; refine RVS.tmp _ rfl ?_; refine RVS.tmp _ rfl ?_; exact RVS.nil) rfl (⟨rfl, rfl⟩) (by repeat (first | exact Ent.nil | refine Ent.per (by repeat (first | with_reducible exact Sel.here | with_reducible apply Sel.there)) ?_ | refine Ent.cons (by repeat (first | with_reducible exact Sel.here | with_reducible apply Sel.there)) ?_))
/-- counts -/
structure Ct where
  n : Nat
  now : Nat → Nat
  done : Nat → Nat
structure CtW where
  a : Option Addr
  c : Nat
  a2 : Option Addr
  c2 : Nat
structure CtOk (σ : Ct) (x : CtW) : Prop where
  n1 : 32 ≤ σ.n
  n2 : σ.n ≤ 2048
  w : ∀ i, σ.now i ≤ 65535
  d : ∀ i, σ.done i ≤ 65535
abbrev intR (f : Nat → Nat) (i : Nat) : List Value := [.int .i64 (f i : Nat)]
abbrev Ct.box (b : Nat) (σ : Ct) (x : CtW) : HP := Box b 105 [.slice x.a σ.n x.c, .slice x.a2 σ.n x.c2, .int .i64 (areaN σ.n : Nat), .int .i64 (firstN σ.n : Nat)]
def Ct.parts (b : Nat) (σ : Ct) (x : CtW) : List HP := [Ct.box b σ x, SA (some 3) 1 (.slice x.a σ.n x.c) σ.n (intR σ.now), SA (some 3) 1 (.slice x.a2 σ.n x.c2) σ.n (intR σ.done)]
abbrev CtA (b : Nat) (σ : Ct) : HP := EX (CtOk σ) (Ct.parts b σ)
abbrev Ct.new (n : Nat) : Ct := ⟨n, fun _ => 0, fun _ => 0⟩
theorem cnew_c (n : Nat) (h1 : 32 ≤ n) (h2 : n ≤ 2048) : Ctr Try.prog 19 [.int .i64 (n : Int)] [] (fun v Bs => ∃ b, v = .tuple #[.pointer (some ⟨b, 0, none⟩), .int .i64 0] ∧ Bs = [CtA b (Ct.new n)]) := by
  refine s_enter 25 [(0, _)] (fun F => [F]) Try.func19 fun F => ?_
  refine go_ ?_
  rw [show decide ((n : Int) < 32) = false from decide_eq_false (by omega)]
  refine go_ ?_
  rw [show decide ((n : Int) > 2048) = false from decide_eq_false (by omega)]
  refine go_ ?_
  refine s_call (sp := (by repeat (first | exact Split.nil | apply Split.perx (by repeat (first | with_reducible exact Sel.here | with_reducible apply Sel.there)) (by infer_instance) | apply Split.cons (by repeat (first | with_reducible exact Sel.here | with_reducible apply Sel.there))))) (hs := areas_c n (by omega)) (h := ?_)
  rintro v Bs ⟨rfl, rfl⟩
  refine go_ ?_
  refine s_drawN 0 [.q 0, .q 2, .q 4, .q 5, .alt 1 3, .q 6, .s 7, .q 8, .q 9] ?_
  refine do_ ?_
  refine d_alt ?_ ?_
  all_goals
    refine d_step rfl (st_mk (len := n) (o1 := ⟨by rfl⟩)) ?_
    rintro v Bs ⟨a1, rfl, rfl⟩
    refine d_open (SA.cg (intR fun _ => 0) fun _ _ => rfl) ?_
    refine d_step rfl (st_mk (len := n) (o1 := ⟨by rfl⟩)) ?_
    rintro v Bs ⟨a2, rfl, rfl⟩
    refine d_open (SA.cg (intR fun _ => 0) fun _ _ => rfl) ?_
    refine do_ ?_
    refine d_step rfl st_box ?_
    rintro v Bs ⟨b, rfl, rfl⟩
    refine do_ ?_
    refine go_ ?_
    refine s_cls (φ := CtOk (Ct.new n)) (X := Ct.parts b (Ct.new n)) ⟨_, n, _, n⟩ ⟨h1, h2, fun _ => Nat.zero_le _, fun _ => Nat.zero_le _⟩ (by repeat (first | exact Split.nil | apply Split.perx (by repeat (first | with_reducible exact Sel.here | with_reducible apply Sel.there)) (by infer_instance) | apply Split.cons (by repeat (first | with_reducible exact Sel.here | with_reducible apply Sel.there)))) ?_
    exact s_rett (rs := [.tmp 2, .tmp 3]) (vs := [_, _]) Try.func19 rfl (by intro j; refine RVS.tmp _ rfl ?_; refine RVS.tmp _ rfl ?_; exact RVS.nil) rfl (⟨b, rfl, rfl⟩) (by repeat (first | exact Ent.nil | refine Ent.per (by repeat (first | with_reducible exact Sel.here | with_reducible apply Sel.there)) ?_ | refine Ent.cons (by repeat (first | with_reducible exact Sel.here | with_reducible apply Sel.there)) ?_))
theorem cget_c (b : Nat) (σ : Ct) (k : Int) : Ctr Try.prog 38 [.pointer (some ⟨b, 0, none⟩), .int .i64 k] [CtA b σ] (fun v Bs => v = .int .i64 (if 0 ≤ k ∧ k < σ.n then σ.now k.toNat else 0 : Nat) ∧ Bs = [CtA b σ]) := by
  refine s_enter 23 [(0, _), (1, _)] (fun F => [_, F]) Try.func38 fun F => ?_
  refine s_opn (by repeat (first | with_reducible exact Sel.here | with_reducible apply Sel.there)) fun x hx => ?_
  unfold Ct.parts
  refine go_ ?_
  cases h : decide (k < 0) with
  | true =>
    have := of_decide_eq_true h
    refine go_ ?_
    refine s_cls (φ := CtOk σ) (X := Ct.parts b σ) x hx (by repeat (first | exact Split.nil | apply Split.perx (by repeat (first | with_reducible exact Sel.here | with_reducible apply Sel.there)) (by infer_instance) | apply Split.cons (by repeat (first | with_reducible exact Sel.here | with_reducible apply Sel.there)))) ?_
    exact s_ret1 (rs := [.tmp 4]) Try.func38 rfl (by intro j; refine RVS.tmp _ rfl ?_; exact RVS.nil) (⟨by rw [if_neg (by omega)]; rfl, rfl⟩) (by repeat (first | exact Ent.nil | refine Ent.per (by repeat (first | with_reducible exact Sel.here | with_reducible apply Sel.there)) ?_ | refine Ent.cons (by repeat (first | with_reducible exact Sel.here | with_reducible apply Sel.there)) ?_))
  | false =>
    have := of_decide_eq_false h
    refine go_ ?_
    refine s_if (fun h2 => ?_) (fun h2 => ?_)
    · refine go_ ?_
      refine s_cls (φ := CtOk σ) (X := Ct.parts b σ) x hx (by repeat (first | exact Split.nil | apply Split.perx (by repeat (first | with_reducible exact Sel.here | with_reducible apply Sel.there)) (by infer_instance) | apply Split.cons (by repeat (first | with_reducible exact Sel.here | with_reducible apply Sel.there)))) ?_
      exact s_ret1 (rs := [.tmp 4]) Try.func38 rfl (by intro j; refine RVS.tmp _ rfl ?_; exact RVS.nil) (⟨by rw [if_neg (by omega)]; rfl, rfl⟩) (by repeat (first | exact Ent.nil | refine Ent.per (by repeat (first | with_reducible exact Sel.here | with_reducible apply Sel.there)) ?_ | refine Ent.cons (by repeat (first | with_reducible exact Sel.here | with_reducible apply Sel.there)) ?_))
    · refine go_ ?_
      refine s_look (lk_ixz k.toNat (m := σ.n) (v := .slice x.a σ.n x.c) (by repeat (first | with_reducible exact SelR.here | with_reducible apply SelR.there))) ?_
      refine go_ ?_
      refine s_cls (φ := CtOk σ) (X := Ct.parts b σ) x hx (by repeat (first | exact Split.nil | apply Split.perx (by repeat (first | with_reducible exact Sel.here | with_reducible apply Sel.there)) (by infer_instance) | apply Split.cons (by repeat (first | with_reducible exact Sel.here | with_reducible apply Sel.there)))) ?_
      exact s_ret1 (rs := [.tmp 4]) Try.func38 rfl (by intro j; refine RVS.tmp _ rfl ?_; exact RVS.nil) (⟨by rw [if_pos (by omega)], rfl⟩) (by repeat (first | exact Ent.nil | refine Ent.per (by repeat (first | with_reducible exact Sel.here | with_reducible apply Sel.there)) ?_ | refine Ent.cons (by repeat (first | with_reducible exact Sel.here | with_reducible apply Sel.there)) ?_))
theorem cfree_c (b : Nat) (σ : Ct) (i : Nat) (hi : i < σ.n) : Ctr Try.prog 60 [.pointer (some ⟨b, 0, none⟩), .int .i64 (i : Int)] [CtA b σ] (fun v Bs => v = .bool (decide (σ.now i = 0 ∧ σ.done i = 0)) ∧ Bs = [CtA b σ]) := by
  refine s_enter 23 [(0, _), (1, _)] (fun F => [_, F]) Try.func60 fun F => ?_
  refine s_opn (by repeat (first | with_reducible exact Sel.here | with_reducible apply Sel.there)) fun x hx => ?_
  unfold Ct.parts
  refine go_ ?_
  cases h : ((σ.now i : Nat) : Int) == 0 with
  | false =>
    have : σ.now i ≠ 0 := by simpa using h
    refine go_ ?_
    refine s_cls (φ := CtOk σ) (X := Ct.parts b σ) x hx (by repeat (first | exact Split.nil | apply Split.perx (by repeat (first | with_reducible exact Sel.here | with_reducible apply Sel.there)) (by infer_instance) | apply Split.cons (by repeat (first | with_reducible exact Sel.here | with_reducible apply Sel.there)))) ?_
    exact s_ret1 (rs := [.tmp 4]) Try.func60 rfl (by intro j; refine RVS.tmp _ rfl ?_; exact RVS.nil) (⟨by rw [decide_eq_false]; omega, rfl⟩) (by repeat (first | exact Ent.nil | refine Ent.per (by repeat (first | with_reducible exact Sel.here | with_reducible apply Sel.there)) ?_ | refine Ent.cons (by repeat (first | with_reducible exact Sel.here | with_reducible apply Sel.there)) ?_))
  | true =>
    have : σ.now i = 0 := by simpa using h
    refine go_ ?_
    refine s_cls (φ := CtOk σ) (X := Ct.parts b σ) x hx (by repeat (first | exact Split.nil | apply Split.perx (by repeat (first | with_reducible exact Sel.here | with_reducible apply Sel.there)) (by infer_instance) | apply Split.cons (by repeat (first | with_reducible exact Sel.here | with_reducible apply Sel.there)))) ?_
    exact s_ret1 (rs := [.tmp 4]) Try.func60 rfl (by intro j; refine RVS.tmp _ rfl ?_; exact RVS.nil) (⟨by congr 1; rw [Bool.eq_iff_iff]; simp [this], rfl⟩) (by repeat (first | exact Ent.nil | refine Ent.per (by repeat (first | with_reducible exact Sel.here | with_reducible apply Sel.there)) ?_ | refine Ent.cons (by repeat (first | with_reducible exact Sel.here | with_reducible apply Sel.there)) ?_))
def nset (f : Nat → Nat) (i v : Nat) : Nat → Nat := fun q => if q = i then v else f q
/-- the first sector that is free -/
def Ct.firstFree (σ : Ct) : Nat → Nat → Option Nat
  | 0, _ => none
  | m + 1, i => if σ.now i = 0 ∧ σ.done i = 0 then some i else σ.firstFree m (i + 1)
def Ct.free? (σ : Ct) : Option Nat := σ.firstFree (σ.n - firstN σ.n) (firstN σ.n)
theorem firstN_lt {n : Nat} (h : 32 ≤ n) (h2 : n ≤ 2048) : firstN n < n := by unfold firstN areaN; omega
theorem intR_put (f : Nat → Nat) (i v q : Nat) : rput (intR f) i 0 [.int .i64 (v : Int)] q = intR (nset f i v) q := by
  unfold rput intR nset
  by_cases h : q = i
  · simp [h]
  · simp [h]
theorem calloc_c (b : Nat) (σ : Ct) : Ctr Try.prog 45 [.pointer (some ⟨b, 0, none⟩)] [CtA b σ]
    (fun v Bs => (∃ i, σ.free? = some i ∧ v = .tuple #[.int .i64 (i : Nat), .int .i64 0] ∧ Bs = [CtA b { σ with now := nset σ.now i 1 }]) ∨ (σ.free? = none ∧ v = .tuple #[.int .i64 0, .int .i64 6] ∧ Bs = [CtA b σ])) := by
  refine s_enter 28 [(0, _)] (fun F => [_, F]) Try.func45 fun F => ?_
  refine s_opn (by repeat (first | with_reducible exact Sel.here | with_reducible apply Sel.there)) fun x hx => ?_
  unfold Ct.parts
  have hn := firstN_lt hx.n1 hx.n2
  have h2 := hx.n2
  refine go_ ?_
  refine s_cls (φ := CtOk σ) (X := Ct.parts b σ) x hx (by repeat (first | exact Split.nil | apply Split.perx (by repeat (first | with_reducible exact Sel.here | with_reducible apply Sel.there)) (by infer_instance) | apply Split.cons (by repeat (first | with_reducible exact Sel.here | with_reducible apply Sel.there)))) ?_
  refine s_loop (fun i : Nat => [(0, .pointer (some ⟨b, 0, none⟩)), (2, .int .i64 0), (3, .int .i64 0), (4, .int .i64 i)]) (fun _ => [CtA b σ, F]) (fun i => i ≤ σ.n ∧ σ.firstFree (σ.n - i) i = σ.free?) (fun i => σ.n - i) (firstN σ.n) ⟨by omega, rfl⟩ (by repeat (first | exact Ent.nil | refine Ent.per (by repeat (first | with_reducible exact Sel.here | with_reducible apply Sel.there)) ?_ | refine Ent.cons (by repeat (first | with_reducible exact Sel.here | with_reducible apply Sel.there)) ?_)) ?_
  rintro i ⟨hi, he⟩ next
  clear hx x
  refine s_opn (by repeat (first | with_reducible exact Sel.here | with_reducible apply Sel.there)) fun x hx => ?_
  unfold Ct.parts
  refine go_ ?_
  refine s_if (fun h3 => ?_) (fun h3 => ?_)
  · obtain ⟨m, hm⟩ : ∃ m, σ.n - i = m + 1 := ⟨σ.n - i - 1, by omega⟩
    rw [hm, Ct.firstFree] at he
    refine go_ ?_
    refine s_cls (φ := CtOk σ) (X := Ct.parts b σ) x hx (by repeat (first | exact Split.nil | apply Split.perx (by repeat (first | with_reducible exact Sel.here | with_reducible apply Sel.there)) (by infer_instance) | apply Split.cons (by repeat (first | with_reducible exact Sel.here | with_reducible apply Sel.there)))) ?_
    refine s_call (sp := (by repeat (first | exact Split.nil | apply Split.perx (by repeat (first | with_reducible exact Sel.here | with_reducible apply Sel.there)) (by infer_instance) | apply Split.cons (by repeat (first | with_reducible exact Sel.here | with_reducible apply Sel.there))))) (hs := cfree_c b σ i (by omega)) (h := ?_)
    rintro v Bs ⟨rfl, rfl⟩
    refine go_ ?_
    refine s_if (fun h4 => ?_) (fun h4 => ?_)
    · rw [if_pos h4] at he
      refine s_opn (by repeat (first | with_reducible exact Sel.here | with_reducible apply Sel.there)) fun y hy => ?_
      unfold Ct.parts
      refine go_ ?_
      refine s_stepU (st_ste (i := i) (fo := 0) (m' := 1) (vs := [.int .i64 1]) (v := .slice y.a σ.n y.c) (by repeat (first | with_reducible exact Sel.here | with_reducible apply Sel.there))) ?_
      rintro _ _ rfl
      refine s_open (SA.cg (intR (nset σ.now i 1)) fun q _ => intR_put σ.now i 1 q) ?_
      refine go_ ?_
      refine s_cls (φ := CtOk { σ with now := nset σ.now i 1 }) (X := Ct.parts b { σ with now := nset σ.now i 1 }) y ⟨hy.n1, hy.n2, fun q => by show nset _ _ _ _ ≤ _; unfold nset; split; omega; exact hy.w q, hy.d⟩ (by repeat (first | exact Split.nil | apply Split.perx (by repeat (first | with_reducible exact Sel.here | with_reducible apply Sel.there)) (by infer_instance) | apply Split.cons (by repeat (first | with_reducible exact Sel.here | with_reducible apply Sel.there)))) ?_
      exact s_rett (rs := [.tmp 2, .tmp 3]) (vs := [_, _]) Try.func45 rfl (by intro j; refine RVS.tmp _ rfl ?_; refine RVS.tmp _ rfl ?_; exact RVS.nil) rfl (.inl ⟨i, he.symm, rfl, rfl⟩) (by repeat (first | exact Ent.nil | refine Ent.per (by repeat (first | with_reducible exact Sel.here | with_reducible apply Sel.there)) ?_ | refine Ent.cons (by repeat (first | with_reducible exact Sel.here | with_reducible apply Sel.there)) ?_))
    · rw [if_neg h4] at he
      refine go_ ?_
      exact s_entF (by repeat (first | exact Ent.nil | refine Ent.per (by repeat (first | with_reducible exact Sel.here | with_reducible apply Sel.there)) ?_ | refine Ent.cons (by repeat (first | with_reducible exact Sel.here | with_reducible apply Sel.there)) ?_)) (s_keep _ (next (i + 1) ⟨by omega, by rw [show σ.n - (i + 1) = m by omega]; exact he⟩ (by omega)))
  · have : σ.n - i = 0 := by omega
    rw [this, Ct.firstFree] at he
    refine go_ ?_
    refine s_cls (φ := CtOk σ) (X := Ct.parts b σ) x hx (by repeat (first | exact Split.nil | apply Split.perx (by repeat (first | with_reducible exact Sel.here | with_reducible apply Sel.there)) (by infer_instance) | apply Split.cons (by repeat (first | with_reducible exact Sel.here | with_reducible apply Sel.there)))) ?_
    exact s_rett (rs := [.tmp 2, .tmp 3]) (vs := [_, _]) Try.func45 rfl (by intro j; refine RVS.tmp _ rfl ?_; refine RVS.tmp _ rfl ?_; exact RVS.nil) rfl (.inr ⟨he.symm, rfl, rfl⟩) (by repeat (first | exact Ent.nil | refine Ent.per (by repeat (first | with_reducible exact Sel.here | with_reducible apply Sel.there)) ?_ | refine Ent.cons (by repeat (first | with_reducible exact Sel.here | with_reducible apply Sel.there)) ?_))
end Go.Proofs.Ytldonbnjefhfdaa
/- counts: Commit, Body. -/
namespace Go.Proofs.Ytldonbnjefhfdaa
open Go.Cam
set_option maxRecDepth 100000
theorem intR_one (f : Nat → Nat) (n : Nat) : (flat n (intR f)).all one = true := by
  rw [List.all_eq_true]
  intro u hu
  obtain ⟨i, _, h2⟩ := List.mem_flatMap.1 hu
  simp at h2; subst h2; rfl
theorem ccommit_c (b : Nat) (σ : Ct) : Ctr Try.prog 30 [.pointer (some ⟨b, 0, none⟩)] [CtA b σ] (fun v Bs => v = .tuple #[] ∧ Bs = [CtA b { σ with done := σ.now }]) := by
  refine s_enter 11 [(0, _)] (fun F => [_, F]) Try.func30 fun F => ?_
  refine s_opn (by repeat (first | with_reducible exact Sel.here | with_reducible apply Sel.there)) fun x hx => ?_
  unfold Ct.parts
  have hn1 := hx.n1
  refine s_nrm ?_
  refine s_front (a := SA (some 3) 1 (.slice x.a2 σ.n x.c2) σ.n (intR σ.done)) (by repeat (first | with_reducible exact Sel.here | with_reducible apply Sel.there)) ?_
  refine s_front (a := SA (some 3) 1 (.slice x.a σ.n x.c) σ.n (intR σ.now)) (by repeat (first | with_reducible exact Sel.here | with_reducible apply Sel.there)) ?_
  refine s_drawN 2 [.q 0, .q 1, .q 2, .q 3, .q 4, .q 5, .q 6, .q 7, .s 8] ?_
  refine do_ ?_
  refine d_step rfl (st_cpA (a := x.a2) (m := σ.n) (c := x.c2) (u := x.a) (c' := x.c) (by omega) (by decide) (by repeat (first | with_reducible exact Sel.here | with_reducible apply Sel.there)) (by repeat (first | with_reducible exact SelR.here | with_reducible apply SelR.there)) (intR_one _ _)) ?_
  rintro v Bs ⟨rfl, rfl⟩
  refine do_ ?_
  refine go_ ?_
  refine s_cls (φ := CtOk { σ with done := σ.now }) (X := Ct.parts b { σ with done := σ.now }) x ⟨hx.n1, hx.n2, hx.w, hx.w⟩ (by repeat (first | exact Split.nil | apply Split.perx (by repeat (first | with_reducible exact Sel.here | with_reducible apply Sel.there)) (by infer_instance) | apply Split.cons (by repeat (first | with_reducible exact Sel.here | with_reducible apply Sel.there)))) ?_
  exact s_end Try.func30 (⟨rfl, rfl⟩) (by repeat (first | exact Ent.nil | refine Ent.per (by repeat (first | with_reducible exact Sel.here | with_reducible apply Sel.there)) ?_ | refine Ent.cons (by repeat (first | with_reducible exact Sel.here | with_reducible apply Sel.there)) ?_))
/-- the bytes of a sector of counts -/
def Ct.get (σ : Ct) (k : Nat) : Nat := if k < σ.n then σ.now k else 0
def Ct.bodyN (σ : Ct) (i : Nat) : Nat → List Nat
  | 0 => []
  | m + 1 => σ.bodyN i m ++ putN (σ.get (i * 118 + m)) 2
theorem Ct.bodyN_len (σ : Ct) (i m : Nat) : (σ.bodyN i m).length = 2 * m := by
  induction m with
  | zero => rfl
  | succ m ih => rw [Ct.bodyN, List.length_append, ih, putN_len]; omega
theorem Ct.bodyN_bys (σ : Ct) (i m : Nat) : Bys (σ.bodyN i m) := by
  induction m with
  | zero => exact Bys.nil
  | succ m ih => exact ih.app (putN_lt _ _)
set_option maxHeartbeats 1000000 in
theorem cbody_c (b : Nat) (σ : Ct) (i : Nat) (hi : i < areaN σ.n) : Ctr Try.prog 61 [.pointer (some ⟨b, 0, none⟩), .int .i64 (i : Int)] [CtA b σ]
    (fun v Bs => ∃ a c, v = .slice a 236 c ∧ Bs = [CtA b σ, SA none 1 (.slice a 236 c) 236 (byR (σ.bodyN i 118))]) := by
  refine s_enter 30 [(0, _), (1, _)] (fun F => [_, F]) Try.func61 fun F => ?_
  refine s_opn (by repeat (first | with_reducible exact Sel.here | with_reducible apply Sel.there)) fun x hx => ?_
  unfold Ct.parts
  have hn1 := hx.n1
  have hn2 := hx.n2
  have ha : areaN σ.n < 100 := by unfold areaN; omega
  refine go_ ?_
  rw [show decide ((i : Int) < 0) = false from decide_eq_false (by omega)]
  refine go_ ?_
  refine s_if (fun h2 => ?_) (fun h2 => ?_)
  · exact absurd h2 (by omega)
  refine go_ ?_
  refine s_cls (φ := CtOk σ) (X := Ct.parts b σ) x hx (by repeat (first | exact Split.nil | apply Split.perx (by repeat (first | with_reducible exact Sel.here | with_reducible apply Sel.there)) (by infer_instance) | apply Split.cons (by repeat (first | with_reducible exact Sel.here | with_reducible apply Sel.there)))) ?_
  refine s_nilN (sz := 1) (m := (σ.bodyN i 0).length) (row := byR (σ.bodyN i 0)) rfl ?_
  refine s_loop (fun q : Nat × Option Addr × Nat => [(0, .pointer (some ⟨b, 0, none⟩)), (1, .int .i64 i), (5, .slice q.2.1 (σ.bodyN i q.1).length q.2.2), (17, .int .i64 q.1)]) (fun q => [CtA b σ, BS (.slice q.2.1 (σ.bodyN i q.1).length q.2.2) (σ.bodyN i q.1), F]) (fun q => q.1 ≤ 118) (fun q => 118 - q.1) (0, none, 0) (by decide) (by repeat (first | exact Ent.nil | refine Ent.per (by repeat (first | with_reducible exact Sel.here | with_reducible apply Sel.there)) ?_ | refine Ent.cons (by repeat (first | with_reducible exact Sel.here | with_reducible apply Sel.there)) ?_)) ?_
  rintro ⟨m, a, c⟩ hm next
  dsimp only at hm next ⊢
  refine go_ ?_
  refine s_if (fun h3 => ?_) (fun h3 => ?_)
  · refine go_ ?_
    rw [wrap_id (x := (i : Int) * 118) (by omega) (by omega)]
    refine go_ ?_
    rw [wrap_id (x := (i : Int) * 118 + (m : Int)) (by omega) (by omega)]
    refine s_call (sp := (by repeat (first | exact Split.nil | apply Split.perx (by repeat (first | with_reducible exact Sel.here | with_reducible apply Sel.there)) (by infer_instance) | apply Split.cons (by repeat (first | with_reducible exact Sel.here | with_reducible apply Sel.there))))) (hs := cget_c b σ ((i : Int) * 118 + (m : Int))) (h := ?_)
    rintro v Bs ⟨rfl, rfl⟩
    have eg : (if 0 ≤ (i : Int) * 118 + (m : Int) ∧ (i : Int) * 118 + (m : Int) < σ.n then σ.now ((i : Int) * 118 + (m : Int)).toNat else 0) = σ.get (i * 118 + m) := by
      unfold Ct.get
      have e1 : ((i : Int) * 118 + (m : Int)).toNat = i * 118 + m := by omega
      rw [e1]
      by_cases h5 : i * 118 + m < σ.n
      · rw [if_pos h5, if_pos (by omega)]
      · rw [if_neg h5, if_neg (by omega)]
    rw [eg]
    refine go_ ?_
    have hgw : σ.get (i * 118 + m) ≤ 65535 := by unfold Ct.get; split; exact hx.w _; omega
    have hbl := σ.bodyN_len i m
    refine s_call (sp := (by repeat (first | exact Split.nil | apply Split.perx (by repeat (first | with_reducible exact Sel.here | with_reducible apply Sel.there)) (by infer_instance) | apply Split.cons (by repeat (first | with_reducible exact Sel.here | with_reducible apply Sel.there))))) (hs := put_f (σ.bodyN i m) (σ.get (i * 118 + m)) 2 (by omega) (by omega) (by omega) (by omega)) (h := ?_)
    rintro v Bs ⟨a', c', rfl, rfl⟩
    rw [show σ.bodyN i m ++ putN (σ.get (i * 118 + m)) 2 = σ.bodyN i (m + 1) from rfl]
    refine go_ ?_
    exact s_entF (by repeat (first | exact Ent.nil | refine Ent.per (by repeat (first | with_reducible exact Sel.here | with_reducible apply Sel.there)) ?_ | refine Ent.cons (by repeat (first | with_reducible exact Sel.here | with_reducible apply Sel.there)) ?_)) (s_keep _ (next (m + 1, a', c') (by dsimp only; omega) (by dsimp only; omega)))
  · have : m = 118 := by omega
    subst this
    refine go_ ?_
    refine s_front (a := BS (.slice a (σ.bodyN i 118).length c) (σ.bodyN i 118)) (by repeat (first | with_reducible exact Sel.here | with_reducible apply Sel.there)) (s_open (B := SA none 1 (.slice a (σ.bodyN i 118).length c) (σ.bodyN i 118).length (byR (σ.bodyN i 118))) (fun _ _ q => q) ?_)
    rw [σ.bodyN_len i 118]
    exact s_ret1 (rs := [.tmp 4]) Try.func61 rfl (by intro j; refine RVS.tmp _ rfl ?_; exact RVS.nil) (⟨a, c, rfl, rfl⟩) (by repeat (first | exact Ent.nil | refine Ent.per (by repeat (first | with_reducible exact Sel.here | with_reducible apply Sel.there)) ?_ | refine Ent.cons (by repeat (first | with_reducible exact Sel.here | with_reducible apply Sel.there)) ?_))
end Go.Proofs.Ytldonbnjefhfdaa
