/- FindSpoilt. -/
import Derived.Test.YtgbbcpfnmkeijaaGreatGrtEO
namespace Go.Proofs.YtgbbcpfnmkeijaaGreat
open Go.Cam
set_option maxRecDepth 100000
theorem rsameN_c {A B : HP} {a b : Option Addr} {c d n m : Nat} {ra rb : Nat → List Value} [Rd A 4 (.slice a n c) n ra] [Rd B 4 (.slice b m d) m rb] (hne : n ≠ m) (hn : n < 1000000) (hm : m < 1000000) : Ctr Tryz.prog 21 [.slice a n c, .slice b m d] [A, B]
    (fun v Bs => v = .bool false ∧ Bs = [A, B]) := by
  refine s_enter 43 [(0, _), (1, _)] (fun F => [_, _, F]) Tryz.func21 fun F => ?_
  refine go_ ?_
  refine s_ine (fun h => ?_) (fun h => ?_)
  · refine go_ ?_
    exact s_ret1 (rs := [.tmp 4]) Tryz.func21 rfl (by intro j; refine RVS.tmp _ rfl ?_; exact RVS.nil) (⟨rfl, rfl⟩) (by repeat (first | exact Ent.nil | refine Ent.per (by repeat (first | with_reducible exact Sel.here | with_reducible apply Sel.there)) ?_ | refine Ent.cons (by repeat (first | with_reducible exact Sel.here | with_reducible apply Sel.there)) ?_))
  · exact absurd (by omega) hne
set_option maxHeartbeats 16000000 in
theorem spoilt_c (x : Wrld) (hx : x.ok) (k : Key) :
    Ctr Tryz.prog 5 [x.v, k.v] [x.A, IFam x.w x.l, x.C] (fun v Bs => v = .bool true ∧ Bs = []) := by
  obtain ⟨hro, hrl⟩ := rowL_ok x.l 150 hx.b
  have hon0 : (Dr.new 256).on := ⟨rfl, by show (-1 : Int) < 0; decide⟩
  obtain ⟨f1, f2, f3, f4⟩ := Dr.fmt_mnt hon0 (by decide) (by decide)
  have f5 := fmt_sup hon0 (by decide) (by decide)
  have f2' : (Dr.new 256).fmt.n = 256 := f2
  have f4' : (Dr.new 256).fmt.steps ≤ 200 := by have : (Dr.new 256).steps = 0 := rfl; omega
  generalize hσd : (Dr.new 256).fmt = σd at *
  refine s_enter 124 [(0, _), (1, _)] (fun F => [_, _, _, F]) Tryz.func5 fun F => ?_
  refine go_ ?_
  refine s_box fun r2 => ?_
  refine s_box fun r3 => ?_
  refine go_ ?_
  refine s_call (sp := (by repeat (first | exact Split.nil | apply Split.perx (by repeat (first | with_reducible exact Sel.here | with_reducible apply Sel.there)) (by infer_instance) | apply Split.cons (by repeat (first | with_reducible exact Sel.here | with_reducible apply Sel.there))))) (hs := shown_c) (h := ?_)
  rintro v Bs ⟨rfl, rfl⟩
  refine go_ ?_
  refine s_call (sp := (by repeat (first | exact Split.nil | apply Split.perx (by repeat (first | with_reducible exact Sel.here | with_reducible apply Sel.there)) (by infer_instance) | apply Split.cons (by repeat (first | with_reducible exact Sel.here | with_reducible apply Sel.there))))) (hs := row_c (A := x.A) (a := x.a) (c := x.c) (w := x.w) x.l 150 (by decide) hx.n) (h := ?_)
  rintro v Bs ⟨a2, c2, w2, rfl, rfl⟩
  generalize hL : rowL x.l 150 = L at *
  refine go_ ?_
  refine s_fzO (e := 51) (v := .slice a2 L.length c2) (by repeat (first | with_reducible exact Sel.here | with_reducible apply Sel.there)) ?_
  refine s_call (sp := (by repeat (first | exact Split.nil | apply Split.perx (by repeat (first | with_reducible exact Sel.here | with_reducible apply Sel.there)) (by infer_instance) | apply Split.cons (by repeat (first | with_reducible exact Sel.here | with_reducible apply Sel.there))))) (hs := grown_I Inv Inv.new (C := x.C) (la := a2) (lc := c2) (w := w2) (b := x.b) (d := x.d) L x.cs hro hrl hx.m hx.r (fun σ g i y u h hI hg hy h1 h2 _ _ => hI.lay u ⟨hg.ok, fun t ht => (hro.ok t (hy t ht)).2.2⟩ h1 h2)) (h := ?_)
  rintro v Bs ⟨p, z, σ, g, root, rfl, ht, hz1, hz2, hn, hI, rfl⟩
  rw [hσd]
  refine go_ ?_
  refine s_poPL (g := g) (by repeat (first | with_reducible exact Sel.here | with_reducible apply Sel.there)) ?_
  refine s_call (sp := (by repeat (first | exact Split.nil | apply Split.perx (by repeat (first | with_reducible exact Sel.here | with_reducible apply Sel.there)) (by infer_instance) | apply Split.cons (by repeat (first | with_reducible exact Sel.here | with_reducible apply Sel.there))))) (hs := pcommitK_c p z σ (bkG g) σd (by omega) (by omega) (by omega) (by omega) (by omega) (by omega) (hI.bk hn)) (h := ?_)
  have hd := hI.disk hn f1 f2' (by omega) 1 (by decide) (by decide) (by rw [hn]; exact f5)
  obtain ⟨k1, k2, k3, _, k5, k6⟩ := Dr.on_commitK f1 σ (bkG g) (1 + 1)
  rw [hz1, k1]
  generalize hσc : (σd.commitK σ (bkG g) (1 + 1)).1 = σc at *
  rintro v Bs (⟨_, rfl, rfl⟩ | ⟨hf, _⟩)
  rotate_left
  · cases hf
  refine go_ ?_
  refine s_know (a := DrA z.b σc) (by repeat (first | with_reducible exact Sel.here | with_reducible apply Sel.there)) (fun H M q => (by obtain ⟨x, hx, _⟩ := q; exact hx.ss : ∀ q, q < σc.n → Sec (σc.sure q))) fun hsec => ?_
  have hb1 := Int.tmod_lt_of_pos k.obj (show (0 : Int) < 256 by decide)
  have hb2 : -256 < k.obj.tmod 256 := by
    have := Int.tmod_lt_of_pos (-k.obj) (show (0 : Int) < 256 by decide)
    rw [Int.neg_tmod] at this; omega
  have hc1 := Int.tmod_lt_of_pos k.kind (show (0 : Int) < 256 by decide)
  have hc2 : -256 < k.kind.tmod 256 := by
    have := Int.tmod_lt_of_pos (-k.kind) (show (0 : Int) < 256 by decide)
    rw [Int.neg_tmod] at this; omega
  have hd1 := Int.tmod_lt_of_pos k.off (show (0 : Int) < 256 by decide)
  have hd2 : -256 < k.off.tmod 256 := by
    have := Int.tmod_lt_of_pos (-k.off) (show (0 : Int) < 256 by decide)
    rw [Int.neg_tmod] at this; omega
  generalize k.obj.tmod 256 = xb at *
  generalize k.kind.tmod 256 = xc at *
  generalize k.off.tmod 256 = xm at *
  rw [wrap_id (x := 0 - xb) (by omega) (by omega)]
  refine s_look (lk_max ((xb.natAbs : Nat) : Int) (hc := by split <;> omega)) ?_
  refine go_ ?_
  rw [wrap_id (x := 0 - xc) (by omega) (by omega)]
  refine s_look (lk_max ((xc.natAbs : Nat) : Int) (hc := by split <;> omega)) ?_
  refine go_ ?_
  rw [wrap_id (x := 0 - xm) (by omega) (by omega)]
  refine s_look (lk_max ((xm.natAbs : Nat) : Int) (hc := by split <;> omega)) ?_
  refine go_ ?_
  refine s_call (sp := (by repeat (first | exact Split.nil | apply Split.perx (by repeat (first | with_reducible exact Sel.here | with_reducible apply Sel.there)) (by infer_instance) | apply Split.cons (by repeat (first | with_reducible exact Sel.here | with_reducible apply Sel.there))))) (hs := dcorrupt_c z.b σc xb.natAbs xc.natAbs xm.natAbs (by omega) (by omega) (by omega) (k6 _)) (h := ?_)
  rintro v Bs ⟨rfl, rfl⟩
  have hdt := dsk_turn (b := xb.natAbs) (i := xc.natAbs) (m := xm.natAbs) hd (fun q => by unfold dkOf; split <;> simp) k6 hsec (by omega) (by omega) (by omega)
  generalize σc.turn xb.natAbs xc.natAbs xm.natAbs = σt at *
  have hL5 : ∀ q, Le5 (rdK { σ with done := σ.now } (fun _ => none) (dkBad (dkOf g) xb.natAbs xm.natAbs) q) (rdK { σ with done := σ.now } (fun _ => none) (dkOf g) q) := fun q => le5_bad _ _ _ _ q
  have hO : ∀ x, rdK { σ with done := σ.now } (fun _ => none) (dkBad (dkOf g) xb.natAbs xm.natAbs) root = .ok x → nodeOk x = true := fun y hy => by
    unfold rdK at hy
    split at hy
    · rename_i hq
      dsimp only at hy
      rcases hdt.d root.toNat (by have := hq.2.1; omega) hq.2.2 rfl with ⟨y', e1, e2, _⟩ | ⟨e1, _⟩
      · rw [e1] at hy; cases hy; exact e2
      · rw [e1] at hy; cases hy
    · cases hy
  have hag := agr_disk (σ := σ) (σ' := { σ with done := σ.now }) (g := g) rfl rfl
  have hG : ∀ key, Le5 (getR (rdK { σ with done := σ.now } (fun _ => none) (dkBad (dkOf g) xb.natAbs xm.natAbs)) key root) (match getT L key with
    | some x => .ok x.val
    | none => .error 10) := fun key => by
    have := le5_getR hL5 key root
    rw [getR_tree hag ht hro.ris key] at this
    exact this
  have hS : Le5 (scanG (rdK { σ with done := σ.now } (fun _ => none) (dkBad (dkOf g) xb.natAbs xm.natAbs)) ⟨0, 0, 0⟩ ⟨2147483647, 255, 2147483647⟩ 1000 root) (.ok L) := by
    have := le5_scanG hL5 ⟨0, 0, 0⟩ ⟨2147483647, 255, 2147483647⟩ 1000 root
    rw [scanG_tree hag ht hro.ris, pick_all hro 1000 (by omega)] at this
    exact this
  have hR := pd_nd p ⟨z.b, 1 + 1, z.n, z.bc, z.m⟩ hdt
  refine go_ ?_
  refine s_pdP (p := p) (z := ⟨z.b, 1 + 1, z.n, z.bc, z.m⟩) (σ := { σ with done := σ.now }) (by repeat (first | with_reducible exact Sel.here | with_reducible apply Sel.there)) (by repeat (first | with_reducible exact Sel.here | with_reducible apply Sel.there)) ?_
  generalize rdK { σ with done := σ.now } (fun _ => none) (dkBad (dkOf g) xb.natAbs xm.natAbs) = rd at *
  generalize Pd p ⟨z.b, 1 + 1, z.n, z.bc, z.m⟩ { σ with done := σ.now } (fun _ => none) σt = PP at *
  refine s_loop (fun i : Nat => [(6, .slice a2 L.length c2), (7, .pointer (some ⟨p, 0, none⟩)), (9, .int .i64 root), (13, .int .i64 i)])
    (fun _ => [PP, SA none 4 (.slice a2 L.length c2) L.length (itemRow w2 L), IFam w2 L, F]) (fun i => i ≤ L.length) (fun i => L.length - i) 0 (Nat.zero_le _) (by repeat (first | exact Ent.nil | refine Ent.per (by repeat (first | with_reducible exact Sel.here | with_reducible apply Sel.there)) ?_ | refine Ent.cons (by repeat (first | with_reducible exact Sel.here | with_reducible apply Sel.there)) ?_)) ?_
  intro i hi next
  refine go_ ?_
  refine s_if (fun h => ?_) (fun h => ?_)
  · have hi2 : i < L.length := by omega
    refine go_ ?_
    refine s_look (lk_ldeN (sz := 4) (fo := 0) (n := L.length) (i := i) (v := .slice a2 L.length c2) (vs := (L.getD i default).key.row) (s := (by repeat (first | with_reducible exact SelR.here | with_reducible apply SelR.there)))) ?_
    refine go_ ?_
    have hself := hG (L.getD i default).key
    rw [getT_self hro.ris hi2] at hself
    refine s_call (sp := (by repeat (first | exact Split.nil | apply Split.perx (by repeat (first | with_reducible exact Sel.here | with_reducible apply Sel.there)) (by infer_instance) | apply Split.cons (by repeat (first | with_reducible exact Sel.here | with_reducible apply Sel.there))))) (hs := gget_c hR root (L.getD i default).key) (h := ?_)
    rintro v Bs (⟨lv, a8, c8, h1, rfl, rfl⟩ | ⟨e, h1, he, rfl, rfl⟩)
    · have hv : lv = (L.getD i default).val := by
        rcases hself with q | q
        · rw [h1] at q; cases q; rfl
        · rw [h1] at q; cases q
      subst hv
      refine go_ ?_
      refine s_get i (F := itemFam w2 L) (m := L.length) (by repeat (first | with_reducible exact Sel.here | with_reducible apply Sel.there)) hi2 ?_
      refine s_open (B := BS (.slice (w2 i).1 (L.getD i default).val.length (w2 i).2) (L.getD i default).val) (fun _ _ q => q) ?_
      refine s_drawN 0 [.q 0, .q 1, .q 2, .q 3, .q 4, .q 5, .q 6, .q 7, .q 8, .q 9, .q 10, .q 11, .q 12, .q 13, .q 14, .q 15, .q 16] ?_
      refine do_ ?_
      refine d_look rfl (lk_b2s (a := a8) (c := c8) (m := (L.getD i default).val.length) (s := (L.getD i default).val) (by repeat (first | with_reducible exact SelR.here | with_reducible apply SelR.there)) rfl) ?_
      refine do_ ?_
      refine d_look rfl (lk_b2s (a := (w2 i).1) (c := (w2 i).2) (m := (L.getD i default).val.length) (s := (L.getD i default).val) (by repeat (first | with_reducible exact SelR.here | with_reducible apply SelR.there)) rfl) ?_
      refine do_ ?_
      rw [show (!((strB (L.getD i default).val).toList == (strB (L.getD i default).val).toList)) = false by simp]
      refine do_ ?_
      refine go_ ?_
      exact s_entF (by repeat (first | exact Ent.nil | refine Ent.per (by repeat (first | with_reducible exact Sel.here | with_reducible apply Sel.there)) ?_ | refine Ent.cons (by repeat (first | with_reducible exact Sel.here | with_reducible apply Sel.there)) ?_)) (s_keep _ (next (i + 1) (by omega) (by omega)))
    · have he5 : e = 5 := by
        rcases hself with q | q
        · rw [h1] at q; cases q
        · rw [h1] at q; cases q; rfl
      subst he5
      refine go_ ?_
      refine s_drawN 0 [.q 0, .q 1, .q 2, .q 3, .q 4, .q 5, .q 6, .q 7, .q 8, .q 9, .q 10, .q 11, .q 12, .q 13, .q 14, .q 15, .q 16] ?_
      refine do_ ?_
      refine go_ ?_
      exact s_entF (by repeat (first | exact Ent.nil | refine Ent.per (by repeat (first | with_reducible exact Sel.here | with_reducible apply Sel.there)) ?_ | refine Ent.cons (by repeat (first | with_reducible exact Sel.here | with_reducible apply Sel.there)) ?_)) (s_keep _ (next (i + 1) (by omega) (by omega)))
  · have : i = L.length := by omega
    subst this
    refine go_ ?_
    refine s_call (sp := (by repeat (first | exact Split.nil | apply Split.perx (by repeat (first | with_reducible exact Sel.here | with_reducible apply Sel.there)) (by infer_instance) | apply Split.cons (by repeat (first | with_reducible exact Sel.here | with_reducible apply Sel.there))))) (hs := gscan_c hR root hO ⟨0, 0, 0⟩ ⟨2147483647, 255, 2147483647⟩ 1000) (h := ?_)
    rintro v Bs (⟨o, a3, c3, w3, h1, ho, rfl, rfl⟩ | ⟨e, h1, he, rfl, rfl⟩)
    · have hv : o = L := by
        rcases hS with q | q
        · rw [h1] at q; cases q; rfl
        · rw [h1] at q; cases q
      subst hv
      refine go_ ?_
      refine s_call (sp := (by repeat (first | exact Split.nil | apply Split.perx (by repeat (first | with_reducible exact Sel.here | with_reducible apply Sel.there)) (by infer_instance) | apply Split.cons (by repeat (first | with_reducible exact Sel.here | with_reducible apply Sel.there))))) (hs := rsame_c (A := SO 51 4 (.slice a3 o.length c3) o.length (itemRow w3 o)) (B := SA none 4 (.slice a2 o.length c2) o.length (itemRow w2 o)) (a := a3) (b := a2) (c := c3) (d := c2) (w := w3) (u := w2) o o (by omega) (by omega) rfl hro.bys) (h := ?_)
      rintro v Bs ⟨rfl, rfl⟩
      refine go_ ?_
      exact s_ret1 (rs := [.tmp 4]) Tryz.func5 rfl (by intro j; refine RVS.tmp _ rfl ?_; exact RVS.nil) (⟨rfl, rfl⟩) (by repeat (first | exact Ent.nil | refine Ent.per (by repeat (first | with_reducible exact Sel.here | with_reducible apply Sel.there)) ?_ | refine Ent.cons (by repeat (first | with_reducible exact Sel.here | with_reducible apply Sel.there)) ?_))
    · have he5 : e = 5 := by
        rcases hS with q | q
        · rw [h1] at q; cases q
        · rw [h1] at q; cases q; rfl
      subst he5
      refine go_ ?_
      refine s_nilN (sz := 4) (m := 0) (row := itemRow (fun _ => (none, 0)) []) rfl ?_
      by_cases h0 : L.length = 0
      · have hl0 : L = [] := List.eq_nil_of_length_eq_zero h0
        rcases ht with ⟨_, hr0⟩ | ⟨hl1, _⟩
        · unfold scanG at h1; rw [if_pos (.inl hr0)] at h1; cases h1
        · exact absurd hl0 hl1
      · refine s_call (sp := (by repeat (first | exact Split.nil | apply Split.perx (by repeat (first | with_reducible exact Sel.here | with_reducible apply Sel.there)) (by infer_instance) | apply Split.cons (by repeat (first | with_reducible exact Sel.here | with_reducible apply Sel.there))))) (hs := rsameN_c (A := SA none 4 (.slice none 0 0) 0 (itemRow (fun _ => (none, 0)) [])) (B := SA none 4 (.slice a2 L.length c2) L.length (itemRow w2 L)) (a := none) (b := a2) (c := 0) (d := c2) (n := 0) (m := L.length) (by omega) (by omega) (by omega)) (h := ?_)
        rintro v Bs ⟨rfl, rfl⟩
        refine go_ ?_
        exact s_ret1 (rs := [.tmp 4]) Tryz.func5 rfl (by intro j; refine RVS.tmp _ rfl ?_; exact RVS.nil) (⟨rfl, rfl⟩) (by repeat (first | exact Ent.nil | refine Ent.per (by repeat (first | with_reducible exact Sel.here | with_reducible apply Sel.there)) ?_ | refine Ent.cons (by repeat (first | with_reducible exact Sel.here | with_reducible apply Sel.there)) ?_))
end Go.Proofs.YtgbbcpfnmkeijaaGreat
