/- FindSame. -/
import Derived.Test.YtgbbcpfnmkeijaaFindBM
namespace Go.Proofs.Ytgbbcpfnmkeijaa
open Go.Cam
set_option maxRecDepth 100000
theorem keys_of {H : Heap} {cs : List Value} (h : (Sh.slice 3 keySh).ok H cs) : ∃ a c, ∃ l : List Key, cs = [.slice a l.length c] ∧ l.length < 9223372036854775808 ∧ ∀ M, (SA none 3 (.slice a l.length c) l.length (keyR l)).p H M := by
  obtain ⟨a, len, cap, row, rfl, h1, h2, h3, h4⟩ := h
  have hm : maxLen = 9223372036854775807 := rfl
  obtain ⟨l, rfl, hl⟩ := list_choose (α := Key) (φ := fun i k => row i = k.row) len fun i hi => by
    obtain ⟨k, hk, _⟩ := key_of (h4 i hi); exact ⟨k, hk⟩
  exact ⟨a, cap, l, rfl, by omega, fun M => SA.cg _ (fun i hi => hl i hi) H M (h3 M)⟩
def gv (l : List Item) (k : Key) : List Nat := match getT l k with | some x => x.val | none => []
def ge (l : List Item) (k : Key) : Int := match getT l k with | some _ => 0 | none => 10
theorem tgetU_c (p : Nat) (z : PoZ) {σ : Ct} {g : Int → Option (Node × Plc)} {root : Int} {l : List Item} (key : Key) (ht : TreeOf σ g root l) (hr : Ris l) : Ctr Try.prog 18 [.pointer (some ⟨p, 0, none⟩), .int .i64 root, key.v] [Po p z σ g]
    (fun v Bs => ∃ a c, v = .tuple #[.slice a (gv l key).length c, .int .i64 (ge l key)] ∧ Bs = [Po p z σ g, BS (.slice a (gv l key).length c) (gv l key)]) := by
  refine Ctr.post (tget_c p z key ht hr) fun v Bs q => ?_
  rcases q with ⟨h1, rfl, rfl⟩ | ⟨x, a, c, h1, rfl, rfl⟩
  · have e1 : gv l key = [] := by unfold gv; rw [h1]
    have e2 : ge l key = 10 := by unfold ge; rw [h1]
    rw [e1, e2]
    refine ⟨_, ⟨none, 0, rfl, rfl⟩, fun H M q => ?_⟩
    refine star_mono (fun H M _ => sat_per1 (fun M => ?_) (Bs := []) (M := M) trivial) q
    exact ⟨none, 0, rfl, Nat.le_refl _, fun i h => absurd h (Nat.not_lt_zero _), fun h => absurd h (Nat.not_lt_zero _)⟩
  · have e1 : gv l key = x.val := by unfold gv; rw [h1]
    have e2 : ge l key = 0 := by unfold ge; rw [h1]
    rw [e1, e2]
    exact ⟨_, ⟨a, c, rfl, rfl⟩, fun H M q => q⟩
set_option maxHeartbeats 16000000 in
theorem same_c (x : Wrld) (hx : x.ok) {b2 kb : Option Addr} {d2 kc : Nat} (cs2 : List Int) (ks : List Key) (hcn : cs2.length < 9223372036854775808) (hr : ∀ q, q < cs2.length → -9223372036854775808 ≤ cs2.getD q 0 ∧ cs2.getD q 0 ≤ 9223372036854775807) (hkn : ks.length < 9223372036854775808) :
    Ctr Try.prog 6 [x.v, .slice b2 cs2.length d2, .slice kb ks.length kc] [x.A, IFam x.w x.l, x.C, SA none 1 (.slice b2 cs2.length d2) cs2.length (pathR cs2), SA none 3 (.slice kb ks.length kc) ks.length (keyR ks)] (fun v Bs => v = .bool true ∧ Bs = []) := by
  obtain ⟨hro, hrl⟩ := rowL_ok x.l 150 hx.b
  refine s_enter 135 [(0, _), (1, _), (2, _)] (fun F => [_, _, _, _, _, F]) Try.func6 fun F => ?_
  refine go_ ?_
  refine s_box fun r3 => ?_
  refine go_ ?_
  refine s_call (sp := (by repeat (first | exact Split.nil | apply Split.perx (by repeat (first | with_reducible exact Sel.here | with_reducible apply Sel.there)) (by infer_instance) | apply Split.cons (by repeat (first | with_reducible exact Sel.here | with_reducible apply Sel.there))))) (hs := shown_c) (h := ?_)
  rintro v Bs ⟨rfl, rfl⟩
  refine go_ ?_
  refine s_call (sp := (by repeat (first | exact Split.nil | apply Split.perx (by repeat (first | with_reducible exact Sel.here | with_reducible apply Sel.there)) (by infer_instance) | apply Split.cons (by repeat (first | with_reducible exact Sel.here | with_reducible apply Sel.there))))) (hs := row_c (A := x.A) (a := x.a) (c := x.c) (w := x.w) x.l 150 (by decide) hx.n) (h := ?_)
  rintro v Bs ⟨a2, c2, w2, rfl, rfl⟩
  generalize hL : rowL x.l 150 = L at *
  refine go_ ?_
  refine s_fzO (e := 48) (v := .slice a2 L.length c2) (by repeat (first | with_reducible exact Sel.here | with_reducible apply Sel.there)) ?_
  refine s_call (sp := (by repeat (first | exact Split.nil | apply Split.perx (by repeat (first | with_reducible exact Sel.here | with_reducible apply Sel.there)) (by infer_instance) | apply Split.cons (by repeat (first | with_reducible exact Sel.here | with_reducible apply Sel.there))))) (hs := grown_c (C := x.C) (la := a2) (lc := c2) (w := w2) (b := x.b) (d := x.d) L x.cs hro hrl hx.m hx.r) (h := ?_)
  rintro v Bs ⟨p, z, σ, g, root, rfl, ht, rfl⟩
  refine go_ ?_
  refine s_call (sp := (by repeat (first | exact Split.nil | apply Split.perx (by repeat (first | with_reducible exact Sel.here | with_reducible apply Sel.there)) (by infer_instance) | apply Split.cons (by repeat (first | with_reducible exact Sel.here | with_reducible apply Sel.there))))) (hs := grown_c (C := SA none 1 (.slice b2 cs2.length d2) cs2.length (pathR cs2)) (la := a2) (lc := c2) (w := w2) (b := b2) (d := d2) L cs2 hro hrl hcn hr) (h := ?_)
  rintro v Bs ⟨p', z', σ', g', root', rfl, ht', rfl⟩
  refine go_ ?_
  refine s_loop (fun i : Nat => [(2, .slice kb ks.length kc), (9, .pointer (some ⟨p, 0, none⟩)), (11, .int .i64 root), (12, .pointer (some ⟨p', 0, none⟩)), (14, .int .i64 root'), (15, .int .i64 i)])
    (fun _ => [Po p z σ g, Po p' z' σ' g', SA none 3 (.slice kb ks.length kc) ks.length (keyR ks), F]) (fun i => i ≤ 20) (fun i => 20 - i) 0 (Nat.zero_le _) (by repeat (first | exact Ent.nil | refine Ent.per (by repeat (first | with_reducible exact Sel.here | with_reducible apply Sel.there)) ?_ | refine Ent.cons (by repeat (first | with_reducible exact Sel.here | with_reducible apply Sel.there)) ?_)) ?_
  intro i hi next
  refine go_ ?_
  cases h1 : decide ((i : Int) < (ks.length : Int)) with
  | false =>
    refine go_ ?_
    exact s_ret1 (rs := [.tmp 6]) Try.func6 rfl (by intro j; refine RVS.tmp _ rfl ?_; exact RVS.nil) (⟨rfl, rfl⟩) (by repeat (first | exact Ent.nil | refine Ent.per (by repeat (first | with_reducible exact Sel.here | with_reducible apply Sel.there)) ?_ | refine Ent.cons (by repeat (first | with_reducible exact Sel.here | with_reducible apply Sel.there)) ?_))
  | true =>
    have h1' := of_decide_eq_true h1
    refine go_ ?_
    refine s_if (fun h2 => ?_) (fun h2 => ?_)
    · have hi2 : i < ks.length := by omega
      refine go_ ?_
      refine s_call (sp := (by repeat (first | exact Split.nil | apply Split.perx (by repeat (first | with_reducible exact Sel.here | with_reducible apply Sel.there)) (by infer_instance) | apply Split.cons (by repeat (first | with_reducible exact Sel.here | with_reducible apply Sel.there))))) (hs := tgetU_c p z (ks.getD i default) ht hro.ris) (h := ?_)
      rintro v Bs ⟨a3, c3, rfl, rfl⟩
      refine go_ ?_
      refine s_call (sp := (by repeat (first | exact Split.nil | apply Split.perx (by repeat (first | with_reducible exact Sel.here | with_reducible apply Sel.there)) (by infer_instance) | apply Split.cons (by repeat (first | with_reducible exact Sel.here | with_reducible apply Sel.there))))) (hs := tgetU_c p' z' (ks.getD i default) ht' hro.ris) (h := ?_)
      rintro v Bs ⟨a4, c4, rfl, rfl⟩
      refine go_ ?_
      refine s_front (a := Po p z σ g) (by repeat (first | with_reducible exact Sel.here | with_reducible apply Sel.there)) ?_
      refine s_drawN 1 [.q 0, .q 1, .q 2, .q 3, .q 4, .q 5, .q 6, .q 7, .q 8, .s 9, .q 10, .q 11, .q 12, .q 13, .q 14] ?_
      refine do_ ?_
      refine d_look rfl (lk_ixz 0 (m := ks.length) (v := .slice kb ks.length kc) (z := 0) (by repeat (first | with_reducible exact SelR.here | with_reducible apply SelR.there))) ?_
      refine do_ ?_
      refine d_step rfl (st_callC (sp := (by repeat (first | exact Split.nil | apply Split.perx (by repeat (first | with_reducible exact Sel.here | with_reducible apply Sel.there)) (by infer_instance) | apply Split.cons (by repeat (first | with_reducible exact Sel.here | with_reducible apply Sel.there))))) (hs := tscan_c p z (ks.getD 0 default) (ks.getD i default) 9 ht hro.ris)) ?_
      rintro v Bs ⟨Cs, ⟨a5, c5, w5, rfl, rfl⟩, rfl⟩
      refine do_ ?_
      refine go_ ?_
      refine s_front (a := Po p' z' σ' g') (by repeat (first | with_reducible exact Sel.here | with_reducible apply Sel.there)) ?_
      refine s_drawN 1 [.q 0, .q 1, .q 2, .q 3, .q 4, .q 5, .q 6, .q 7, .q 8, .s 9, .q 10, .q 11, .q 12, .q 13, .q 14] ?_
      refine do_ ?_
      refine d_look rfl (lk_ixz 0 (m := ks.length) (v := .slice kb ks.length kc) (z := 0) (by repeat (first | with_reducible exact SelR.here | with_reducible apply SelR.there))) ?_
      refine do_ ?_
      refine d_step rfl (st_callC (sp := (by repeat (first | exact Split.nil | apply Split.perx (by repeat (first | with_reducible exact Sel.here | with_reducible apply Sel.there)) (by infer_instance) | apply Split.cons (by repeat (first | with_reducible exact Sel.here | with_reducible apply Sel.there))))) (hs := tscan_c p' z' (ks.getD 0 default) (ks.getD i default) 9 ht' hro.ris)) ?_
      rintro v Bs ⟨Cs, ⟨a6, c6, w6, rfl, rfl⟩, rfl⟩
      refine do_ ?_
      refine go_ ?_
      have hpk := hro.sub (pick_sub (ks.getD 0 default) (ks.getD i default) 9 L)
      have hpl : (pick (ks.getD 0 default) (ks.getD i default) 9 L []).length ≤ 150 := Nat.le_trans (pick_sub (ks.getD 0 default) (ks.getD i default) 9 L).length_le hrl
      generalize pick (ks.getD 0 default) (ks.getD i default) 9 L [] = X at *
      refine s_call (sp := (by repeat (first | exact Split.nil | apply Split.perx (by repeat (first | with_reducible exact Sel.here | with_reducible apply Sel.there)) (by infer_instance) | apply Split.cons (by repeat (first | with_reducible exact Sel.here | with_reducible apply Sel.there))))) (hs := rsame_c (A := IRow a5 c5 w5 X) (B := IRow a6 c6 w6 X) (a := a5) (b := a6) (c := c5) (d := c6) (w := w5) (u := w6) X X (by omega) (by omega) rfl hpk.bys) (h := ?_)
      rintro v Bs ⟨rfl, rfl⟩
      refine go_ ?_
      generalize gv L (ks.getD i default) = V at *
      generalize ge L (ks.getD i default) = E at *
      refine s_look (lk_b2s (a := a3) (c := c3) (m := V.length) (s := V) (by repeat (first | with_reducible exact SelR.here | with_reducible apply SelR.there)) rfl) ?_
      refine go_ ?_
      refine s_look (lk_b2s (a := a4) (c := c4) (m := V.length) (s := V) (by repeat (first | with_reducible exact SelR.here | with_reducible apply SelR.there)) rfl) ?_
      refine go_ ?_
      rw [show (!((strB V).toList == (strB V).toList)) = false by simp]
      refine go_ ?_
      rw [show (E != E) = false by simp]
      refine go_ ?_
      exact s_entF (by repeat (first | exact Ent.nil | refine Ent.per (by repeat (first | with_reducible exact Sel.here | with_reducible apply Sel.there)) ?_ | refine Ent.cons (by repeat (first | with_reducible exact Sel.here | with_reducible apply Sel.there)) ?_)) (s_keep _ (next (i + 1) (by omega) (by omega)))
    · refine go_ ?_
      exact s_ret1 (rs := [.tmp 6]) Try.func6 rfl (by intro j; refine RVS.tmp _ rfl ?_; exact RVS.nil) (⟨rfl, rfl⟩) (by repeat (first | exact Ent.nil | refine Ent.per (by repeat (first | with_reducible exact Sel.here | with_reducible apply Sel.there)) ?_ | refine Ent.cons (by repeat (first | with_reducible exact Sel.here | with_reducible apply Sel.there)) ?_))
end Go.Proofs.Ytgbbcpfnmkeijaa
