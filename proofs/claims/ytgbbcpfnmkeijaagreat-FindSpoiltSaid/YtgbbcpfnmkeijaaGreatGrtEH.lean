/- find.Get over any nodes that are read. -/
import Derived.Test.YtgbbcpfnmkeijaaGreatGrtEG
namespace Go.Proofs.YtgbbcpfnmkeijaaGreat
open Go.Cam
set_option maxRecDepth 100000
abbrev kidX (x : Node) (key : Key) : Int := (x.kids.getD (seekX x key) default).addr
def leafX (rd : Int → Except Nat Node) (key : Key) : Nat → Node → Except Nat Node
  | 0, x => .ok x
  | h + 1, x => match atR rd (kidX x key) (h : Nat) with
    | .error e => .error e
    | .ok y => leafX rd key h y
def leafR (rd : Int → Except Nat Node) (key : Key) (k : Int) : Except Nat Node :=
  match atR rd k (-1) with
  | .error e => .error e
  | .ok x => leafX rd key x.level.toNat x
def getR (rd : Int → Except Nat Node) (key : Key) (k : Int) : Except Nat (List Nat) :=
  if k = 0 then .error 10 else
  match leafR rd key k with
  | .error e => .error e
  | .ok x => if seekHit x key then .ok (x.items.getD (seekX x key) default).val else .error 10
theorem atR_lv {rd : Int → Except Nat Node} {k lv : Int} {x : Node} (h : atR rd k lv = .ok x) (hl : 0 ≤ lv) : x.level = lv := by
  unfold atR at h
  cases hr : rd k with
  | error e => rw [hr] at h; cases h
  | ok y =>
    rw [hr] at h
    dsimp only at h
    split at h
    · cases h
    · rename_i h2
      cases h
      exact Classical.byContradiction fun e => h2 ⟨hl, e⟩
theorem nodeOk_lv {x : Node} (h : nodeOk x = true) : 0 ≤ x.level ∧ x.level ≤ 7 := by
  have := (NdF.of h).sh; omega
theorem seekX_kid {x : Node} (h : nodeOk x = true) (h0 : x.level ≠ 0) (key : Key) : seekX x key < x.kids.length := by
  have := seekN_le (fun i => !(key.lt (x.kids.getD i default).key)) x.kids.length 0
  have h2 := nodeOk_kids h h0
  unfold seekX; rw [if_neg h0]; omega
abbrev nil0 : Node := ⟨0, [], []⟩
abbrev nilP : Plc := ⟨none, 0, none, 0, fun _ => (none, 0)⟩
set_option maxHeartbeats 8000000 in
theorem gleaf_c {PP : HP} {p : Nat} {rd : Int → Except Nat Node} (hR : NdC PP p rd) (r : Nat) (k : Int) (key : Key) (path : List Int) (hp : path.length < 1000000) : Ctr Tryz.prog 48 [.pointer (some ⟨r, 0, none⟩), .int .i64 k, key.v] [Wk r p path, PP]
    (fun v Bs => (∃ x u, leafR rd key k = .ok x ∧ nodeOk x = true ∧ x.level = 0 ∧ v = .tuple #[ndV x u, .int .i64 0] ∧ ∃ path', Bs = [Wk r p path', PP, Nd1 x u, Nd2 x u, Nd3 x u]) ∨
      (∃ e : Nat, leafR rd key k = .error e ∧ e ≠ 0 ∧ v = .tuple #[zNode, .int .i64 e] ∧ ∃ path', Bs = [Wk r p path', PP])) := by
  refine s_enter 47 [(0, _), (1, _), (2, _)] (fun F => [_, _, F]) Tryz.func48 fun F => ?_
  refine go_ ?_
  refine s_box fun r5 => ?_
  refine s_alloc fun r6 => ?_
  refine go_ ?_
  refine s_call (sp := (by repeat (first | exact Split.nil | apply Split.perx (by repeat (first | with_reducible exact Sel.here | with_reducible apply Sel.there)) (by infer_instance) | apply Split.cons (by repeat (first | with_reducible exact Sel.here | with_reducible apply Sel.there))))) (hs := gat_c hR r k (-1) path (by omega)) (h := ?_)
  rintro v Bs (⟨x, u, hA, hok, rfl, rfl⟩ | ⟨e, hA, he, rfl, rfl⟩)
  · refine go_ ?_
    refine s_alloc fun r8 => ?_
    refine go_ ?_
    have hL : leafR rd key k = leafX rd key x.level.toNat x := by unfold leafR; rw [hA]
    rw [hL]
    refine s_loop (fun q : Nat × Node × List Int × Plc × Nat => [(0, .pointer (some ⟨r, 0, none⟩)), (5, .pointer (some ⟨r5, 0, none⟩)), (6, .pointer (some ⟨r6, 0, none⟩)), (8, .pointer (some ⟨r8, 0, none⟩)), (9, .int .i64 (q.2.2.2.2 : Nat))])
      (fun q => [Box r8 88 [.int .i64 q.2.1.level, .slice q.2.2.2.1.a q.2.1.items.length q.2.2.2.1.c, .slice q.2.2.2.1.b q.2.1.kids.length q.2.2.2.1.d], Wk r p q.2.2.1, PP, Nd1 q.2.1 q.2.2.2.1, Nd2 q.2.1 q.2.2.2.1, Nd3 q.2.1 q.2.2.2.1, Box r6 88 [.int .i64 0, .slice none 0 0, .slice none 0 0], Box r5 49 key.row, F])
      (fun q => q.2.2.1.length + q.1 < 1000100 ∧ ((q.2.2.2.2 = 0 ∧ nodeOk q.2.1 = true ∧ q.2.1.level = (q.1 : Nat) ∧ leafX rd key q.1 q.2.1 = leafX rd key x.level.toNat x) ∨ (q.2.2.2.2 ≠ 0 ∧ q.2.1 = nil0 ∧ q.2.2.2.1 = nilP ∧ leafX rd key x.level.toNat x = .error q.2.2.2.2))) (fun q => q.1 + (if q.2.2.2.2 = 0 then 1 else 0)) (x.level.toNat, x, path ++ [k], u, 0) ⟨by have := nodeOk_lv hok; simp; omega, .inl ⟨rfl, hok, by have := nodeOk_lv hok; dsimp only; omega, rfl⟩⟩ (by repeat (first | exact Ent.nil | refine Ent.per (by repeat (first | with_reducible exact Sel.here | with_reducible apply Sel.there)) ?_ | refine Ent.cons (by repeat (first | with_reducible exact Sel.here | with_reducible apply Sel.there)) ?_)) ?_
    rintro ⟨h', x', path', u', e'⟩ ⟨hp', hq⟩ next
    dsimp only at hp' hq next ⊢
    rcases hq with ⟨rfl, hok', hlv, he⟩ | ⟨he0, rfl, rfl, he⟩
    · have hs := small_of hok'
      refine go_ ?_
      refine s_if (fun h0 => ?_) (fun h0 => ?_)
      · cases h' with
        | zero => exact absurd h0 (by omega)
        | succ h1 =>
          have hsk := seekX_kid hok' (by omega) key
          rw [leafX] at he
          refine go_ ?_
          refine s_call (sp := (by repeat (first | exact Split.nil | apply Split.perx (by repeat (first | with_reducible exact Sel.here | with_reducible apply Sel.there)) (by infer_instance) | apply Split.cons (by repeat (first | with_reducible exact Sel.here | with_reducible apply Sel.there))))) (hs := nseek_c x' key (a := u'.a) (b := u'.b) (c := u'.c) (d := u'.d) (w := u'.w) rfl rfl hs.i hs.k) (h := ?_)
          rintro v Bs ⟨rfl, rfl⟩
          refine go_ ?_
          refine s_front (a := Box r8 88 [.int .i64 x'.level, .slice u'.a x'.items.length u'.c, .slice u'.b x'.kids.length u'.d]) (by repeat (first | with_reducible exact Sel.here | with_reducible apply Sel.there)) ?_
          refine s_front (a := PP) (by repeat (first | with_reducible exact Sel.here | with_reducible apply Sel.there)) ?_
          refine s_front (a := Wk r p path') (by repeat (first | with_reducible exact Sel.here | with_reducible apply Sel.there)) ?_
          refine s_drawN 2 [.q 0, .q 1, .q 2, .q 3, .q 4, .q 5, .q 6, .q 7, .q 8, .q 9, .r, .s 10, .q 11, .q 12, .q 13, .s 14, .q 15] ?_
          refine do_ ?_
          refine d_rel 1 ?_
          refine d_nrm ?_
          rw [hlv, show ((h1 + 1 : Nat) : Int) - 1 = (h1 : Nat) by omega]
          refine d_step rfl (st_call (sp := (by repeat (first | exact Split.nil | apply Split.perx (by repeat (first | with_reducible exact Sel.here | with_reducible apply Sel.there)) (by infer_instance) | apply Split.cons (by repeat (first | with_reducible exact Sel.here | with_reducible apply Sel.there))))) (hs := gat_c hR r (kidX x' key) (h1 : Nat) path' (by omega))) ?_
          rintro v Bs ⟨Cs, (⟨y, u3, hB, hoky, rfl, rfl⟩ | ⟨e, hB, he2, rfl, rfl⟩), rfl⟩
          · rw [hB] at he
            refine do_ ?_
            refine d_stepU rfl (st_st (v := ndV y u3)) ?_
            rintro v Bs ⟨rfl, rfl⟩
            refine do_ ?_
            refine go_ ?_
            exact s_entF (by repeat (first | exact Ent.nil | refine Ent.per (by repeat (first | with_reducible exact Sel.here | with_reducible apply Sel.there)) ?_ | refine Ent.cons (by repeat (first | with_reducible exact Sel.here | with_reducible apply Sel.there)) ?_)) (s_keep _ (next (h1, y, path' ++ [kidX x' key], u3, 0) ⟨by simp; omega, .inl ⟨rfl, hoky, atR_lv hB (by omega), he⟩⟩ (by dsimp only; simp)))
          · rw [hB] at he
            refine do_ ?_
            refine d_stepU rfl (st_st (v := zNode)) ?_
            rintro v Bs ⟨rfl, rfl⟩
            refine do_ ?_
            refine go_ ?_
            refine s_nilN (sz := 4) (m := 0) (row := itemRow (fun _ => (none, 0)) []) rfl ?_
            refine s_open (B := Nd1 nil0 nilP) (fun _ _ q => q) ?_
            refine s_nilN (sz := 4) (m := 0) (row := kidRow []) rfl ?_
            refine s_open (B := Nd3 nil0 nilP) (fun _ _ q => q) ?_
            refine s_fam0 (F := itemFam (fun _ => (none, 0)) []) ?_
            refine s_open (B := Nd2 nil0 nilP) (fun _ _ q => q) ?_
            refine s_front (a := Box r8 88 [.int .i64 0, .slice none 0 0, .slice none 0 0]) (by repeat (first | with_reducible exact Sel.here | with_reducible apply Sel.there)) ?_
            refine s_open (B := Box r8 88 [.int .i64 nil0.level, .slice nilP.a nil0.items.length nilP.c, .slice nilP.b nil0.kids.length nilP.d]) (fun _ _ q => q) ?_
            exact s_entF (by repeat (first | exact Ent.nil | refine Ent.per (by repeat (first | with_reducible exact Sel.here | with_reducible apply Sel.there)) ?_ | refine Ent.cons (by repeat (first | with_reducible exact Sel.here | with_reducible apply Sel.there)) ?_)) (s_keep _ (next (h1, nil0, path', nilP, e) ⟨by dsimp only; omega, .inr ⟨he2, rfl, rfl, he.symm⟩⟩ (by dsimp only; rw [if_neg he2, if_pos rfl]; omega)))
      · cases h' with
        | succ h1 => exact absurd h0 (by omega)
        | zero =>
          rw [leafX] at he
          refine go_ ?_
          exact s_rett (rs := [.cell 6 88, .tmp 7]) (vs := [_, _]) Tryz.func48 rfl (by intro j; refine RVS.cell _ _ rfl (by repeat (first | with_reducible exact Sel.here | with_reducible apply Sel.there)) (by rfl) ?_; refine RVS.tmp _ rfl ?_; exact RVS.nil) rfl (.inl ⟨x', u', he.symm, hok', by omega, rfl, path', rfl⟩) (by repeat (first | exact Ent.nil | refine Ent.per (by repeat (first | with_reducible exact Sel.here | with_reducible apply Sel.there)) ?_ | refine Ent.cons (by repeat (first | with_reducible exact Sel.here | with_reducible apply Sel.there)) ?_))
    · refine s_front (a := Box r8 88 [.int .i64 nil0.level, .slice nilP.a nil0.items.length nilP.c, .slice nilP.b nil0.kids.length nilP.d]) (by repeat (first | with_reducible exact Sel.here | with_reducible apply Sel.there)) ?_
      refine s_open (B := Box r8 88 [.int .i64 0, .slice none 0 0, .slice none 0 0]) (fun _ _ q => q) ?_
      refine go_ ?_
      rw [show (((e' : Nat) : Int) == 0) = false from beq_eq_false_iff_ne.2 (by omega)]
      refine go_ ?_
      exact s_rett (rs := [.cell 6 88, .tmp 7]) (vs := [_, _]) Tryz.func48 rfl (by intro j; refine RVS.cell _ _ rfl (by repeat (first | with_reducible exact Sel.here | with_reducible apply Sel.there)) (by rfl) ?_; refine RVS.tmp _ rfl ?_; exact RVS.nil) rfl (.inr ⟨e', he, he0, rfl, path', rfl⟩) (by repeat (first | exact Ent.nil | refine Ent.per (by repeat (first | with_reducible exact Sel.here | with_reducible apply Sel.there)) ?_ | refine Ent.cons (by repeat (first | with_reducible exact Sel.here | with_reducible apply Sel.there)) ?_))
  · have hL : leafR rd key k = .error e := by unfold leafR; rw [hA]
    refine go_ ?_
    refine s_alloc fun r8 => ?_
    refine go_ ?_
    refine s_loop (fun _ : Unit => [(0, .pointer (some ⟨r, 0, none⟩)), (5, .pointer (some ⟨r5, 0, none⟩)), (6, .pointer (some ⟨r6, 0, none⟩)), (8, .pointer (some ⟨r8, 0, none⟩)), (9, .int .i64 (e : Nat))])
      (fun _ => [Box r8 88 [.int .i64 0, .slice none 0 0, .slice none 0 0], Box r6 88 [.int .i64 0, .slice none 0 0, .slice none 0 0], Wk r p path, PP, F]) (fun _ => True) (fun _ => 0) () trivial (by repeat (first | exact Ent.nil | refine Ent.per (by repeat (first | with_reducible exact Sel.here | with_reducible apply Sel.there)) ?_ | refine Ent.cons (by repeat (first | with_reducible exact Sel.here | with_reducible apply Sel.there)) ?_)) ?_
    rintro _ _ _
    refine go_ ?_
    rw [show (((e : Nat) : Int) == 0) = false from beq_eq_false_iff_ne.2 (by omega)]
    refine go_ ?_
    exact s_rett (rs := [.cell 6 88, .tmp 7]) (vs := [_, _]) Tryz.func48 rfl (by intro j; refine RVS.cell _ _ rfl (by repeat (first | with_reducible exact Sel.here | with_reducible apply Sel.there)) (by rfl) ?_; refine RVS.tmp _ rfl ?_; exact RVS.nil) rfl (.inr ⟨e, hL, he, rfl, path, rfl⟩) (by repeat (first | exact Ent.nil | refine Ent.per (by repeat (first | with_reducible exact Sel.here | with_reducible apply Sel.there)) ?_ | refine Ent.cons (by repeat (first | with_reducible exact Sel.here | with_reducible apply Sel.there)) ?_))
set_option maxHeartbeats 4000000 in
theorem gget_c {PP : HP} {p : Nat} {rd : Int → Except Nat Node} (hR : NdC PP p rd) (k : Int) (key : Key) : Ctr Tryz.prog 17 [.pointer (some ⟨p, 0, none⟩), .int .i64 k, key.v] [PP]
    (fun v Bs => (∃ l a c, getR rd key k = .ok l ∧ v = .tuple #[.slice a l.length c, .int .i64 0] ∧ Bs = [PP, BS (.slice a l.length c) l]) ∨
      (∃ e : Nat, getR rd key k = .error e ∧ e ≠ 0 ∧ v = .tuple #[.slice none 0 0, .int .i64 e] ∧ Bs = [PP])) := by
  by_cases hk : k = 0
  · refine Ctr.post ((get0_c p k key hk).frame [PP]) fun v Bs ⟨Cs, ⟨hv, hc⟩, hb⟩ => ⟨[PP], .inr ⟨10, by unfold getR; rw [if_pos hk], by decide, hv, rfl⟩, fun H M q => ?_⟩
    subst hc; subst hb
    exact q
  have hG : getR rd key k = match leafR rd key k with
    | .error e => .error e
    | .ok x => if seekHit x key then .ok (x.items.getD (seekX x key) default).val else .error 10 := by unfold getR; rw [if_neg hk]
  refine s_enter 39 [(0, _), (1, _), (2, _)] (fun F => [_, F]) Tryz.func17 fun F => ?_
  refine go_ ?_
  refine s_box fun r5 => ?_
  refine go_ ?_
  refine s_ieq (fun h0 => absurd h0 hk) (fun h0 => ?_)
  refine go_ ?_
  refine s_box fun r1 => ?_
  refine s_wk0 (by repeat (first | with_reducible exact Sel.here | with_reducible apply Sel.there)) ?_
  refine go_ ?_
  refine s_call (sp := (by repeat (first | exact Split.nil | apply Split.perx (by repeat (first | with_reducible exact Sel.here | with_reducible apply Sel.there)) (by infer_instance) | apply Split.cons (by repeat (first | with_reducible exact Sel.here | with_reducible apply Sel.there))))) (hs := gleaf_c hR r1 k key [] (by simp)) (h := ?_)
  rintro v Bs (⟨L, u, hL, hok, hl0, rfl, path', rfl⟩ | ⟨e, hL, he, rfl, path', rfl⟩)
  · rw [hL] at hG
    dsimp only at hG
    have hs := small_of hok
    refine go_ ?_
    refine s_alloc fun r8 => ?_
    refine go_ ?_
    refine s_call (sp := (by repeat (first | exact Split.nil | apply Split.perx (by repeat (first | with_reducible exact Sel.here | with_reducible apply Sel.there)) (by infer_instance) | apply Split.cons (by repeat (first | with_reducible exact Sel.here | with_reducible apply Sel.there))))) (hs := nseek_c L key (a := u.a) (b := u.b) (c := u.c) (d := u.d) (w := u.w) rfl rfl hs.i hs.k) (h := ?_)
    rintro v Bs ⟨rfl, rfl⟩
    cases hit : seekHit L key with
    | false =>
      rw [hit, if_neg (by decide)] at hG
      refine go_ ?_
      exact s_rett (rs := [.tmp 6, .tmp 7]) (vs := [_, _]) Tryz.func17 rfl (by intro j; refine RVS.tmp _ rfl ?_; refine RVS.tmp _ rfl ?_; exact RVS.nil) rfl (.inr ⟨10, hG, by decide, rfl, rfl⟩) (by repeat (first | exact Ent.nil | refine Ent.per (by repeat (first | with_reducible exact Sel.here | with_reducible apply Sel.there)) ?_ | refine Ent.cons (by repeat (first | with_reducible exact Sel.here | with_reducible apply Sel.there)) ?_))
    | true =>
      rw [hit, if_pos rfl] at hG
      have hlt := seekHit_lt hl0 hit
      refine go_ ?_
      refine s_get (seekX L key) (F := itemFam u.w L.items) (m := L.items.length) (by repeat (first | with_reducible exact Sel.here | with_reducible apply Sel.there)) hlt ?_
      exact s_rett (rs := [.tmp 6, .tmp 7]) (vs := [_, _]) Tryz.func17 rfl (by intro j; refine RVS.tmp _ rfl ?_; refine RVS.tmp _ rfl ?_; exact RVS.nil) rfl (.inl ⟨(L.items.getD (seekX L key) default).val, (u.w (seekX L key)).1, (u.w (seekX L key)).2, hG, rfl, rfl⟩) (by repeat (first | exact Ent.nil | refine Ent.per (by repeat (first | with_reducible exact Sel.here | with_reducible apply Sel.there)) ?_ | refine Ent.cons (by repeat (first | with_reducible exact Sel.here | with_reducible apply Sel.there)) ?_))
  · rw [hL] at hG
    refine go_ ?_
    refine s_alloc fun r8 => ?_
    refine go_ ?_
    rw [show (((e : Nat) : Int) != 0) = true by simp; omega]
    refine go_ ?_
    exact s_rett (rs := [.tmp 6, .tmp 7]) (vs := [_, _]) Tryz.func17 rfl (by intro j; refine RVS.tmp _ rfl ?_; refine RVS.tmp _ rfl ?_; exact RVS.nil) rfl (.inr ⟨e, hG, he, rfl, rfl⟩) (by repeat (first | exact Ent.nil | refine Ent.per (by repeat (first | with_reducible exact Sel.here | with_reducible apply Sel.there)) ?_ | refine Ent.cons (by repeat (first | with_reducible exact Sel.here | with_reducible apply Sel.there)) ?_))
end Go.Proofs.YtgbbcpfnmkeijaaGreat
