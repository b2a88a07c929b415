/- find.Get over any nodes that are read. -/
import Derived.Test.YtgbbcpfnmkeijaaGreatGrtEG
import Derived.Test.YtgbbcpfnmkeijaaGreatGrtEB
import Derived.Test.YtgbbcpfnmkeijaaGreatGrtAE
import Derived.Test.YtgbbcpfnmkeijaaGreatGrtSh
namespace Go.Proofs.YtgbbcpfnmkeijaaGreat
open Go.Cam
set_option maxRecDepth 100000
abbrev kidX (x : Node) (key : Key) : Int := (x.kids.getD (seekX x key) default).addr
def leafX (rd : Int → Except Nat Node) (key : Key) : Nat → Node → Except Nat Node
  | 0, x => .ok x
  | h + 1, x => match atR rd (kidX x key) (h : Nat) with
    | .error e => .error e
    | .ok y => leafX rd key h y
def leafR (rd : Int → Except Nat Node) (key : Key) (k : Int) : Except Nat Node :=
  match atR rd k (-1) with
  | .error e => .error e
  | .ok x => leafX rd key x.level.toNat x
def getR (rd : Int → Except Nat Node) (key : Key) (k : Int) : Except Nat (List Nat) :=
  if k = 0 then .error 10 else
  match leafR rd key k with
  | .error e => .error e
  | .ok x => if seekHit x key then .ok (x.items.getD (seekX x key) default).val else .error 10
theorem atR_lv {rd : Int → Except Nat Node} {k lv : Int} {x : Node} (h : atR rd k lv = .ok x) (hl : 0 ≤ lv) : x.level = lv := by
  unfold atR at h
  cases hr : rd k with
  | error e => rw [hr] at h; cases h
  | ok y =>
    rw [hr] at h
    dsimp only at h
    split at h
    · cases h
    · rename_i h2
      cases h
      exact Classical.byContradiction fun e => h2 ⟨hl, e⟩
theorem nodeOk_lv {x : Node} (h : nodeOk x = true) : 0 ≤ x.level ∧ x.level ≤ 7 := by
  have := (NdF.of h).sh; omega
theorem seekX_kid {x : Node} (h : nodeOk x = true) (h0 : x.level ≠ 0) (key : Key) : seekX x key < x.kids.length := by
  have := seekN_le (fun i => !(key.lt (x.kids.getD i default).key)) x.kids.length 0
  have h2 := nodeOk_kids h h0
  unfold seekX; rw [if_neg h0]; omega
abbrev nil0 : Node := ⟨0, [], []⟩
abbrev nilP : Plc := ⟨none, 0, none, 0, fun _ => (none, 0)⟩
set_option maxHeartbeats 8000000 in
theorem gleaf_c {PP : HP} {p : Nat} {rd : Int → Except Nat Node} (hR : NdC PP p rd) (r : Nat) (k : Int) (key : Key) (path : List Int) (hp : path.length < 1000000) : Ctr Tryz.prog 48 [.pointer (some ⟨r, 0, none⟩), .int .i64 k, key.v] [Wk r p path, PP]
    (fun v Bs => (∃ x u, leafR rd key k = .ok x ∧ nodeOk x = true ∧ x.level = 0 ∧ v = .tuple #[ndV x u, .int .i64 0] ∧ ∃ path', Bs = [Wk r p path', PP, Nd1 x u, Nd2 x u, Nd3 x u]) ∨
      (∃ e : Nat, leafR rd key k = .error e ∧ e ≠ 0 ∧ v = .tuple #[zNode, .int .i64 e] ∧ ∃ path', Bs = [Wk r p path', PP])) := by
  refine s_enter 47 [(0, _), (1, _), (2, _)] (fun F => [_, _, F]) Tryz.func48 fun F => ?_
  refine go_ ?_
  refine s_box fun r5 => ?_
  refine s_alloc fun r6 => ?_
  refine go_ ?_
  refine s_call (sp := (by repeat (first | exact Split.nil | apply Split.perx (by repeat (first | with_reducible exact Sel.here | with_reducible apply Sel.there)) (by infer_instance) | apply Split.cons (by repeat (first | with_reducible exact Sel.here | with_reducible apply Sel.there))))) (hs := gat_c hR r k (-1) path (by omega)) (h := ?_)
  rintro v Bs (⟨x, u, hA, hok, rfl, rfl⟩ | ⟨e, hA, he, rfl, rfl⟩)
  · refine go_ ?_
    refine s_alloc fun r8 => ?_
    refine go_ ?_
    have hL : leafR rd key k = leafX rd key x.level.toNat x := by unfold leafR; rw [hA]
    rw [hL]
    refine s_loop (fun q : Nat × Node × List Int × Plc × Nat => [(0, .pointer (some ⟨r, 0, none⟩)), (5, .pointer (some ⟨r5, 0, none⟩)), (6, .pointer (some ⟨r6, 0, none⟩)), (8, .pointer (some ⟨r8, 0, none⟩)), (9, .int .i64 (q.2.2.2.2 : Nat))])
      (fun q => [Box r8 88 [.int .i64 q.2.1.level, .slice q.2.2.2.1.a q.2.1.items.length q.2.2.2.1.c, .slice q.2.2.2.1.b q.2.1.kids.length q.2.2.2.1.d], Wk r p q.2.2.1, PP, Nd1 q.2.1 q.2.2.2.1, Nd2 q.2.1 q.2.2.2.1, Nd3 q.2.1 q.2.2.2.1, Box r6 88 [.int .i64 0, .slice none 0 0, .slice none 0 0], Box r5 49 key.row, F])
      (fun q => q.2.2.1.length + q.1 < 1000100 ∧ ((q.2.2.2.2 = 0 ∧ nodeOk q.2.1 = true ∧ q.2.1.level = (q.1 : Nat) ∧ leafX rd key q.1 q.2.1 = leafX rd key x.level.toNat x) ∨ (q.2.2.2.2 ≠ 0 ∧ q.2.1 = nil0 ∧ q.2.2.2.1 = nilP ∧ leafX rd key x.level.toNat x = .error q.2.2.2.2))) (fun q => q.1 + (if q.2.2.2.2 = 0 then 1 else 0)) (x.level.toNat, x, path ++ [k], u, 0) ⟨by have := nodeOk_lv hok; simp; omega, .inl ⟨rfl, hok, by have := nodeOk_lv hok; dsimp only; omega, rfl⟩⟩ (by repeat (first | exact Ent.nil | refine Ent.per (by repeat (first | with_reducible exact Sel.here | with_reducible apply Sel.there)) ?_ | refine Ent.cons (by repeat (first | with_reducible exact Sel.here | with_reducible apply Sel.there)) ?_)) ?_
    rintro ⟨h', x', path', u', e'⟩ ⟨hp', hq⟩ next
    dsimp only at hp' hq next ⊢
    rcases hq with ⟨rfl, hok', hlv, he⟩ | ⟨he0, rfl, rfl, he⟩
    · have hs := small_of hok'
      refine go_ ?_
      refine s_if (fun h0 => ?_) (fun h0 => ?_)
      · cases h' with
        | zero => exact absurd h0 (by omega)
        | succ h1 =>
          have hsk := seekX_kid hok' (by omega) key
          rw [leafX] at he
          refine go_ ?_
          refine s_call (sp := (by repeat (first | exact Split.nil | apply Split.perx (by repeat (first | with_reducible exact Sel.here | with_reducible apply Sel.there)) (by infer_instance) | apply Split.cons (by repeat (first | with_reducible exact Sel.here | with_reducible apply Sel.there))))) (hs := nseek_c x' key (a := u'.a) (b := u'.b) (c := u'.c) (d := u'.d) (w := u'.w) rfl rfl hs.i hs.k) (h := ?_)
          rintro v Bs ⟨rfl, rfl⟩
          refine go_ ?_
          refine s_front (a := Box r8 88 [.int .i64 x'.level, .slice u'.a x'.items.length u'.c, .slice u'.b x'.kids.length u'.d]) (by repeat (first | with_reducible exact Sel.here | with_reducible apply Sel.there)) ?_
          refine s_front (a := PP) (by repeat (first | with_reducible exact Sel.here | with_reducible apply Sel.there)) ?_
          refine s_front (a := Wk r p path') (by repeat (first | with_reducible exact Sel.here | with_reducible apply Sel.there)) ?_
          refine s_drawN 2 [.q 0, .q 1, .q 2, .q 3, .q 4, .q 5, .q 6, .q 7, .q 8, .q 9, .r, .s 10, .q 11, .q 12, .q 13, .s 14, .q 15] ?_
          refine do_ ?_
          refine d_rel 1 ?_
          refine d_nrm ?_
          rw [hlv, show ((h1 + 1 : Nat) : Int) - 1 = (h1 : Nat) by omega]
          refine d_step rfl (st_call (sp := (by repeat (first | exact Split.nil | apply Split.perx (by repeat (first | with_reducible exact Sel.here | with_reducible apply Sel.there)) (by infer_instance) | apply Split.cons (by repeat (first | with_reducible exact Sel.here | with_reducible apply Sel.there))))) (hs := gat_c hR r (kidX x' key) (h1 : Nat) path' (by omega))) ?_
          rintro v Bs ⟨Cs, (⟨y, u3, hB, hoky, rfl, rfl⟩ | ⟨e, hB, he2, rfl, rfl⟩), rfl⟩
          · rw [hB] at he
            refine do_ ?_
            refine d_stepU rfl (st_st (v := ndV y u3)) ?_
            rintro v Bs ⟨rfl, rfl⟩
            refine do_ ?_
            refine go_ ?_
            exact s_entF (by repeat (first | exact Ent.nil | refine Ent.per (by repeat (first | with_reducible exact Sel.here | with_reducible apply Sel.there)) ?_ | refine Ent.cons (by repeat (first | with_reducible exact Sel.here | with_reducible apply Sel.there)) ?_)) (s_keep _ (next (h1, y, path' ++ [kidX x' key], u3, 0) ⟨by simp; omega, .inl ⟨rfl, hoky, atR_lv hB (by omega), he⟩⟩ (by dsimp only; simp)))
          · rw [hB] at he
            refine do_ ?_
            refine d_stepU rfl (st_st (v := zNode)) ?_
            rintro v Bs ⟨rfl, rfl⟩
            refine do_ ?_
            refine go_ ?_
            refine s_nilN (sz := 4) (m := 0) (row := itemRow (fun _ => (none, 0)) []) rfl ?_
            refine s_open (B := Nd1 nil0 nilP) (fun _ _ q => q) ?_
            refine s_nilN (sz := 4) (m := 0) (row := kidRow []) rfl ?_
            refine s_open (B := Nd3 nil0 nilP) (fun _ _ q => q) ?_
            refine s_fam0 (F := itemFam (fun _ => (none, 0)) []) ?_
            refine s_open (B := Nd2 nil0 nilP) (fun _ _ q => q) ?_
            refine s_front (a := Box r8 88 [.int .i64 0, .slice none 0 0, .slice none 0 0]) (by repeat (first | with_reducible exact Sel.here | with_reducible apply Sel.there)) ?_
            refine s_open (B := Box r8 88 [.int .i64 nil0.level, .slice nilP.a nil0.items.length nilP.c, .slice nilP.b nil0.kids.length nilP.d]) (fun _ _ q => q) ?_
            exact s_entF (by repeat (first | exact Ent.nil | refine Ent.per (by repeat (first | with_reducible exact Sel.here | with_reducible apply Sel.there)) ?_ | refine Ent.cons (by repeat (first | with_reducible exact Sel.here | with_reducible apply Sel.there)) ?_)) (s_keep _ (next (h1, nil0, path', nilP, e) ⟨by dsimp only; omega, .inr ⟨he2, rfl, rfl, he.symm⟩⟩ (by dsimp only; rw [if_neg he2, if_pos rfl]; omega)))
      · cases h' with
        | succ h1 => exact absurd h0 (by omega)
        | zero =>
          rw [leafX] at he
          refine go_ ?_
          exact s_rett (rs := [.cell 6 88, .tmp 7]) (vs := [_, _]) Tryz.func48 rfl (by intro j; refine RVS.cell _ _ rfl (by repeat (first | with_reducible exact Sel.here | with_reducible apply Sel.there)) (by rfl) ?_; refine RVS.tmp _ rfl ?_; exact RVS.nil) rfl (.inl ⟨x', u', he.symm, hok', by omega, rfl, path', rfl⟩) (by repeat (first | exact Ent.nil | refine Ent.per (by repeat (first | with_reducible exact Sel.here | with_reducible apply Sel.there)) ?_ | refine Ent.cons (by repeat (first | with_reducible exact Sel.here | with_reducible apply Sel.there)) ?_))
    · refine s_front (a := Box r8 88 [.int .i64 nil0.level, .slice nilP.a nil0.items.length nilP.c, .slice nilP.b nil0.kids.length nilP.d]) (by repeat (first | with_reducible exact Sel.here | with_reducible apply Sel.there)) ?_
      refine s_open (B := Box r8 88 [.int .i64 0, .slice none 0 0, .slice none 0 0]) (fun _ _ q => q) ?_
      refine go_ ?_
      rw [show (((e' : Nat) : Int) == 0) = false from beq_eq_false_iff_ne.2 (by omega)]
      refine go_ ?_
      exact s_rett (rs := [.cell 6 88, .tmp 7]) (vs := [_, _]) Tryz.func48 rfl (by intro j; refine RVS.cell _ _ rfl (by repeat (first | with_reducible exact Sel.here | with_reducible apply Sel.there)) (by rfl) ?_; refine RVS.tmp _ rfl ?_; exact RVS.nil) rfl (.inr ⟨e', he, he0, rfl, path', rfl⟩) (by repeat (first | exact Ent.nil | refine Ent.per (by repeat (first | with_reducible exact Sel.here | with_reducible apply Sel.there)) ?_ | refine Ent.cons (by repeat (first | with_reducible exact Sel.here | with_reducible apply Sel.there)) ?_))
  · have hL : leafR rd key k = .error e := by unfold leafR; rw [hA]
    refine go_ ?_
    refine s_alloc fun r8 => ?_
    refine go_ ?_
    refine s_loop (fun _ : Unit => [(0, .pointer (some ⟨r, 0, none⟩)), (5, .pointer (some ⟨r5, 0, none⟩)), (6, .pointer (some ⟨r6, 0, none⟩)), (8, .pointer (some ⟨r8, 0, none⟩)), (9, .int .i64 (e : Nat))])
      (fun _ => [Box r8 88 [.int .i64 0, .slice none 0 0, .slice none 0 0], Box r6 88 [.int .i64 0, .slice none 0 0, .slice none 0 0], Wk r p path, PP, F]) (fun _ => True) (fun _ => 0) () trivial (by repeat (first | exact Ent.nil | refine Ent.per (by repeat (first | with_reducible exact Sel.here | with_reducible apply Sel.there)) ?_ | refine Ent.cons (by repeat (first | with_reducible exact Sel.here | with_reducible apply Sel.there)) ?_)) ?_
    rintro _ _ _
    refine go_ ?_
    rw [show (((e : Nat) : Int) == 0) = false from beq_eq_false_iff_ne.2 (by omega)]
    refine go_ ?_
    exact s_rett (rs := [.cell 6 88, .tmp 7]) (vs := [_, _]) Tryz.func48 rfl (by intro j; refine RVS.cell _ _ rfl (by repeat (first | with_reducible exact Sel.here | with_reducible apply Sel.there)) (by rfl) ?_; refine RVS.tmp _ rfl ?_; exact RVS.nil) rfl (.inr ⟨e, hL, he, rfl, path, rfl⟩) (by repeat (first | exact Ent.nil | refine Ent.per (by repeat (first | with_reducible exact Sel.here | with_reducible apply Sel.there)) ?_ | refine Ent.cons (by repeat (first | with_reducible exact Sel.here | with_reducible apply Sel.there)) ?_))
set_option maxHeartbeats 4000000 in
theorem gget_c {PP : HP} {p : Nat} {rd : Int → Except Nat Node} (hR : NdC PP p rd) (k : Int) (key : Key) : Ctr Tryz.prog 17 [.pointer (some ⟨p, 0, none⟩), .int .i64 k, key.v] [PP]
    (fun v Bs => (∃ l a c, getR rd key k = .ok l ∧ v = .tuple #[.slice a l.length c, .int .i64 0] ∧ Bs = [PP, BS (.slice a l.length c) l]) ∨
      (∃ e : Nat, getR rd key k = .error e ∧ e ≠ 0 ∧ v = .tuple #[.slice none 0 0, .int .i64 e] ∧ Bs = [PP])) := by
  by_cases hk : k = 0
  · refine Ctr.post ((get0_c p k key hk).frame [PP]) fun v Bs ⟨Cs, ⟨hv, hc⟩, hb⟩ => ⟨[PP], .inr ⟨10, by unfold getR; rw [if_pos hk], by decide, hv, rfl⟩, fun H M q => ?_⟩
    subst hc; subst hb
    exact q
  have hG : getR rd key k = match leafR rd key k with
    | .error e => .error e
    | .ok x => if seekHit x key then .ok (x.items.getD (seekX x key) default).val else .error 10 := by unfold getR; rw [if_neg hk]
  refine s_enter 39 [(0, _), (1, _), (2, _)] (fun F => [_, F]) Tryz.func17 fun F => ?_
  refine go_ ?_
  refine s_box fun r5 => ?_
  refine go_ ?_
  refine s_ieq (fun h0 => absurd h0 hk) (fun h0 => ?_)
  refine go_ ?_
  refine s_box fun r1 => ?_
  refine s_wk0 (by repeat (first | with_reducible exact Sel.here | with_reducible apply Sel.there)) ?_
  refine go_ ?_
  refine s_call (sp := (by repeat (first | exact Split.nil | apply Split.perx (by repeat (first | with_reducible exact Sel.here | with_reducible apply Sel.there)) (by infer_instance) | apply Split.cons (by repeat (first | with_reducible exact Sel.here | with_reducible apply Sel.there))))) (hs := gleaf_c hR r1 k key [] (by simp)) (h := ?_)
  rintro v Bs (⟨L, u, hL, hok, hl0, rfl, path', rfl⟩ | ⟨e, hL, he, rfl, path', rfl⟩)
  · rw [hL] at hG
    dsimp only at hG
    have hs := small_of hok
    refine go_ ?_
    refine s_alloc fun r8 => ?_
    refine go_ ?_
    refine s_call (sp := (by repeat (first | exact Split.nil | apply Split.perx (by repeat (first | with_reducible exact Sel.here | with_reducible apply Sel.there)) (by infer_instance) | apply Split.cons (by repeat (first | with_reducible exact Sel.here | with_reducible apply Sel.there))))) (hs := nseek_c L key (a := u.a) (b := u.b) (c := u.c) (d := u.d) (w := u.w) rfl rfl hs.i hs.k) (h := ?_)
    rintro v Bs ⟨rfl, rfl⟩
    cases hit : seekHit L key with
    | false =>
      rw [hit, if_neg (by decide)] at hG
      refine go_ ?_
      exact s_rett (rs := [.tmp 6, .tmp 7]) (vs := [_, _]) Tryz.func17 rfl (by intro j; refine RVS.tmp _ rfl ?_; refine RVS.tmp _ rfl ?_; exact RVS.nil) rfl (.inr ⟨10, hG, by decide, rfl, rfl⟩) (by repeat (first | exact Ent.nil | refine Ent.per (by repeat (first | with_reducible exact Sel.here | with_reducible apply Sel.there)) ?_ | refine Ent.cons (by repeat (first | with_reducible exact Sel.here | with_reducible apply Sel.there)) ?_))
    | true =>
      rw [hit, if_pos rfl] at hG
      have hlt := seekHit_lt hl0 hit
      refine go_ ?_
      refine s_get (seekX L key) (F := itemFam u.w L.items) (m := L.items.length) (by repeat (first | with_reducible exact Sel.here | with_reducible apply Sel.there)) hlt ?_
      exact s_rett (rs := [.tmp 6, .tmp 7]) (vs := [_, _]) Tryz.func17 rfl (by intro j; refine RVS.tmp _ rfl ?_; refine RVS.tmp _ rfl ?_; exact RVS.nil) rfl (.inl ⟨(L.items.getD (seekX L key) default).val, (u.w (seekX L key)).1, (u.w (seekX L key)).2, hG, rfl, rfl⟩) (by repeat (first | exact Ent.nil | refine Ent.per (by repeat (first | with_reducible exact Sel.here | with_reducible apply Sel.there)) ?_ | refine Ent.cons (by repeat (first | with_reducible exact Sel.here | with_reducible apply Sel.there)) ?_))
  · rw [hL] at hG
    refine go_ ?_
    refine s_alloc fun r8 => ?_
    refine go_ ?_
    rw [show (((e : Nat) : Int) != 0) = true by simp; omega]
    refine go_ ?_
    exact s_rett (rs := [.tmp 6, .tmp 7]) (vs := [_, _]) Tryz.func17 rfl (by intro j; refine RVS.tmp _ rfl ?_; refine RVS.tmp _ rfl ?_; exact RVS.nil) rfl (.inr ⟨e, hG, he, rfl, rfl⟩) (by repeat (first | exact Ent.nil | refine Ent.per (by repeat (first | with_reducible exact Sel.here | with_reducible apply Sel.there)) ?_ | refine Ent.cons (by repeat (first | with_reducible exact Sel.here | with_reducible apply Sel.there)) ?_))
end Go.Proofs.YtgbbcpfnmkeijaaGreat
/- The plain law of a commit: what the disk shows behind it. -/
namespace Go.Proofs.YtgbbcpfnmkeijaaGreat
open Go.Cam
set_option maxRecDepth 100000
theorem Dr.on_puts : ∀ (ws : List (Nat × List Nat)) {σ : Dr}, σ.on → (σ.puts ws).2 = true ∧ (σ.puts ws).1.on ∧ (σ.puts ws).1.n = σ.n ∧ (σ.puts ws).1.lastS = updsS σ.lastS ws ∧ (σ.puts ws).1.steps = σ.steps + ws.length
  | [], σ, h => ⟨rfl, h, rfl, rfl, rfl⟩
  | x :: ws, σ, h => by
    obtain ⟨h1, h2, h3, h4, h5⟩ := Dr.on_write h x.1 x.2
    obtain ⟨g1, g2, g3, g4, g5⟩ := Dr.on_puts ws h2
    rw [Dr.puts, h1, if_pos rfl]
    exact ⟨g1, g2, g3.trans h3, by rw [updsS, ← h4]; exact g4, by
      show ((σ.write x.1 x.2).1.puts ws).1.steps = _
      rw [g5, h5]; simp; omega⟩
theorem Dr.flush_cached {σ : Dr} (h : σ.flush.2 = true) (k : Int) : σ.flush.1.cached k = [] := by
  unfold Dr.flush at *
  split at h
  · rename_i h2; rw [if_pos h2]
  · cases h
theorem Dr.writes_cached : ∀ (ws : List (Nat × List Nat)) {σ : Dr}, (σ.writes ws).2 = true → ∀ k, (σ.writes ws).1.cached k = []
  | [], σ, h => Dr.flush_cached h
  | x :: ws, σ, h => by
    rw [Dr.writes] at h ⊢
    split at h
    · rename_i h2; rw [if_pos h2]; exact Dr.writes_cached ws h
    · cases h
theorem Dr.flip_cached {σ : Dr} {ct : Ct} {g : Nat} (h : (σ.flip ct g).2 = true) (k : Int) : (σ.flip ct g).1.cached k = [] := by
  unfold Dr.flip at *
  split at h
  · rename_i h2; rw [if_pos h2]; exact Dr.writes_cached _ h k
  · cases h
theorem Dr.on_commit {σd : Dr} (h : σd.on) (σ : Ct) (g : Int → Option OB) (gn : Nat) : (σd.commit σ g gn).2 = true ∧ (σd.commit σ g gn).1.on ∧ (σd.commit σ g gn).1.n = σd.n ∧
    (σd.commit σ g gn).1.lastS = updS (updsS (updsS σd.lastS (putsW σ g gn (keysN (bmap g) σ.n))) (areaW σ σ.n gn (areaN σ.n))) (gn % 2) (sealB ⟨1, gn % 2, 0, 0, gn⟩ (supB σ.n 8)) ∧
    (σd.commit σ g gn).1.steps = σd.steps + (putsW σ g gn (keysN (bmap g) σ.n)).length + areaN σ.n + 3 ∧ ∀ k, (σd.commit σ g gn).1.cached k = [] := by
  obtain ⟨a1, a2, a3, a4, a5⟩ := Dr.on_puts (putsW σ g gn (keysN (bmap g) σ.n)) h
  obtain ⟨b1, b2, b3, b4, b5⟩ := Dr.on_flip a2 σ gn
  have e : σd.commit σ g gn = (σd.puts (putsW σ g gn (keysN (bmap g) σ.n))).1.flip σ gn := by unfold Dr.commit; rw [a1, if_pos rfl]
  rw [e]
  exact ⟨b1, b2, b3.trans a3, by rw [b4, a4], by rw [b5, a5], fun k => Dr.flip_cached b1 k⟩
theorem putsW_mem {σ : Ct} {g : Int → Option OB} {gn : Nat} : ∀ {ks : List Int} {x : Nat × List Nat}, x ∈ putsW σ g gn ks → ∃ k ∈ ks, ∃ o, g k = some o ∧ σ.now k.toNat ≠ 0 ∧ x = (k.toNat, sealB ⟨5, k.toNat, o.l.length, 0, gn⟩ o.l)
  | k :: ks, x, h => by
    rw [putsW] at h
    rcases List.mem_append.1 h with h | h
    · cases hg : g k with
      | none => rw [hg] at h; cases h
      | some o =>
        rw [hg] at h
        dsimp only at h
        split at h
        · cases h
        · rename_i h0
          rw [List.mem_singleton] at h
          exact ⟨k, List.mem_cons_self .., o, hg, h0, h⟩
    · obtain ⟨k', h1, h2⟩ := putsW_mem h
      exact ⟨k', List.mem_cons_of_mem _ h1, h2⟩
/-- what is committed of a block -/
theorem updsS_puts {σ : Ct} {g : Int → Option OB} {gn : Nat} (f : Nat → List Nat) {k : Int} {o : OB} (hg : g k = some o) (h0 : σ.now k.toNat ≠ 0) : ∀ {ks : List Int}, (∀ q ∈ ks, 0 ≤ q) → ks.Pairwise (· < ·) → k ∈ ks → ∀ f, updsS f (putsW σ g gn ks) k.toNat = sealB ⟨5, k.toNat, o.l.length, 0, gn⟩ o.l
  | q :: ks, hp, hs, hk, f => by
    obtain ⟨s1, s2⟩ := List.pairwise_cons.1 hs
    rw [putsW, updsS_app]
    rcases List.mem_cons.1 hk with rfl | hk
    · rw [hg]
      dsimp only
      rw [if_neg h0, updsS_other _ _ _ fun x hx => ?_]
      · show updS f k.toNat _ k.toNat = _
        unfold updS; rw [if_pos rfl]
      · obtain ⟨k', h1, o', h2, h3, rfl⟩ := putsW_mem hx
        have := s1 k' h1
        have := hp k (List.mem_cons_self ..)
        dsimp only; omega
    · exact updsS_puts f hg h0 (fun q hq => hp q (List.mem_cons_of_mem _ hq)) s2 hk _
/-- counts, as they are read again -/
theorem body_at (σ : Ct) (i : Nat) (hw : ∀ a, σ.now a ≤ 65535) : ∀ m k, k < m → numB (((σ.bodyN i m).drop (2 * k)).take 2) = σ.get (i * 118 + k)
  | m + 1, k, hk => by
    have hl := σ.bodyN_len i m
    rw [Ct.bodyN]
    by_cases e : k < m
    · rw [List.drop_append_of_le_length (by omega), List.take_append_of_le_length (by rw [List.length_drop]; omega)]
      exact body_at σ i hw m k e
    · have : k = m := by omega
      subst this
      rw [List.drop_left' hl, List.take_of_length_le (by rw [putN_len]; omega), numB_putN]
      unfold Ct.get
      split
      · have := hw (i * 118 + k); omega
      · decide
theorem ctAt_body (σ : Ct) (hw : ∀ a, σ.now a ≤ 65535) (a : Nat) : ctAt (fun i => σ.bodyN i 118) a = σ.get a := by
  unfold ctAt ctVal
  rw [body_at σ _ hw 118 _ (Nat.mod_lt _ (by decide))]
  congr 1; omega
theorem ctNow_body (σ : Ct) (hw : ∀ a, σ.now a ≤ 65535) : ctNow (fun i => σ.bodyN i 118) (areaN σ.n * 118) = σ.get := by
  funext a
  unfold ctNow
  split
  · exact ctAt_body σ hw a
  · unfold Ct.get; rw [if_neg]; unfold areaN at *; omega
structure Cmt (σ : Ct) (g : Int → Option OB) : Prop where
  n1 : 32 ≤ σ.n
  n2 : σ.n ≤ 2048
  bm : BmOk σ g
  lo : ∀ k, g k ≠ none → (firstN σ.n : Int) ≤ k
  w : ∀ a, σ.now a ≤ 65535
  f : ∀ a, σ.now a ≠ 0 → firstN σ.n ≤ a
theorem Cmt.keys {σ : Ct} {g : Int → Option OB} (h : Cmt σ g) (k : Int) : k ∈ keysN (bmap g) σ.n ↔ g k ≠ none := (keysN_mem (fun k hk => h.bm.k k (bmap_none.1 hk)) k).trans bmap_none
theorem Cmt.at_ {σ : Ct} {g : Int → Option OB} (h : Cmt σ g) {gn : Nat} {x : Nat × List Nat} (hx : x ∈ putsW σ g gn (keysN (bmap g) σ.n)) : firstN σ.n ≤ x.1 := by
  obtain ⟨k, h1, o, h2, h3, rfl⟩ := putsW_mem hx
  have := h.lo k (by rw [h2]; simp)
  dsimp only; omega
theorem area_lt (n g i : Nat) (hi : i < areaN n) : 2 ≤ areaAtN n g + i ∧ areaAtN n g + i < firstN n := by
  have e3 : g % 2 * areaN n ≤ 1 * areaN n := Nat.mul_le_mul_right _ (by omega)
  unfold areaAtN firstN; omega
/-- behind a commit the disk is mounted with the counts of then -/
theorem commit_mnt {σd : Dr} (hon : σd.on) {σ : Ct} {g : Int → Option OB} (h : Cmt σ g) (hn : σd.n = σ.n) (gn : Nat) (hg1 : 1 ≤ gn) (hg2 : gn + 1 ≤ 1099511627775) (hs : IsSup σ.n (gn % 2) (σd.lastS (gn % 2)) (some gn)) :
    Mnt (σd.commit σ g (gn + 1)).1.lastS σ.n (gn + 1) (fun i => σ.bodyN i 118) ∧ IsSup σ.n ((gn + 1) % 2) ((σd.commit σ g (gn + 1)).1.lastS ((gn + 1) % 2)) (some (gn + 1)) ∧
    (∀ k o, g k = some o → σ.now k.toNat ≠ 0 → (σd.commit σ g (gn + 1)).1.lastS k.toNat = sealB ⟨5, k.toNat, o.l.length, 0, gn + 1⟩ o.l) ∧
    (∀ q, firstN σ.n ≤ q → (g q = none ∨ σ.now q = 0) → (σd.commit σ g (gn + 1)).1.lastS q = σd.lastS q) := by
  obtain ⟨_, _, _, e, _, _⟩ := Dr.on_commit hon σ g (gn + 1)
  rw [e]
  have hf2 : 2 ≤ firstN σ.n := by unfold firstN; omega
  have h0 : ∀ f q, q < 2 → updsS (updsS f (putsW σ g (gn + 1) (keysN (bmap g) σ.n))) (areaW σ σ.n (gn + 1) (areaN σ.n)) q = f q := fun f q hq => by
    rw [updsS_other _ _ _ fun x hx => (by have := areaW_at hx; omega), updsS_other _ _ _ fun x hx => (by have := h.at_ hx; omega)]
  have hsup : updS (updsS (updsS σd.lastS (putsW σ g (gn + 1) (keysN (bmap g) σ.n))) (areaW σ σ.n (gn + 1) (areaN σ.n))) ((gn + 1) % 2) (sealB ⟨1, (gn + 1) % 2, 0, 0, gn + 1⟩ (supB σ.n 8)) ((gn + 1) % 2) = sealB ⟨1, (gn + 1) % 2, 0, 0, gn + 1⟩ (supB σ.n 8) := by unfold updS; rw [if_pos rfl]
  have hold : updS (updsS (updsS σd.lastS (putsW σ g (gn + 1) (keysN (bmap g) σ.n))) (areaW σ σ.n (gn + 1) (areaN σ.n))) ((gn + 1) % 2) (sealB ⟨1, (gn + 1) % 2, 0, 0, gn + 1⟩ (supB σ.n 8)) (gn % 2) = σd.lastS (gn % 2) := by
    unfold updS; rw [if_neg (by omega), h0 _ _ (by omega)]
  have hso : supOk (gn + 1) σ.n := ⟨by omega, hg2, h.n1, h.n2⟩
  have hbig : ∀ q, firstN σ.n ≤ q → updS (updsS (updsS σd.lastS (putsW σ g (gn + 1) (keysN (bmap g) σ.n))) (areaW σ σ.n (gn + 1) (areaN σ.n))) ((gn + 1) % 2) (sealB ⟨1, (gn + 1) % 2, 0, 0, gn + 1⟩ (supB σ.n 8)) q = updsS σd.lastS (putsW σ g (gn + 1) (keysN (bmap g) σ.n)) q := fun q hq => by
    unfold updS
    rw [if_neg (by omega), updsS_other _ _ _ fun x hx => ?_]
    obtain ⟨i, hi, rfl⟩ := List.mem_map.1 hx
    have := area_lt σ.n (gn + 1) i (List.mem_range.1 hi)
    dsimp only; omega
  refine ⟨⟨⟨(gn + 1) % 2, ?_⟩, fun i hi => ?_, fun i hi => by rw [σ.bodyN_len], fun i => σ.bodyN_bys i 118, fun a _ hne => ?_⟩, ?_, fun k o hk hk0 => ?_, fun q hq hg => ?_⟩
  · rcases Nat.mod_two_eq_zero_or_one gn with hm | hm
    · have hm2 : (gn + 1) % 2 = 1 := by omega
      rw [hm] at hold hs
      rw [hm2] at hsup hold ⊢
      exact .inr (.inr (.inl ⟨gn, by omega, by rw [hold]; exact hs, by rw [hsup]; exact ⟨hso, rfl⟩, rfl⟩))
    · have hm2 : (gn + 1) % 2 = 0 := by omega
      rw [hm] at hold hs
      rw [hm2] at hsup hold ⊢
      exact .inr (.inr (.inr ⟨gn, by omega, by rw [hsup]; exact ⟨hso, rfl⟩, by rw [hold]; exact hs, rfl⟩))
  · have := area_lt σ.n (gn + 1) i hi
    unfold updS
    rw [if_neg (by omega)]
    exact updsS_area _ σ σ.n (gn + 1) (areaN σ.n) i hi
  · rw [ctAt_body σ h.w] at hne
    unfold Ct.get at hne
    split at hne
    · rename_i h3; exact ⟨h.f a hne, h3⟩
    · exact absurd rfl hne
  · rw [hsup]; exact ⟨hso, rfl⟩
  · have h3 := h.lo k (by rw [hk]; simp)
    rw [hbig _ (by omega)]
    exact updsS_puts σd.lastS hk hk0 (fun q hq => by have := (h.bm.k q ((h.keys q).1 hq)).1; exact this) (keysN_lt _ _) ((h.keys k).2 (by rw [hk]; simp)) _
  · rw [hbig q hq, updsS_other]
    intro x hx
    obtain ⟨k, h1, o, h2, h4, rfl⟩ := putsW_mem hx
    have h5 := (h.bm.k k (by rw [h2]; simp)).1
    intro e
    have e : k.toNat = q := e
    rcases hg with hg | hg
    · rw [← e, Int.toNat_of_nonneg h5, h2] at hg; cases hg
    · rw [← e] at hg; exact h4 hg
theorem fmt_sup {σ : Dr} (h : σ.on) (h1 : 32 ≤ σ.n) (h2 : σ.n ≤ 2048) : IsSup σ.n (1 % 2) (σ.fmt.lastS (1 % 2)) (some 1) := by
  obtain ⟨a1, a2, a3, a4, a5⟩ := Dr.on_writes none2 h
  obtain ⟨b1, b2, b3, b4, b5⟩ := Dr.on_flip a2 (Ct.new σ.n) 1
  have e : σ.fmt.lastS = _ := b4
  rw [e]
  unfold updS
  rw [if_pos rfl]
  exact ⟨⟨Nat.le_refl _, by omega, h1, h2⟩, rfl⟩
theorem keysN_len (gm : Int → Option Value) (N : Nat) : (keysN gm N).length ≤ N := by
  unfold keysN
  refine Nat.le_trans (List.length_filter_le _ _) ?_
  simp
theorem putsW_len (σ : Ct) (g : Int → Option OB) (gn : Nat) : ∀ ks : List Int, (putsW σ g gn ks).length ≤ ks.length
  | [] => Nat.le_refl _
  | q :: ks => by
    have ih := putsW_len σ g gn ks
    rw [putsW, List.length_append, List.length_cons]
    cases g q with
    | none => dsimp only; rw [List.length_nil]; omega
    | some o =>
      dsimp only
      split
      · rw [List.length_nil]; omega
      · rw [List.length_singleton]; omega
end Go.Proofs.YtgbbcpfnmkeijaaGreat
/- The plain law of a commit of nodes and bytes. -/
namespace Go.Proofs.YtgbbcpfnmkeijaaGreat
open Go.Cam
set_option maxRecDepth 100000
theorem keyK_none {G : Int → Option Bk} {k : Int} : ((G k).map fun _ => (.bool true : Value)) ≠ none ↔ G k ≠ none := by
  cases G k <;> simp
theorem Dr.on_commitK {σd : Dr} (h : σd.on) (σ : Ct) (G : Int → Option Bk) (gn : Nat) : (σd.commitK σ G gn).2 = true ∧ (σd.commitK σ G gn).1.on ∧ (σd.commitK σ G gn).1.n = σd.n ∧
    (σd.commitK σ G gn).1.lastS = updS (updsS (updsS σd.lastS (putsK σ G gn (keysK G σ.n))) (areaW σ σ.n gn (areaN σ.n))) (gn % 2) (sealB ⟨1, gn % 2, 0, 0, gn⟩ (supB σ.n 8)) ∧
    (σd.commitK σ G gn).1.steps = σd.steps + (putsK σ G gn (keysK G σ.n)).length + areaN σ.n + 3 ∧ ∀ k, (σd.commitK σ G gn).1.cached k = [] := by
  obtain ⟨a1, a2, a3, a4, a5⟩ := Dr.on_puts (putsK σ G gn (keysK G σ.n)) h
  obtain ⟨b1, b2, b3, b4, b5⟩ := Dr.on_flip a2 σ gn
  have e : σd.commitK σ G gn = (σd.puts (putsK σ G gn (keysK G σ.n))).1.flip σ gn := by unfold Dr.commitK; rw [a1, if_pos rfl]
  rw [e]
  exact ⟨b1, b2, b3.trans a3, by rw [b4, a4], by rw [b5, a5], fun k => Dr.flip_cached b1 k⟩
theorem putsK_mem {σ : Ct} {G : Int → Option Bk} {gn : Nat} : ∀ {ks : List Int} {x : Nat × List Nat}, x ∈ putsK σ G gn ks → ∃ k ∈ ks, ∃ o, G k = some o ∧ σ.now k.toNat ≠ 0 ∧ x = (k.toNat, o.blk k.toNat gn)
  | k :: ks, x, h => by
    rw [putsK] at h
    rcases List.mem_append.1 h with h | h
    · cases hg : G k with
      | none => rw [hg] at h; cases h
      | some o =>
        rw [hg] at h
        dsimp only at h
        split at h
        · cases h
        · rename_i h0
          rw [List.mem_singleton] at h
          exact ⟨k, List.mem_cons_self .., o, hg, h0, h⟩
    · obtain ⟨k', h1, h2⟩ := putsK_mem h
      exact ⟨k', List.mem_cons_of_mem _ h1, h2⟩
/-- what is committed of a block -/
theorem updsS_putsK {σ : Ct} {G : Int → Option Bk} {gn : Nat} (f : Nat → List Nat) {k : Int} {o : Bk} (hg : G k = some o) (h0 : σ.now k.toNat ≠ 0) : ∀ {ks : List Int}, (∀ q ∈ ks, 0 ≤ q) → ks.Pairwise (· < ·) → k ∈ ks → ∀ f, updsS f (putsK σ G gn ks) k.toNat = o.blk k.toNat gn
  | q :: ks, hp, hs, hk, f => by
    obtain ⟨s1, s2⟩ := List.pairwise_cons.1 hs
    rw [putsK, updsS_app]
    rcases List.mem_cons.1 hk with rfl | hk
    · rw [hg]
      dsimp only
      rw [if_neg h0, updsS_other _ _ _ fun x hx => ?_]
      · show updS f k.toNat _ k.toNat = _
        unfold updS; rw [if_pos rfl]
      · obtain ⟨k', h1, o', h2, h3, rfl⟩ := putsK_mem hx
        have := s1 k' h1
        have := hp k (List.mem_cons_self ..)
        dsimp only; omega
    · exact updsS_putsK f hg h0 (fun q hq => hp q (List.mem_cons_of_mem _ hq)) s2 hk _
structure CmtK (σ : Ct) (G : Int → Option Bk) : Prop where
  n1 : 32 ≤ σ.n
  n2 : σ.n ≤ 2048
  bm : BkOk σ G
  lo : ∀ k, G k ≠ none → (firstN σ.n : Int) ≤ k
  w : ∀ a, σ.now a ≤ 65535
  f : ∀ a, σ.now a ≠ 0 → firstN σ.n ≤ a
theorem CmtK.keys {σ : Ct} {G : Int → Option Bk} (h : CmtK σ G) (k : Int) : k ∈ keysK G σ.n ↔ G k ≠ none := (keysN_mem (fun k hk => h.bm.k k (keyK_none.1 hk)) k).trans keyK_none
theorem CmtK.at_ {σ : Ct} {G : Int → Option Bk} (h : CmtK σ G) {gn : Nat} {x : Nat × List Nat} (hx : x ∈ putsK σ G gn (keysK G σ.n)) : firstN σ.n ≤ x.1 := by
  obtain ⟨k, h1, o, h2, h3, rfl⟩ := putsK_mem hx
  have := h.lo k (by rw [h2]; simp)
  dsimp only; omega
/-- behind a commit the disk is mounted with the counts of then -/
theorem commitK_mnt {σd : Dr} (hon : σd.on) {σ : Ct} {G : Int → Option Bk} (h : CmtK σ G) (hn : σd.n = σ.n) (gn : Nat) (hg1 : 1 ≤ gn) (hg2 : gn + 1 ≤ 1099511627775) (hs : IsSup σ.n (gn % 2) (σd.lastS (gn % 2)) (some gn)) :
    Mnt (σd.commitK σ G (gn + 1)).1.lastS σ.n (gn + 1) (fun i => σ.bodyN i 118) ∧ IsSup σ.n ((gn + 1) % 2) ((σd.commitK σ G (gn + 1)).1.lastS ((gn + 1) % 2)) (some (gn + 1)) ∧
    (∀ k o, G k = some o → σ.now k.toNat ≠ 0 → (σd.commitK σ G (gn + 1)).1.lastS k.toNat = o.blk k.toNat (gn + 1)) ∧
    (∀ q, firstN σ.n ≤ q → (G q = none ∨ σ.now q = 0) → (σd.commitK σ G (gn + 1)).1.lastS q = σd.lastS q) := by
  obtain ⟨_, _, _, e, _, _⟩ := Dr.on_commitK hon σ G (gn + 1)
  rw [e]
  have hf2 : 2 ≤ firstN σ.n := by unfold firstN; omega
  have h0 : ∀ f q, q < 2 → updsS (updsS f (putsK σ G (gn + 1) (keysK G σ.n))) (areaW σ σ.n (gn + 1) (areaN σ.n)) q = f q := fun f q hq => by
    rw [updsS_other _ _ _ fun x hx => (by have := areaW_at hx; omega), updsS_other _ _ _ fun x hx => (by have := h.at_ hx; omega)]
  have hsup : updS (updsS (updsS σd.lastS (putsK σ G (gn + 1) (keysK G σ.n))) (areaW σ σ.n (gn + 1) (areaN σ.n))) ((gn + 1) % 2) (sealB ⟨1, (gn + 1) % 2, 0, 0, gn + 1⟩ (supB σ.n 8)) ((gn + 1) % 2) = sealB ⟨1, (gn + 1) % 2, 0, 0, gn + 1⟩ (supB σ.n 8) := by unfold updS; rw [if_pos rfl]
  have hold : updS (updsS (updsS σd.lastS (putsK σ G (gn + 1) (keysK G σ.n))) (areaW σ σ.n (gn + 1) (areaN σ.n))) ((gn + 1) % 2) (sealB ⟨1, (gn + 1) % 2, 0, 0, gn + 1⟩ (supB σ.n 8)) (gn % 2) = σd.lastS (gn % 2) := by
    unfold updS; rw [if_neg (by omega), h0 _ _ (by omega)]
  have hso : supOk (gn + 1) σ.n := ⟨by omega, hg2, h.n1, h.n2⟩
  have hbig : ∀ q, firstN σ.n ≤ q → updS (updsS (updsS σd.lastS (putsK σ G (gn + 1) (keysK G σ.n))) (areaW σ σ.n (gn + 1) (areaN σ.n))) ((gn + 1) % 2) (sealB ⟨1, (gn + 1) % 2, 0, 0, gn + 1⟩ (supB σ.n 8)) q = updsS σd.lastS (putsK σ G (gn + 1) (keysK G σ.n)) q := fun q hq => by
    unfold updS
    rw [if_neg (by omega), updsS_other _ _ _ fun x hx => ?_]
    obtain ⟨i, hi, rfl⟩ := List.mem_map.1 hx
    have := area_lt σ.n (gn + 1) i (List.mem_range.1 hi)
    dsimp only; omega
  refine ⟨⟨⟨(gn + 1) % 2, ?_⟩, fun i hi => ?_, fun i hi => by rw [σ.bodyN_len], fun i => σ.bodyN_bys i 118, fun a _ hne => ?_⟩, ?_, fun k o hk hk0 => ?_, fun q hq hg => ?_⟩
  · rcases Nat.mod_two_eq_zero_or_one gn with hm | hm
    · have hm2 : (gn + 1) % 2 = 1 := by omega
      rw [hm] at hold hs
      rw [hm2] at hsup hold ⊢
      exact .inr (.inr (.inl ⟨gn, by omega, by rw [hold]; exact hs, by rw [hsup]; exact ⟨hso, rfl⟩, rfl⟩))
    · have hm2 : (gn + 1) % 2 = 0 := by omega
      rw [hm] at hold hs
      rw [hm2] at hsup hold ⊢
      exact .inr (.inr (.inr ⟨gn, by omega, by rw [hsup]; exact ⟨hso, rfl⟩, by rw [hold]; exact hs, rfl⟩))
  · have := area_lt σ.n (gn + 1) i hi
    unfold updS
    rw [if_neg (by omega)]
    exact updsS_area _ σ σ.n (gn + 1) (areaN σ.n) i hi
  · rw [ctAt_body σ h.w] at hne
    unfold Ct.get at hne
    split at hne
    · rename_i h3; exact ⟨h.f a hne, h3⟩
    · exact absurd rfl hne
  · rw [hsup]; exact ⟨hso, rfl⟩
  · have h3 := h.lo k (by rw [hk]; simp)
    rw [hbig _ (by omega)]
    exact updsS_putsK σd.lastS hk hk0 (fun q hq => by have := (h.bm.k q ((h.keys q).1 hq)).1; exact this) (keysN_lt _ _) ((h.keys k).2 (by rw [hk]; simp)) _
  · rw [hbig q hq, updsS_other]
    intro x hx
    obtain ⟨k, h1, o, h2, h4, rfl⟩ := putsK_mem hx
    have h5 := (h.bm.k k (by rw [h2]; simp)).1
    intro e
    have e : k.toNat = q := e
    rcases hg with hg | hg
    · rw [← e, Int.toNat_of_nonneg h5, h2] at hg; cases hg
    · rw [← e] at hg; exact h4 hg
theorem putsK_len (σ : Ct) (G : Int → Option Bk) (gn : Nat) : ∀ ks : List Int, (putsK σ G gn ks).length ≤ ks.length
  | [] => Nat.le_refl _
  | q :: ks => by
    have ih := putsK_len σ G gn ks
    rw [putsK, List.length_append, List.length_cons]
    cases G q with
    | none => dsimp only; rw [List.length_nil]; omega
    | some o =>
      dsimp only
      split
      · rw [List.length_nil]; omega
      · rw [List.length_singleton]; omega
end Go.Proofs.YtgbbcpfnmkeijaaGreat
/- The plain law: a tree's items are got, whether its nodes are laid down or committed. -/
namespace Go.Proofs.YtgbbcpfnmkeijaaGreat
open Go.Cam
set_option maxRecDepth 100000
/-- nodes that are laid down are read -/
def Agr (rd : Int → Except Nat Node) (σ : Ct) (g : Int → Option (Node × Plc)) : Prop := ∀ k x u, Held σ g k x u → rd k = .ok x
theorem leafX_tr {rd : Int → Except Nat Node} {σ : Ct} {g : Int → Option (Node × Plc)} (ha : Agr rd σ g) (key : Key) : ∀ h k, Tr σ g h k → leafX rd key h (nd g k) = .ok (nd g (leafN g key h k))
  | 0, k, _ => rfl
  | h + 1, k, t => by
    have ht := t.2.2.2 _ (t.seek key)
    obtain ⟨u, hu⟩ := ht.held
    have hr := ha _ _ _ hu
    have e : atR rd (kidX (nd g k) key) (h : Nat) = .ok (nd g (kidN g key k)) := by
      unfold atR
      rw [hr]
      exact if_neg fun q => q.2 ht.lv
    rw [leafX, e]
    exact leafX_tr ha key h _ ht
theorem leafR_tr {rd : Int → Except Nat Node} {σ : Ct} {g : Int → Option (Node × Plc)} (ha : Agr rd σ g) (key : Key) {h : Nat} {k : Int} (t : Tr σ g h k) : leafR rd key k = .ok (nd g (leafN g key h k)) := by
  obtain ⟨u, hu⟩ := t.held
  have e : atR rd k (-1) = .ok (nd g k) := by
    unfold atR
    rw [ha _ _ _ hu]
    exact if_neg fun q => by omega
  unfold leafR
  rw [e]
  have h1 := leafX_tr ha key h k t
  rw [show h = (nd g k).level.toNat by rw [t.lv]; rfl] at h1
  rw [show leafN g key h k = leafN g key (nd g k).level.toNat k by rw [t.lv]; rfl]
  exact h1
theorem getR_tree {rd : Int → Except Nat Node} {σ : Ct} {g : Int → Option (Node × Plc)} (ha : Agr rd σ g) {root : Int} {l : List Item} (ht : TreeOf σ g root l) (hr : Ris l) (key : Key) : getR rd key root = match getT l key with
    | some x => .ok x.val
    | none => .error 10 := by
  rcases ht with ⟨h1, h2⟩ | ⟨_, h1, h, hh, t, w, e⟩
  · unfold getR; rw [if_pos h2, h1]; rfl
  · have hp := getT_tree g key h root w (by rw [e]; exact hr)
    rw [e] at hp
    unfold getR
    rw [if_neg h1, leafR_tr ha key t, hp]
    dsimp only
    cases hs : seekHit (nd g (leafN g key h root)) key with
    | true => rw [if_pos rfl, if_pos rfl]
    | false => rw [if_neg (by decide), if_neg (by decide)]
/-- what is known of the blocks of a tree that grew -/
structure Inv (σ : Ct) (g : Int → Option (Node × Plc)) : Prop where
  gk : ∀ k x u, g k = some (x, u) → 8 ≤ k ∧ k < 256 ∧ nodeOk x = true ∧ ∀ y ∈ x.items, Bys y.val
  gc : ∀ k, σ.now k ≠ 0 → g (k : Int) ≠ none
  gw : ∀ a, σ.now a ≤ 65535
theorem Inv.new : Inv (Ct.new (Dr.new 256).n) (fun _ => none) := ⟨fun _ _ _ e => (nomatch e), fun _ h => absurd rfl h, fun _ => Nat.zero_le _⟩
theorem Inv.lay {σ : Ct} {g : Int → Option (Node × Plc)} (h : Inv σ g) {i : Nat} {x : Node} (u : Plc) (hx : nodeOk x = true ∧ ∀ y ∈ x.items, Bys y.val) (h1 : 8 ≤ i) (h2 : i < 256) : Inv { σ with now := nset σ.now i 1 } (gset g i (x, u)) := by
  refine ⟨fun k y v e => ?_, fun k hk => ?_, fun a => ?_⟩
  · unfold gset at e
    by_cases hq : k = (i : Int)
    · rw [if_pos hq] at e; cases e; exact ⟨by omega, by omega, hx⟩
    · rw [if_neg hq] at e; exact h.gk k y v e
  · unfold gset
    by_cases hq : (k : Int) = (i : Int)
    · rw [if_pos hq]; simp
    · rw [if_neg hq]
      refine h.gc k fun e => hk ?_
      show nset σ.now i 1 k = 0
      unfold nset; rw [if_neg (by omega)]; exact e
  · show nset σ.now i 1 a ≤ _
    unfold nset
    split
    · decide
    · exact h.gw a
abbrev bkG (g : Int → Option (Node × Plc)) : Int → Option Bk := fun k => (g k).map fun q => .nd q.1
theorem Inv.bk {σ : Ct} {g : Int → Option (Node × Plc)} (h : Inv σ g) (hn : σ.n = 256) : BkOk σ (bkG g) := by
  refine ⟨fun k hk => ?_, fun k o e => ?_⟩
  · cases hg : g k with
    | none => exact absurd (by show (g k).map _ = none; rw [hg]; rfl) hk
    | some y => obtain ⟨x, u⟩ := y; have := h.gk k x u hg; omega
  · have e : (g k).map (fun q => Bk.nd q.1) = some o := e
    cases hg : g k with
    | none => rw [hg] at e; cases e
    | some y => obtain ⟨x, u⟩ := y; rw [hg] at e; cases e; exact (h.gk k x u hg).2.2
theorem Inv.cmt {σ : Ct} {g : Int → Option (Node × Plc)} (h : Inv σ g) (hn : σ.n = 256) : CmtK σ (bkG g) := by
  have e : firstN σ.n = 8 := by rw [hn]; rfl
  refine ⟨by omega, by omega, h.bk hn, fun k hk => ?_, h.gw, fun a ha => ?_⟩
  · rw [e]
    cases hg : g k with
    | none => exact absurd (by show (g k).map _ = none; rw [hg]; rfl) hk
    | some y => obtain ⟨x, u⟩ := y; have := h.gk k x u hg; omega
  · rw [e]
    cases hg : g (a : Int) with
    | none => exact absurd hg (h.gc a ha)
    | some y => obtain ⟨x, u⟩ := y; have := h.gk _ x u hg; omega
def dkOf (g : Int → Option (Node × Plc)) (k : Nat) : DK := match g (k : Int) with | some q => .nd q.1 | none => .oth
theorem agr_open {σ : Ct} {g : Int → Option (Node × Plc)} (D : Nat → DK) : Agr (rdK σ (bkG g) D) σ g := fun k x u h => by
  unfold rdK
  rw [if_pos ⟨h.hk.1, h.hk.2, h.hc⟩, show bkG g k = some (.nd x) by show (g k).map _ = _; rw [h.hg]; rfl]
theorem agr_disk {σ σ' : Ct} {g : Int → Option (Node × Plc)} (e1 : σ'.n = σ.n) (e2 : σ'.now = σ.now) : Agr (rdK σ' (fun _ => none) (dkOf g)) σ g := fun k x u h => by
  unfold rdK
  rw [if_pos ⟨h.hk.1, by rw [e1]; exact h.hk.2, by rw [e2]; exact h.hc⟩]
  have : dkOf g k.toNat = .nd x := by unfold dkOf; rw [Int.toNat_of_nonneg h.hk.1, h.hg]
  rw [this]
theorem Inv.open_ {σ : Ct} {g : Int → Option (Node × Plc)} (h : Inv σ g) (hn : σ.n = 256) {σd : Dr} (D : Nat → DK) (hd : σd.n = 256) (ho : σd.off = false) (hs : σd.steps < 1000000000) : DskOk σ (bkG g) σd D := by
  refine ⟨by rw [hd, hn], by omega, ho, hs, h.bk hn, fun k hk h0 hG => ?_⟩
  cases hg : g (k : Int) with
  | none => exact absurd hg (h.gc k h0)
  | some y => exact absurd hG (by show (g (k : Int)).map _ ≠ none; rw [hg]; simp)
theorem Inv.disk {σ : Ct} {g : Int → Option (Node × Plc)} (h : Inv σ g) (hn : σ.n = 256) {σd : Dr} (hon : σd.on) (hd : σd.n = 256) (hs : σd.steps < 900000000) (gn : Nat) (hg1 : 1 ≤ gn) (hg2 : gn + 1 ≤ 1099511627775) (hsup : IsSup σ.n (gn % 2) (σd.lastS (gn % 2)) (some gn)) :
    DskOk { σ with done := σ.now } (fun _ => none) (σd.commitK σ (bkG g) (gn + 1)).1 (dkOf g) := by
  obtain ⟨a1, a2, a3, a4, a5, a6⟩ := Dr.on_commitK hon σ (bkG g) (gn + 1)
  obtain ⟨_, _, b3, _⟩ := commitK_mnt hon (h.cmt hn) (by rw [hd, hn]) gn hg1 hg2 hsup
  have hl : (putsK σ (bkG g) (gn + 1) (keysK (bkG g) σ.n)).length ≤ 256 := by
    have h1 : ∀ ks : List Int, (putsK σ (bkG g) (gn + 1) ks).length ≤ ks.length := fun ks => putsK_len σ (bkG g) (gn + 1) ks
    have h2 := keysN_len (fun k => ((bkG g) k).map fun _ => (.bool true : Value)) σ.n
    exact Nat.le_trans (h1 _) (by rw [← hn]; exact h2)
  refine ⟨by rw [a3, hd, ← hn], by show σ.n ≤ 2048; omega, a2.1, ?_, ⟨fun _ hk => absurd rfl hk, fun _ _ e => nomatch e⟩, fun k hk h0 _ => ?_⟩
  · rw [a5]
    have : areaN σ.n = 3 := by rw [hn]; rfl
    omega
  · have h0 : σ.now k ≠ 0 := h0
    cases hg : g (k : Int) with
    | none => exact absurd hg (h.gc k h0)
    | some y =>
      obtain ⟨x, u⟩ := y
      obtain ⟨_, _, c3, c4⟩ := h.gk _ x u hg
      refine .inl ⟨x, by unfold dkOf; rw [hg], c3, c4, gn + 1, hg2, ?_⟩
      have := b3 (k : Int) (.nd x) (by show (g (k : Int)).map _ = _; rw [hg]; rfl) (by rw [Int.toNat_natCast]; exact h0)
      rw [Int.toNat_natCast] at this
      exact this
end Go.Proofs.YtgbbcpfnmkeijaaGreat
