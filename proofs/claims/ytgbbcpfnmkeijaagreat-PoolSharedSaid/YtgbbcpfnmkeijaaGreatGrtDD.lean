/- Clones: of a map, of counts, of a pool. -/
import Derived.Test.YtgbbcpfnmkeijaaGreatGrtSm
import Derived.Test.YtgbbcpfnmkeijaaGreatCamAO
import Derived.Test.YtgbbcpfnmkeijaaGreatRows
namespace Go.Proofs.YtgbbcpfnmkeijaaGreat
open Go.Cam
set_option maxRecDepth 100000
theorem mclone_c (m : Nat) (gm : Int → Option Value) : Ctr Tryz.prog 32 [.map (some m)] [MG m gm] (fun v Bs => ∃ r, v = .map (some r) ∧ Bs = [MG r gm, MG m gm]) := fun F H M s w0 w hh => by
  obtain ⟨es, ck, hm, hw⟩ := star_fst s
  have hb := hh.m m _ hm
  have h1 : Calls Tryz.prog 32 #[.map (some m)] w _ := AnyW.maps_Clone Tryz.mcloneA m es ck w hb
  refine h1.mono fun e w' ⟨he, hw'⟩ => ?_
  subst he; subst hw'
  refine ⟨_, H, _, rfl, hh.push _, _, ⟨_, rfl, rfl⟩, ?_⟩
  exact star_monoL (A := HP.own w.heap.size (.map es ck)) (C := MG w.heap.size gm) (fun _ _ h => ⟨es, ck, h, hw⟩) (own_new hh.fresh s)
theorem cloneN_c {A : HP} {a : Option Addr} {n c : Nat} {row : Nat → List Value} [Rd A 1 (.slice a n c) n row] (h1 : (flat n row).all Go.Cam.one = true) (hn : n < 1000000) : Ctr Tryz.prog 69 [.slice a n c] [A] (fun v Bs => ∃ a' c', v = .slice a' n c' ∧ Bs = [SO 3 1 (.slice a' n c') n row, A]) := by
  refine s_enter 8 [(0, _)] (fun F => [_, F]) Tryz.func69 fun F => ?_
  refine s_know (a := A) .here (rd_pure (a := a) (n := n) (c := c) (row := row)) fun hr => ?_
  cases a with
  | none =>
    obtain rfl := hr.2 rfl
    refine go_ ?_
    refine s_newO (e := 3) (sz := 1) (row := row) ?_
    exact s_ret1 (rs := [.tmp 2]) Tryz.func69 rfl (by intro j; refine RVS.tmp _ rfl ?_; exact RVS.nil) (⟨none, 0, rfl, rfl⟩) (by repeat (first | exact Ent.nil | refine Ent.per (by repeat (first | with_reducible exact Sel.here | with_reducible apply Sel.there)) ?_ | refine Ent.cons (by repeat (first | with_reducible exact Sel.here | with_reducible apply Sel.there)) ?_))
  | some x =>
    refine go_ ?_
    refine s_bs0 (sz := 1) (row := row) fun a2 => ?_
    refine go_ ?_
    refine s_app (a := a2) (len := 0) (cap := 0) (b := some x) (m := n) (c := c) (row2 := row) (by repeat (first | with_reducible exact Sel.here | with_reducible apply Sel.there)) (by repeat (first | with_reducible exact SelR.here | with_reducible apply SelR.there)) h1 (fun a3 c3 => ?_)
    refine go_ ?_
    rw [Nat.zero_add]
    refine s_open (SA.cg row fun i _ => by unfold rcat; rw [if_neg (Nat.not_lt_zero _), Nat.sub_zero]) (s_open SO.of ?_)
    exact s_ret1 (rs := [.tmp 2]) Tryz.func69 rfl (by intro j; refine RVS.tmp _ rfl ?_; exact RVS.nil) (⟨a3, c3, rfl, rfl⟩) (by repeat (first | exact Ent.nil | refine Ent.per (by repeat (first | with_reducible exact Sel.here | with_reducible apply Sel.there)) ?_ | refine Ent.cons (by repeat (first | with_reducible exact Sel.here | with_reducible apply Sel.there)) ?_))
theorem one_int (f : Nat → Nat) (n : Nat) : (flat n (intR f)).all Go.Cam.one = true := by
  unfold flat
  rw [List.all_flatMap, List.all_eq_true]
  intro i _; rfl
set_option maxHeartbeats 4000000 in
theorem cclone_c (b : Nat) (σ : Ct) : Ctr Tryz.prog 31 [.pointer (some ⟨b, 0, none⟩)] [CtA b σ] (fun v Bs => ∃ r, v = .pointer (some ⟨r, 0, none⟩) ∧ Bs = [CtA r σ, CtA b σ]) := by
  refine s_enter 23 [(0, _)] (fun F => [_, F]) Tryz.func31 fun F => ?_
  refine s_opn (φ := CtOk σ) (X := Ct.parts b σ) (by repeat (first | with_reducible exact Sel.here | with_reducible apply Sel.there)) fun x hx => ?_
  unfold Ct.parts
  refine s_nrm ?_
  have hn2 := hx.n2
  refine go_ ?_
  refine s_front (a := SA (some 3) 1 (.slice x.a2 σ.n x.c2) σ.n (intR σ.done)) (by repeat (first | with_reducible exact Sel.here | with_reducible apply Sel.there)) ?_
  refine s_front (a := SA (some 3) 1 (.slice x.a σ.n x.c) σ.n (intR σ.now)) (by repeat (first | with_reducible exact Sel.here | with_reducible apply Sel.there)) ?_
  refine s_drawN 2 [.q 0, .q 1, .q 2, .q 3, .q 5, .q 6, .q 7, .q 8, .q 10, .q 11, .q 12, .q 13, .q 14, .q 15, .q 16, .q 17, .s 4, .s 9, .q 18, .s 19, .q 20] ?_
  refine do_ ?_
  refine d_step rfl (st_call (sp := (by repeat (first | exact Split.nil | apply Split.perx (by repeat (first | with_reducible exact Sel.here | with_reducible apply Sel.there)) (by infer_instance) | apply Split.cons (by repeat (first | with_reducible exact Sel.here | with_reducible apply Sel.there))))) (hs := cloneN_c (A := SA (some 3) 1 (.slice x.a σ.n x.c) σ.n (intR σ.now)) (a := x.a) (n := σ.n) (c := x.c) (row := intR σ.now) (one_int _ _) (by omega))) ?_
  rintro v Bs ⟨Cs, ⟨a1, c1, rfl, rfl⟩, rfl⟩
  refine do_ ?_
  refine d_step rfl (st_call (sp := (by repeat (first | exact Split.nil | apply Split.perx (by repeat (first | with_reducible exact Sel.here | with_reducible apply Sel.there)) (by infer_instance) | apply Split.cons (by repeat (first | with_reducible exact Sel.here | with_reducible apply Sel.there))))) (hs := cloneN_c (A := SA (some 3) 1 (.slice x.a2 σ.n x.c2) σ.n (intR σ.done)) (a := x.a2) (n := σ.n) (c := x.c2) (row := intR σ.done) (one_int _ _) (by omega))) ?_
  rintro v Bs ⟨Cs, ⟨a2, c2, rfl, rfl⟩, rfl⟩
  refine do_ ?_
  refine d_step rfl st_box ?_
  rintro v Bs ⟨r, rfl, rfl⟩
  refine do_ ?_
  refine go_ ?_
  refine s_front (a := SO 3 1 (.slice a2 σ.n c2) σ.n (intR σ.done)) (by repeat (first | with_reducible exact Sel.here | with_reducible apply Sel.there)) (s_open (B := SA (some 3) 1 (.slice a2 σ.n c2) σ.n (intR σ.done)) (SO.own (by have := hx.n1; omega)) ?_)
  refine s_front (a := SO 3 1 (.slice a1 σ.n c1) σ.n (intR σ.now)) (by repeat (first | with_reducible exact Sel.here | with_reducible apply Sel.there)) (s_open (B := SA (some 3) 1 (.slice a1 σ.n c1) σ.n (intR σ.now)) (SO.own (by have := hx.n1; omega)) ?_)
  refine s_cls (φ := CtOk σ) (X := Ct.parts b σ) x hx (by repeat (first | exact Split.nil | apply Split.perx (by repeat (first | with_reducible exact Sel.here | with_reducible apply Sel.there)) (by infer_instance) | apply Split.cons (by repeat (first | with_reducible exact Sel.here | with_reducible apply Sel.there)))) ?_
  refine s_cls (φ := CtOk σ) (X := Ct.parts r σ) ⟨a1, c1, a2, c2⟩ ⟨hx.n1, hx.n2, hx.w, hx.d⟩ (by repeat (first | exact Split.nil | apply Split.perx (by repeat (first | with_reducible exact Sel.here | with_reducible apply Sel.there)) (by infer_instance) | apply Split.cons (by repeat (first | with_reducible exact Sel.here | with_reducible apply Sel.there)))) ?_
  exact s_ret1 (rs := [.tmp 2]) Tryz.func31 rfl (by intro j; refine RVS.tmp _ rfl ?_; exact RVS.nil) (⟨r, rfl, rfl⟩) (by repeat (first | exact Ent.nil | refine Ent.per (by repeat (first | with_reducible exact Sel.here | with_reducible apply Sel.there)) ?_ | refine Ent.cons (by repeat (first | with_reducible exact Sel.here | with_reducible apply Sel.there)) ?_))
set_option maxHeartbeats 8000000 in
theorem pclone_c (p b g n bc m : Nat) (σ : Ct) (gm : Int → Option Value) : Ctr Tryz.prog 10 [.pointer (some ⟨p, 0, none⟩)] [PoB p b g n bc m, CtA bc σ, MG m gm] (fun v Bs => ∃ q bc2 m2, v = .pointer (some ⟨q, 0, none⟩) ∧ Bs = [PoB q b g n bc2 m2, CtA bc2 σ, MG m2 gm, PoB p b g n bc m, CtA bc σ, MG m gm]) := by
  refine s_enter 23 [(0, _)] (fun F => [_, _, _, F]) Tryz.func10 fun F => ?_
  refine go_ ?_
  refine s_front (a := MG m gm) (by repeat (first | with_reducible exact Sel.here | with_reducible apply Sel.there)) ?_
  refine s_front (a := CtA bc σ) (by repeat (first | with_reducible exact Sel.here | with_reducible apply Sel.there)) ?_
  refine s_drawN 2 [.q 0, .q 1, .q 2, .q 3, .q 4, .q 5, .q 6, .q 7, .q 8, .q 9, .q 10, .q 11, .q 13, .q 14, .q 15, .q 16, .s 12, .s 17, .q 18, .s 19, .q 20] ?_
  refine do_ ?_
  trace_state
  refine d_step rfl (st_call (sp := (by repeat (first | exact Split.nil | apply Split.perx (by repeat (first | with_reducible exact Sel.here | with_reducible apply Sel.there)) (by infer_instance) | apply Split.cons (by repeat (first | with_reducible exact Sel.here | with_reducible apply Sel.there))))) (hs := cclone_c bc σ)) ?_
  rintro v Bs ⟨Cs, ⟨bc2, rfl, rfl⟩, rfl⟩
  refine do_ ?_
  refine d_step rfl (st_call (sp := (by repeat (first | exact Split.nil | apply Split.perx (by repeat (first | with_reducible exact Sel.here | with_reducible apply Sel.there)) (by infer_instance) | apply Split.cons (by repeat (first | with_reducible exact Sel.here | with_reducible apply Sel.there))))) (hs := mclone_c m gm)) ?_
  rintro v Bs ⟨Cs, ⟨m2, rfl, rfl⟩, rfl⟩
  refine do_ ?_
  refine d_look rfl (lk_bd4 (r := poolL b g n bc2 m2) (hf := pool_fill b g n bc2 m2)) ?_
  refine d_step rfl (st_box (c := poolL b g n bc2 m2)) ?_
  rintro v Bs ⟨q, rfl, rfl⟩
  refine do_ ?_
  refine go_ ?_
  exact s_ret1 (rs := [.tmp 2]) Tryz.func10 rfl (by intro j; refine RVS.tmp _ rfl ?_; exact RVS.nil) (⟨q, bc2, m2, rfl, rfl⟩) (by repeat (first | exact Ent.nil | refine Ent.per (by repeat (first | with_reducible exact Sel.here | with_reducible apply Sel.there)) ?_ | refine Ent.cons (by repeat (first | with_reducible exact Sel.here | with_reducible apply Sel.there)) ?_))
end Go.Proofs.YtgbbcpfnmkeijaaGreat
/- PoolShared: data that is laid down. -/
namespace Go.Proofs.YtgbbcpfnmkeijaaGreat
open Go.Cam
set_option maxRecDepth 100000
abbrev blR (w : Nat → Option Addr × Nat) (l : List (List Nat)) (i : Nat) : List Value := [.slice (w i).1 (l.getD i []).length (w i).2]
abbrev blF (w : Nat → Option Addr × Nat) (l : List (List Nat)) (i : Nat) : HP := BS (.slice (w i).1 (l.getD i []).length (w i).2) (l.getD i [])
theorem firstFree_ex {σ : Ct} : ∀ m i j, i ≤ j → j < i + m → σ.now j = 0 ∧ σ.done j = 0 → ∃ k, σ.firstFree m i = some k ∧ i ≤ k ∧ k ≤ j ∧ σ.now k = 0
  | 0, i, j, h1, h2, _ => by omega
  | m + 1, i, j, h1, h2, h3 => by
    rw [Ct.firstFree]
    by_cases h : σ.now i = 0 ∧ σ.done i = 0
    · exact ⟨i, by rw [if_pos h], Nat.le_refl _, h1, h.1⟩
    · rw [if_neg h]
      have hne : i ≠ j := fun e => by subst e; exact h h3
      obtain ⟨k, a1, a2, a3, a4⟩ := firstFree_ex m (i + 1) j (by omega) (by omega) h3
      exact ⟨k, a1, by omega, a3, a4⟩
theorem nset_ne {f : Nat → Nat} {i j v : Nat} (h : j ≠ i) : nset f i v j = f j := by
  unfold nset; exact if_neg h
theorem nset_eq {f : Nat → Nat} {i v : Nat} : nset f i v i = v := by
  unfold nset; exact if_pos rfl
theorem bset_ne {g : Int → Option OB} {i j : Nat} (o : OB) (h : j ≠ i) : bset g (i : Int) o (j : Int) = g (j : Int) := by
  unfold bset; exact if_neg (by omega)
theorem bset_eq {g : Int → Option OB} {i : Nat} (o : OB) : bset g (i : Int) o (i : Int) = some o := by
  unfold bset; exact if_pos rfl
theorem freeN_cg {σ σ' : Ct} : ∀ m k, (∀ j, k ≤ j → σ'.now j = σ.now j ∧ σ'.done j = σ.done j) → σ'.freeN m k = σ.freeN m k
  | 0, _, _ => rfl
  | m + 1, k, h => by
    have ih := freeN_cg m (k + 1) fun j hj => h j (by omega)
    obtain ⟨h1, h2⟩ := h k (Nat.le_refl _)
    simp only [Ct.freeN, h1, h2, ih]
/-- a put takes one of the free sectors -/
theorem freeN_put {σ σ' : Ct} {i : Nat} (h0 : σ.now i = 0) (h1 : σ.done i = 0) (hi : σ'.now i = 1) (hn : ∀ j, j ≠ i → σ'.now j = σ.now j) (hd : ∀ j, σ'.done j = σ.done j) : ∀ m k, k ≤ i → i < k + m → σ'.freeN m k + 1 = σ.freeN m k
  | 0, k, h2, h3 => by omega
  | m + 1, k, h2, h3 => by
    by_cases e : k = i
    · subst e
      have := freeN_cg (σ := σ) (σ' := σ') m (k + 1) fun j hj => ⟨hn j (by omega), hd j⟩
      simp only [Ct.freeN, hi, h0, h1, this]
      simp; omega
    · have ih := freeN_put h0 h1 hi hn hd m (k + 1) (by omega) (by omega)
      simp only [Ct.freeN, hn k e, hd k]
      omega
/-- a pool of 64 sectors of which u have been taken -/
structure Lys (σ : Ct) (u : Nat) : Prop where
  n : σ.n = 64
  f : ∀ j, 4 + u ≤ j → j < 64 → σ.now j = 0 ∧ σ.done j = 0
  d : ∀ j, σ.done j = 0
  c : σ.freeN 60 4 + u = 60
/-- what was laid down is kept -/
structure Kp (σ : Ct) (g : Int → Option OB) (σ' : Ct) (g' : Int → Option OB) : Prop where
  k : ∀ j : Nat, σ.now j ≠ 0 → σ'.now j ≠ 0 ∧ g' (j : Int) = g (j : Int)
theorem Kp.refl (σ : Ct) (g : Int → Option OB) : Kp σ g σ g := ⟨fun _ h => ⟨h, rfl⟩⟩
theorem Kp.trans {σ : Ct} {g : Int → Option OB} {σ' : Ct} {g' : Int → Option OB} {σ'' : Ct} {g'' : Int → Option OB} (h : Kp σ g σ' g') (h' : Kp σ' g' σ'' g'') : Kp σ g σ'' g'' :=
  ⟨fun j hj => ⟨(h'.k j (h.k j hj).1).1, (h'.k j (h.k j hj).1).2.trans (h.k j hj).2⟩⟩
theorem Lys.some {σ : Ct} {u : Nat} (h : Lys σ u) (hu : u < 60) : ∃ i, σ.free? = some i ∧ 4 ≤ i ∧ i ≤ 4 + u ∧ σ.now i = 0 := by
  have e : firstN σ.n = 4 := by rw [h.n]; rfl
  unfold Ct.free?
  rw [e, h.n]
  exact firstFree_ex (64 - 4) 4 (4 + u) (by omega) (by omega) (h.f _ (Nat.le_refl _) (by omega))
theorem Lys.next {σ : Ct} {u i : Nat} (h : Lys σ u) (hu : u < 60) (h1 : 4 ≤ i) (h2 : i ≤ 4 + u) (h0 : σ.now i = 0) : Lys { σ with now := nset σ.now i 1 } (u + 1) :=
  ⟨h.n, fun j h3 h4 => ⟨by
    show nset σ.now i 1 j = 0
    rw [nset_ne (by omega)]; exact (h.f j (by omega) h4).1, h.d j⟩, h.d, by
    have := freeN_put (σ' := { σ with now := nset σ.now i 1 }) h0 (h.d i) nset_eq (fun j hj => nset_ne hj) (fun _ => rfl) 60 4 h1 (by omega)
    have := h.c
    omega⟩
theorem Kp.put {σ : Ct} {g : Int → Option OB} {i : Nat} (h0 : σ.now i = 0) (o : OB) : Kp σ g { σ with now := nset σ.now i 1 } (bset g (i : Int) o) :=
  ⟨fun j hj => by
    have e : j ≠ i := fun e => by subst e; exact hj h0
    exact ⟨by show nset σ.now i 1 j ≠ 0; rw [nset_ne e]; exact hj, bset_ne o e⟩⟩
/-- data that is where it was laid down -/
def At (σ : Ct) (g : Int → Option OB) (ks : List Int) (l : List (List Nat)) : Prop := ∀ i, i < ks.length → i < l.length ∧ ∃ k : Nat, ks.getD i 0 = (k : Int) ∧ k < 64 ∧ σ.now k ≠ 0 ∧ ∃ a c, g (k : Int) = some ⟨5, (l.getD i []).take 128, a, c⟩
theorem At.kp {σ : Ct} {g : Int → Option OB} {σ' : Ct} {g' : Int → Option OB} {ks : List Int} {l : List (List Nat)} (h : At σ g ks l) (h' : Kp σ g σ' g') : At σ' g' ks l := fun i hi => by
  obtain ⟨h1, k, h2, h3, h4, a, c, h5⟩ := h i hi
  obtain ⟨e1, e2⟩ := h'.k k h4
  exact ⟨h1, k, h2, h3, e1, a, c, e2.trans h5⟩
theorem At.snoc {σ : Ct} {g : Int → Option OB} {ks : List Int} {l : List (List Nat)} (h : At σ g ks l) {k : Nat} (h1 : ks.length < l.length) (h2 : k < 64) (h3 : σ.now k ≠ 0) {a : Option Addr} {c : Nat} (h4 : g (k : Int) = some ⟨5, (l.getD ks.length []).take 128, a, c⟩) : At σ g (ks ++ [(k : Int)]) l := fun i hi => by
  rw [List.length_append, List.length_singleton] at hi
  by_cases e : i < ks.length
  · have := h i e
    rw [List.getD_eq_getElem?_getD, List.getElem?_append_left e, ← List.getD_eq_getElem?_getD]; exact this
  · have : i = ks.length := by omega
    subst this
    exact ⟨h1, k, by simp [List.getD_eq_getElem?_getD], h2, h3, a, c, h4⟩
theorem BS.cut {a : Option Addr} {c : Nat} (v : List Nat) (q : Nat) (hq : q ≤ v.length) (H M : Heap) (h : (SA none 1 (.slice (sladdr a 1 0 c) (q - 0) (c - 0)) (q - 0) (fun i => byR v (0 + i))).p H M) : (BS (.slice a (v.take q).length c) (v.take q)).p H M := by
  have e : (v.take q).length = q - 0 := by simp; omega
  rw [sladdr0] at h
  unfold BS
  rw [e]
  refine SA.cg _ (fun i hi => ?_) H M h
  have : i < q := by omega
  simp [byR, List.getD_eq_getElem?_getD, List.getElem?_take, this]
set_option maxHeartbeats 16000000 in
theorem lays_c (p b n bc m : Nat) (σ : Ct) (g : Int → Option OB) (u : Nat) (hs : Lys σ u) (hu : u ≤ 12) {a : Option Addr} {c : Nat} (w : Nat → Option Addr × Nat) (l : List (List Nat)) (hl : l.length < 9223372036854775808) :
    Ctr Tryz.prog 9 [.pointer (some ⟨p, 0, none⟩), .slice a l.length c] [PoB p b 1 n bc m, CtA bc σ, MG m (bmap g), Obs g, SA none 1 (.slice a l.length c) l.length (blR w l), Fam l.length (blF w l)]
    (fun v Bs => ∃ a' c' ks σ' g', ks.length ≤ 6 ∧ Lys σ' (u + ks.length) ∧ Kp σ g σ' g' ∧ At σ' g' ks l ∧ v = .slice a' ks.length c' ∧ Bs = [SO 3 1 (.slice a' ks.length c') ks.length (pathR ks), PoB p b 1 n bc m, CtA bc σ', MG m (bmap g'), Obs g']) := by
  refine s_enter 41 [(0, _), (1, _)] (fun F => [_, _, _, _, _, _, F]) Tryz.func9 fun F => ?_
  refine go_ ?_
  refine s_bs0 (sz := 1) (row := pathR []) fun a0 => ?_
  refine s_open SO.of ?_
  refine s_open (B := SO 3 1 (.slice a0 ([] : List Int).length 0) ([] : List Int).length (pathR [])) (fun _ _ q => q) ?_
  refine go_ ?_
  refine s_loop (fun q : Nat × List Int × Option Addr × Nat × Ct × (Int → Option OB) => [(0, .pointer (some ⟨p, 0, none⟩)), (1, .slice a l.length c), (5, .slice q.2.2.1 q.2.1.length q.2.2.2.1), (6, .int .i64 q.1)])
    (fun q => [SO 3 1 (.slice q.2.2.1 q.2.1.length q.2.2.2.1) q.2.1.length (pathR q.2.1), PoB p b 1 n bc m, CtA bc q.2.2.2.2.1, MG m (bmap q.2.2.2.2.2), Obs q.2.2.2.2.2, SA none 1 (.slice a l.length c) l.length (blR w l), Fam l.length (blF w l), F])
    (fun q => q.2.1.length = q.1 ∧ q.1 ≤ 6 ∧ Lys q.2.2.2.2.1 (u + q.1) ∧ Kp σ g q.2.2.2.2.1 q.2.2.2.2.2 ∧ At q.2.2.2.2.1 q.2.2.2.2.2 q.2.1 l) (fun q => 6 - q.1) (0, [], a0, 0, σ, g)
    ⟨rfl, Nat.zero_le _, hs, Kp.refl σ g, fun i h => absurd h (Nat.not_lt_zero _)⟩ (by repeat (first | exact Ent.nil | refine Ent.per (by repeat (first | with_reducible exact Sel.here | with_reducible apply Sel.there)) ?_ | refine Ent.cons (by repeat (first | with_reducible exact Sel.here | with_reducible apply Sel.there)) ?_)) ?_
  rintro ⟨i, ks, ka, kc, σi, gi⟩ ⟨hki, hi, hly, hkp, hat⟩ next
  dsimp only at hki hi hly hkp hat next ⊢
  apply s_join (α := Unit) (fun _ => [(4, .slice ka ks.length kc)]) (fun _ => [SO 3 1 (.slice ka ks.length kc) ks.length (pathR ks), PoB p b 1 n bc m, CtA bc σi, MG m (bmap gi), Obs gi, F]) (fun _ => True)
  case h =>
    intro K
    refine go_ ?_
    cases h1 : decide ((i : Int) < (l.length : Int)) with
    | false =>
      refine go_ ?_
      exact s_entF (by repeat (first | exact Ent.nil | refine Ent.per (by repeat (first | with_reducible exact Sel.here | with_reducible apply Sel.there)) ?_ | refine Ent.cons (by repeat (first | with_reducible exact Sel.here | with_reducible apply Sel.there)) ?_)) (s_keep _ (K () trivial))
    | true =>
      have h1' := of_decide_eq_true h1
      have hi2 : i < l.length := by omega
      refine go_ ?_
      refine s_if (fun h2 => ?_) (fun h2 => ?_)
      · refine go_ ?_
        generalize hL : l.getD i [] = li at *
        generalize hW : w i = wi at *
        refine s_get i (F := blF w l) (m := l.length) (by repeat (first | with_reducible exact Sel.here | with_reducible apply Sel.there)) hi2 ?_
        refine s_open (B := BS (.slice wi.1 li.length wi.2) li) (fun _ _ q => by rw [← hW, ← hL]; exact q) ?_
        refine s_know (a := BS (.slice wi.1 li.length wi.2) li) (by repeat (first | with_reducible exact Sel.here | with_reducible apply Sel.there)) (fun H M q => SA.cap H M q) fun hcap => ?_
        apply s_join (α := Nat) (fun q => [(0, .pointer (some ⟨p, 0, none⟩)), (1, .slice a l.length c), (5, .slice ka ks.length kc), (6, .int .i64 i), (7, .slice wi.1 (li.take 128).length q), (31, .pointer (some ⟨p, 0, none⟩)), (32, .slice wi.1 (li.take 128).length q)])
          (fun q => [BS (.slice wi.1 (li.take 128).length q) (li.take 128), SO 3 1 (.slice ka ks.length kc) ks.length (pathR ks), PoB p b 1 n bc m, CtA bc σi, MG m (bmap gi), Obs gi, SA none 1 (.slice a l.length c) l.length (blR w l), Fam l.length (blF w l), F]) (fun _ => True)
        case h =>
          intro K2
          refine s_if (fun h3 => ?_) (fun h3 => ?_)
          · refine go_ ?_
            refine s_look (lk_slc (a := wi.1) (len := li.length) (cap := wi.2) 0 128 (by omega) (by omega)) ?_
            refine s_part 0 128 (by omega) (by omega) (a := wi.1) (m := li.length) (cap := wi.2) (by repeat (first | with_reducible exact Sel.here | with_reducible apply Sel.there)) ?_
            refine s_open (BS.cut li 128 (by omega)) ?_
            refine go_ ?_
            rw [sladdr0, show (128 - 0 : Nat) = (li.take 128).length by rw [List.length_take]; omega]
            exact s_entF (by repeat (first | exact Ent.nil | refine Ent.per (by repeat (first | with_reducible exact Sel.here | with_reducible apply Sel.there)) ?_ | refine Ent.cons (by repeat (first | with_reducible exact Sel.here | with_reducible apply Sel.there)) ?_)) (s_keep _ (K2 _ trivial))
          · refine go_ ?_
            have et : li.take 128 = li := List.take_of_length_le (by omega)
            rw [et] at K2
            exact s_entF (by repeat (first | exact Ent.nil | refine Ent.per (by repeat (first | with_reducible exact Sel.here | with_reducible apply Sel.there)) ?_ | refine Ent.cons (by repeat (first | with_reducible exact Sel.here | with_reducible apply Sel.there)) ?_)) (s_keep _ (K2 _ trivial))
        case K =>
          intro cq _
          have hl8 : (li.take 128).length ≤ 128 := by rw [List.length_take]; omega
          obtain ⟨j, j1, j2, j3, j4⟩ := hly.some (by omega)
          refine go_ ?_
          refine s_call (sp := (by repeat (first | exact Split.nil | apply Split.perx (by repeat (first | with_reducible exact Sel.here | with_reducible apply Sel.there)) (by infer_instance) | apply Split.cons (by repeat (first | with_reducible exact Sel.here | with_reducible apply Sel.there))))) (hs := pputB_c p b 1 n bc m σi gi (a := wi.1) (c := cq) (li.take 128) hl8) (h := ?_)
          rintro v Bs (⟨j', a2, c2, hj', rfl, rfl⟩ | ⟨hj', _⟩)
          · rw [j1] at hj'; cases hj'
            have q1 := hly.next (by omega) j2 j3 j4
            have q2 := Kp.put (g := gi) j4 ⟨5, li.take 128, a2, c2⟩
            have q3 := (hat.kp q2).snoc (k := j) (a := a2) (c := c2) (by omega) (by omega) (by show nset _ _ _ _ ≠ 0; rw [nset_eq]; decide) (by rw [bset_eq, hki, hL])
            refine go_ ?_
            refine s_step (st_bs1 (sz := 1) (cells := [.int .i64 j]) rfl) ?_
            rintro _ _ ⟨a3, rfl, rfl⟩
            refine go_ ?_
            refine s_step (st_appO (a := ka) (len := ks.length) (cap := kc) (b := a3) (m := 1) (c := 1) (by repeat (first | with_reducible exact Sel.here | with_reducible apply Sel.there)) (by repeat (first | with_reducible exact SelR.here | with_reducible apply SelR.there)) (by rw [flat_one]; rfl)) ?_
            rintro _ _ ⟨a4, c4, rfl, rfl⟩
            refine s_open (SO.cg (pathR (ks ++ [(j : Int)])) fun q hq => ?_) ?_
            · unfold rcat pathR
              by_cases hq2 : q < ks.length
              · rw [if_pos hq2, List.getD_eq_getElem?_getD, List.getD_eq_getElem?_getD, List.getElem?_append_left hq2]
              · have : q = ks.length := by omega
                subst this
                rw [if_neg hq2]; simp [List.getD_eq_getElem?_getD]
            rw [show ks.length + 1 = (ks ++ [(j : Int)]).length by simp]
            refine go_ ?_
            exact s_entF (by repeat (first | exact Ent.nil | refine Ent.per (by repeat (first | with_reducible exact Sel.here | with_reducible apply Sel.there)) ?_ | refine Ent.cons (by repeat (first | with_reducible exact Sel.here | with_reducible apply Sel.there)) ?_)) (s_keep _ (next (i + 1, ks ++ [(j : Int)], a4, c4, { σi with now := nset σi.now j 1 }, bset gi (j : Int) ⟨5, li.take 128, a2, c2⟩) ⟨by simp [hki], by dsimp only; omega, q1, hkp.trans q2, q3⟩ (by dsimp only; omega)))
          · rw [j1] at hj'; cases hj'
      · refine go_ ?_
        exact s_entF (by repeat (first | exact Ent.nil | refine Ent.per (by repeat (first | with_reducible exact Sel.here | with_reducible apply Sel.there)) ?_ | refine Ent.cons (by repeat (first | with_reducible exact Sel.here | with_reducible apply Sel.there)) ?_)) (s_keep _ (K () trivial))
  case K =>
    intro _ _
    refine go_ ?_
    subst hki
    exact s_ret1 (rs := [.tmp 4]) Tryz.func9 rfl (by intro j; refine RVS.tmp _ rfl ?_; exact RVS.nil) (⟨ka, kc, ks, σi, gi, hi, hly, hkp, hat, rfl, rfl⟩) (by repeat (first | exact Ent.nil | refine Ent.per (by repeat (first | with_reducible exact Sel.here | with_reducible apply Sel.there)) ?_ | refine Ent.cons (by repeat (first | with_reducible exact Sel.here | with_reducible apply Sel.there)) ?_))
end Go.Proofs.YtgbbcpfnmkeijaaGreat
/- What all ties of this seat need. -/
namespace Go.Proofs.YtgbbcpfnmkeijaaGreat
open Go.Cam
set_option maxRecDepth 100000
theorem Tryz.own : ownKnob Tryz.prog.godebug = none := by kernel_rfl
theorem Tryz.laidOut : laidOutB Tryz.prog = true := by kernel_rfl
theorem bls_of {H : Heap} {cs : List Value} (h : (Sh.slice 1 (.slice 1 (.int .u8))).ok H cs) : ∃ a c w, ∃ l : List (List Nat), cs = [.slice a l.length c] ∧ (∀ i, i < l.length → Bys (l.getD i [])) ∧ l.length < 9223372036854775808 ∧ ∀ M, (SA none 1 (.slice a l.length c) l.length (blR w l)).p H M ∧ (Fam l.length (blF w l)).p H M := by
  obtain ⟨a, len, cap, row, rfl, h1, h2, h3, h4⟩ := h
  have hm : maxLen = 9223372036854775807 := rfl
  haveI : Inhabited (List Nat × (Option Addr × Nat)) := ⟨([], (none, 0))⟩
  obtain ⟨xs, rfl, hxs⟩ := list_choose (α := List Nat × (Option Addr × Nat)) (φ := fun i x => row i = [.slice x.2.1 x.1.length x.2.2] ∧ Bys x.1 ∧ ∀ M, (BS (.slice x.2.1 x.1.length x.2.2) x.1).p H M) len fun i hi => by
    obtain ⟨a, c, l, e, h1, h2, h3⟩ := Sh.bytes (h4 i hi)
    exact ⟨(l, (a, c)), e, h1, h3⟩
  have hd : ∀ i, i < xs.length → (xs.map (·.1)).getD i [] = (xs.getD i default).1 := fun i hi => by simp [List.getD_eq_getElem?_getD, hi]
  refine ⟨a, cap, fun i => (xs.getD i default).2, xs.map (·.1), by simp, fun i hi => ?_, by simp; omega, fun M => ⟨?_, fun i hi => ?_⟩⟩
  · rw [List.length_map] at hi; rw [hd i hi]; exact (hxs i hi).2.1
  · rw [List.length_map]
    exact SA.cg _ (fun i hi => by rw [(hxs i hi).1]; unfold blR; rw [hd i hi]) H M (h3 M)
  · rw [List.length_map] at hi
    show (BS _ _).p H M
    rw [hd i hi]
    exact (hxs i hi).2.2 M
end Go.Proofs.YtgbbcpfnmkeijaaGreat
/- PoolShared: has. -/
namespace Go.Proofs.YtgbbcpfnmkeijaaGreat
open Go.Cam
set_option maxRecDepth 100000
set_option maxHeartbeats 16000000 in
theorem has_c (p b n bc m : Nat) (σ : Ct) (g : Int → Option OB) (hn : σ.n = 64) {ka : Option Addr} {kc : Nat} (ks : List Int) {a : Option Addr} {c : Nat} (w : Nat → Option Addr × Nat) (l : List (List Nat)) (hl : l.length < 9223372036854775808) (hat : At σ g ks l) :
    Ctr Tryz.prog 12 [.pointer (some ⟨p, 0, none⟩), .slice ka ks.length kc, .slice a l.length c] [SO 3 1 (.slice ka ks.length kc) ks.length (pathR ks), PoB p b 1 n bc m, CtA bc σ, MG m (bmap g), Obs g, SA none 1 (.slice a l.length c) l.length (blR w l), Fam l.length (blF w l)]
    (fun v Bs => v = .bool true ∧ Bs = [SO 3 1 (.slice ka ks.length kc) ks.length (pathR ks), PoB p b 1 n bc m, CtA bc σ, MG m (bmap g), Obs g]) := by
  refine s_enter 44 [(0, _), (1, _), (2, _)] (fun F => [_, _, _, _, _, _, _, F]) Tryz.func12 fun F => ?_
  have hkl : ks.length ≤ l.length := by
    by_cases h : ks.length = 0
    · omega
    · have := (hat (ks.length - 1) (by omega)).1; omega
  refine go_ ?_
  refine s_loop (fun i : Nat => [(0, .pointer (some ⟨p, 0, none⟩)), (1, .slice ka ks.length kc), (2, .slice a l.length c), (7, .int .i64 i)])
    (fun _ => [SO 3 1 (.slice ka ks.length kc) ks.length (pathR ks), PoB p b 1 n bc m, CtA bc σ, MG m (bmap g), Obs g, SA none 1 (.slice a l.length c) l.length (blR w l), Fam l.length (blF w l), F]) (fun i => i ≤ ks.length) (fun i => ks.length - i) 0 (Nat.zero_le _) (by repeat (first | exact Ent.nil | refine Ent.per (by repeat (first | with_reducible exact Sel.here | with_reducible apply Sel.there)) ?_ | refine Ent.cons (by repeat (first | with_reducible exact Sel.here | with_reducible apply Sel.there)) ?_)) ?_
  intro i hi next
  refine go_ ?_
  refine s_if (fun h => ?_) (fun h => ?_)
  · have hi2 : i < ks.length := by omega
    obtain ⟨hil, k, k1, k2, k3, oa, oc, k4⟩ := hat i hi2
    refine go_ ?_
    rw [k1]
    generalize hL : l.getD i [] = li at *
    generalize hW : w i = wi at *
    have hl8 : (li.take 128).length ≤ 128 := by rw [List.length_take]; omega
    refine s_call (sp := (by repeat (first | exact Split.nil | apply Split.perx (by repeat (first | with_reducible exact Sel.here | with_reducible apply Sel.there)) (by infer_instance) | apply Split.cons (by repeat (first | with_reducible exact Sel.here | with_reducible apply Sel.there))))) (hs := pbytesM_c p b 1 n bc m σ g k (by omega) k3 ⟨5, li.take 128, oa, oc⟩ k4 rfl (by show (li.take 128).length < 1000000; omega)) (h := ?_)
    rintro v Bs ⟨a3, c3, rfl, rfl⟩
    refine go_ ?_
    rw [hL, hW]
    refine s_get i (F := blF w l) (m := l.length) (by repeat (first | with_reducible exact Sel.here | with_reducible apply Sel.there)) hil ?_
    refine s_open (B := BS (.slice wi.1 li.length wi.2) li) (fun _ _ q => by rw [← hW, ← hL]; exact q) ?_
    refine s_know (a := BS (.slice wi.1 li.length wi.2) li) (by repeat (first | with_reducible exact Sel.here | with_reducible apply Sel.there)) (fun H M q => SA.cap H M q) fun hcap => ?_
    apply s_join (α := Nat) (fun q => [(0, .pointer (some ⟨p, 0, none⟩)), (1, .slice ka ks.length kc), (2, .slice a l.length c), (7, .int .i64 i), (10, .slice wi.1 (li.take 128).length q), (37, .bool ((0 : Int) != 0)), (38, .slice a3 (li.take 128).length c3)])
      (fun q => [BS (.slice wi.1 (li.take 128).length q) (li.take 128), BS (.slice a3 (li.take 128).length c3) (li.take 128), SO 3 1 (.slice ka ks.length kc) ks.length (pathR ks), PoB p b 1 n bc m, CtA bc σ, MG m (bmap g), Obs g, SA none 1 (.slice a l.length c) l.length (blR w l), Fam l.length (blF w l), F]) (fun _ => True)
    case h =>
      intro K2
      refine s_if (fun h3 => ?_) (fun h3 => ?_)
      · refine go_ ?_
        refine s_look (lk_slc (a := wi.1) (len := li.length) (cap := wi.2) 0 128 (by omega) (by omega)) ?_
        refine s_part 0 128 (by omega) (by omega) (a := wi.1) (m := li.length) (cap := wi.2) (by repeat (first | with_reducible exact Sel.here | with_reducible apply Sel.there)) ?_
        refine s_open (BS.cut li 128 (by omega)) ?_
        refine go_ ?_
        rw [sladdr0, show (128 - 0 : Nat) = (li.take 128).length by rw [List.length_take]; omega]
        exact s_entF (by repeat (first | exact Ent.nil | refine Ent.per (by repeat (first | with_reducible exact Sel.here | with_reducible apply Sel.there)) ?_ | refine Ent.cons (by repeat (first | with_reducible exact Sel.here | with_reducible apply Sel.there)) ?_)) (s_keep _ (K2 _ trivial))
      · refine go_ ?_
        have et : li.take 128 = li := List.take_of_length_le (by omega)
        rw [et] at K2 ⊢
        exact s_entF (by repeat (first | exact Ent.nil | refine Ent.per (by repeat (first | with_reducible exact Sel.here | with_reducible apply Sel.there)) ?_ | refine Ent.cons (by repeat (first | with_reducible exact Sel.here | with_reducible apply Sel.there)) ?_)) (s_keep _ (K2 _ trivial))
    case K =>
      intro cq _
      refine go_ ?_
      refine s_look (lk_b2s (a := a3) (c := c3) (m := (li.take 128).length) (s := li.take 128) (by repeat (first | with_reducible exact SelR.here | with_reducible apply SelR.there)) rfl) ?_
      refine go_ ?_
      refine s_look (lk_b2s (a := wi.1) (c := cq) (m := (li.take 128).length) (s := li.take 128) (by repeat (first | with_reducible exact SelR.here | with_reducible apply SelR.there)) rfl) ?_
      refine go_ ?_
      rw [show (!((strB (li.take 128)).toList == (strB (li.take 128)).toList)) = false by simp]
      refine go_ ?_
      exact s_entF (by repeat (first | exact Ent.nil | refine Ent.per (by repeat (first | with_reducible exact Sel.here | with_reducible apply Sel.there)) ?_ | refine Ent.cons (by repeat (first | with_reducible exact Sel.here | with_reducible apply Sel.there)) ?_)) (s_keep _ (next (i + 1) (by omega) (by omega)))
  · refine go_ ?_
    exact s_ret1 (rs := [.tmp 6]) Tryz.func12 rfl (by intro j; refine RVS.tmp _ rfl ?_; exact RVS.nil) (⟨rfl, rfl⟩) (by repeat (first | exact Ent.nil | refine Ent.per (by repeat (first | with_reducible exact Sel.here | with_reducible apply Sel.there)) ?_ | refine Ent.cons (by repeat (first | with_reducible exact Sel.here | with_reducible apply Sel.there)) ?_))
end Go.Proofs.YtgbbcpfnmkeijaaGreat
/- PoolShared. -/
namespace Go.Proofs.YtgbbcpfnmkeijaaGreat
open Go.Cam
set_option maxRecDepth 100000
theorem Lys.free {σ : Ct} {u : Nat} (h : Lys σ u) : σ.freeN (σ.n - firstN σ.n) (firstN σ.n) = 60 - u := by
  rw [h.n]
  show σ.freeN 60 4 = _
  have := h.c
  omega
theorem Lys.new : Lys (Ct.new 64) 0 := ⟨rfl, fun _ _ _ => ⟨rfl, rfl⟩, fun _ => rfl, by decide⟩
set_option maxHeartbeats 16000000 in
theorem shared_c {a : Option Addr} {c : Nat} (w : Nat → Option Addr × Nat) (l : List (List Nat)) (hl : l.length < 9223372036854775808) {a1 : Option Addr} {c1 : Nat} (w1 : Nat → Option Addr × Nat) (l1 : List (List Nat)) (hl1 : l1.length < 9223372036854775808) {a2 : Option Addr} {c2 : Nat} (w2 : Nat → Option Addr × Nat) (l2 : List (List Nat)) (hl2 : l2.length < 9223372036854775808) :
    Ctr Tryz.prog 3 [.slice a l.length c, .slice a1 l1.length c1, .slice a2 l2.length c2] [SA none 1 (.slice a l.length c) l.length (blR w l), Fam l.length (blF w l), SA none 1 (.slice a1 l1.length c1) l1.length (blR w1 l1), Fam l1.length (blF w1 l1), SA none 1 (.slice a2 l2.length c2) l2.length (blR w2 l2), Fam l2.length (blF w2 l2)]
    (fun v Bs => v = .bool true ∧ Bs = []) := by
  refine s_enter 97 [(0, _), (1, _), (2, _)] (fun F => [_, _, _, _, _, _, F]) Tryz.func3 fun F => ?_
  refine go_ ?_
  refine s_call (sp := (by repeat (first | exact Split.nil | apply Split.perx (by repeat (first | with_reducible exact Sel.here | with_reducible apply Sel.there)) (by infer_instance) | apply Split.cons (by repeat (first | with_reducible exact Sel.here | with_reducible apply Sel.there))))) (hs := shown9_c) (h := ?_)
  rintro v Bs ⟨rfl, rfl⟩
  refine go_ ?_
  refine s_call (sp := (by repeat (first | exact Split.nil | apply Split.perx (by repeat (first | with_reducible exact Sel.here | with_reducible apply Sel.there)) (by infer_instance) | apply Split.cons (by repeat (first | with_reducible exact Sel.here | with_reducible apply Sel.there))))) (hs := dnew_c 64 (by decide) (by decide)) (h := ?_)
  rintro v Bs ⟨b, rfl, rfl⟩
  have hon0 : (Dr.new 64).on := ⟨rfl, by show (-1 : Int) < 0; decide⟩
  refine go_ ?_
  refine s_call (sp := (by repeat (first | exact Split.nil | apply Split.perx (by repeat (first | with_reducible exact Sel.here | with_reducible apply Sel.there)) (by infer_instance) | apply Split.cons (by repeat (first | with_reducible exact Sel.here | with_reducible apply Sel.there))))) (hs := pformat_c b (Dr.new 64) hon0 (by show 0 < _; decide) (by decide) (by decide)) (h := ?_)
  rintro v Bs ⟨p, bc, m, rfl, rfl⟩
  generalize (Dr.new 64).fmt = σd at *
  refine go_ ?_
  refine s_obs0 ?_
  refine s_front (a := MG m (fun _ => none)) (by repeat (first | with_reducible exact Sel.here | with_reducible apply Sel.there)) (s_open (B := MG m (bmap fun _ => none)) (fun _ _ q => q) ?_)
  refine s_call (sp := (by repeat (first | exact Split.nil | apply Split.perx (by repeat (first | with_reducible exact Sel.here | with_reducible apply Sel.there)) (by infer_instance) | apply Split.cons (by repeat (first | with_reducible exact Sel.here | with_reducible apply Sel.there))))) (hs := lays_c p b 64 bc m (Ct.new 64) (fun _ => none) 0 Lys.new (by decide) (a := a) (c := c) w l hl) (h := ?_)
  rintro v Bs ⟨ka, kc, ks, σ, g, k1, k2, k3, k4, rfl, rfl⟩
  rw [Nat.zero_add] at k2
  refine go_ ?_
  refine s_call (sp := (by repeat (first | exact Split.nil | apply Split.perx (by repeat (first | with_reducible exact Sel.here | with_reducible apply Sel.there)) (by infer_instance) | apply Split.cons (by repeat (first | with_reducible exact Sel.here | with_reducible apply Sel.there))))) (hs := pclone_c p b 1 64 bc m σ (bmap g)) (h := ?_)
  rintro v Bs ⟨q, bc2, m2, rfl, rfl⟩
  refine go_ ?_
  refine s_call (sp := (by repeat (first | exact Split.nil | apply Split.perx (by repeat (first | with_reducible exact Sel.here | with_reducible apply Sel.there)) (by infer_instance) | apply Split.cons (by repeat (first | with_reducible exact Sel.here | with_reducible apply Sel.there))))) (hs := lays_c p b 64 bc m σ g ks.length k2 (by omega) (a := a1) (c := c1) w1 l1 hl1) (h := ?_)
  rintro v Bs ⟨ka1, kc1, ks1, σ1, g1, i1, i2, i3, i4, rfl, rfl⟩
  refine go_ ?_
  refine s_call (sp := (by repeat (first | exact Split.nil | apply Split.perx (by repeat (first | with_reducible exact Sel.here | with_reducible apply Sel.there)) (by infer_instance) | apply Split.cons (by repeat (first | with_reducible exact Sel.here | with_reducible apply Sel.there))))) (hs := lays_c q b 64 bc2 m2 σ g ks.length k2 (by omega) (a := a2) (c := c2) w2 l2 hl2) (h := ?_)
  rintro v Bs ⟨ka2, kc2, ks2, σ2, g2, j1, j2, j3, j4, rfl, rfl⟩
  have f1 := i2.free
  have f2 := j2.free
  refine go_ ?_
  refine s_call (sp := (by repeat (first | exact Split.nil | apply Split.perx (by repeat (first | with_reducible exact Sel.here | with_reducible apply Sel.there)) (by infer_instance) | apply Split.cons (by repeat (first | with_reducible exact Sel.here | with_reducible apply Sel.there))))) (hs := pfree_c p b 1 64 bc m σ1 (by rw [i2.n]; decide) (by rw [i2.n]; decide)) (h := ?_)
  rintro v Bs ⟨rfl, rfl⟩
  rw [f1]
  refine go_ ?_
  rw [show (((60 - (ks.length + ks1.length) : Nat) : Int) != (60 : Int) - (ks.length : Int) - (ks1.length : Int)) = false by
    rw [show ((60 - (ks.length + ks1.length) : Nat) : Int) = (60 : Int) - (ks.length : Int) - (ks1.length : Int) by omega]; simp]
  refine go_ ?_
  refine s_call (sp := (by repeat (first | exact Split.nil | apply Split.perx (by repeat (first | with_reducible exact Sel.here | with_reducible apply Sel.there)) (by infer_instance) | apply Split.cons (by repeat (first | with_reducible exact Sel.here | with_reducible apply Sel.there))))) (hs := pfree_c q b 1 64 bc2 m2 σ2 (by rw [j2.n]; decide) (by rw [j2.n]; decide)) (h := ?_)
  rintro v Bs ⟨rfl, rfl⟩
  rw [f2]
  refine go_ ?_
  rw [show (((60 - (ks.length + ks2.length) : Nat) : Int) != (60 : Int) - (ks.length : Int) - (ks2.length : Int)) = false by
    rw [show ((60 - (ks.length + ks2.length) : Nat) : Int) = (60 : Int) - (ks.length : Int) - (ks2.length : Int) by omega]; simp]
  refine go_ ?_
  refine s_call (sp := (by repeat (first | exact Split.nil | apply Split.perx (by repeat (first | with_reducible exact Sel.here | with_reducible apply Sel.there)) (by infer_instance) | apply Split.cons (by repeat (first | with_reducible exact Sel.here | with_reducible apply Sel.there))))) (hs := has_c p b 64 bc m σ1 g1 i2.n (ka := ka) (kc := kc) ks (a := a) (c := c) w l hl (k4.kp i3)) (h := ?_)
  rintro v Bs ⟨rfl, rfl⟩
  refine go_ ?_
  refine s_call (sp := (by repeat (first | exact Split.nil | apply Split.perx (by repeat (first | with_reducible exact Sel.here | with_reducible apply Sel.there)) (by infer_instance) | apply Split.cons (by repeat (first | with_reducible exact Sel.here | with_reducible apply Sel.there))))) (hs := has_c q b 64 bc2 m2 σ2 g2 j2.n (ka := ka) (kc := kc) ks (a := a) (c := c) w l hl (k4.kp j3)) (h := ?_)
  rintro v Bs ⟨rfl, rfl⟩
  refine go_ ?_
  refine s_call (sp := (by repeat (first | exact Split.nil | apply Split.perx (by repeat (first | with_reducible exact Sel.here | with_reducible apply Sel.there)) (by infer_instance) | apply Split.cons (by repeat (first | with_reducible exact Sel.here | with_reducible apply Sel.there))))) (hs := has_c p b 64 bc m σ1 g1 i2.n (ka := ka1) (kc := kc1) ks1 (a := a1) (c := c1) w1 l1 hl1 i4) (h := ?_)
  rintro v Bs ⟨rfl, rfl⟩
  refine go_ ?_
  refine s_call (sp := (by repeat (first | exact Split.nil | apply Split.perx (by repeat (first | with_reducible exact Sel.here | with_reducible apply Sel.there)) (by infer_instance) | apply Split.cons (by repeat (first | with_reducible exact Sel.here | with_reducible apply Sel.there))))) (hs := has_c q b 64 bc2 m2 σ2 g2 j2.n (ka := ka2) (kc := kc2) ks2 (a := a2) (c := c2) w2 l2 hl2 j4) (h := ?_)
  rintro v Bs ⟨rfl, rfl⟩
  refine go_ ?_
  exact s_ret1 (rs := [.tmp 6]) Tryz.func3 rfl (by intro j; refine RVS.tmp _ rfl ?_; exact RVS.nil) (⟨rfl, rfl⟩) (by repeat (first | exact Ent.nil | refine Ent.per (by repeat (first | with_reducible exact Sel.here | with_reducible apply Sel.there)) ?_ | refine Ent.cons (by repeat (first | with_reducible exact Sel.here | with_reducible apply Sel.there)) ?_))
end Go.Proofs.YtgbbcpfnmkeijaaGreat
