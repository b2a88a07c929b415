/- node.Read. -/
import Derived.Test.YtgbbcpfnmkeijaaGreatGrtEC
import Derived.Test.YtgbbcpfnmkeijaaGreatGrtW
import Derived.Test.YtgbbcpfnmkeijaaGreatCamAQ
namespace Go.Proofs.YtgbbcpfnmkeijaaGreat
open Go.Cam
set_option maxRecDepth 100000
/-- what a node that may be is -/
structure NdF (x : Node) : Prop where
  sh : (x.level = 0 ∧ x.kids.length = 0 ∧ x.items.length ≤ 6) ∨ (1 ≤ x.level ∧ x.level ≤ 7 ∧ x.items.length = 0 ∧ x.kids.length ≤ 12)
  v : ∀ i, i < x.items.length → (x.items.getD i default).val.length ≤ 28
  i : ∀ i, i < x.items.length → (x.items.getD i default).key.ok = true
  k : ∀ i, i < x.kids.length → (x.kids.getD i default).key.ok = true ∧ 1 ≤ (x.kids.getD i default).addr ∧ (x.kids.getD i default).addr ≤ 2047
theorem NdF.of {x : Node} (hok : nodeOk x = true) : NdF x := by
  unfold nodeOk at hok
  split at hok
  · rename_i h
    simp only [Bool.and_eq_true, decide_eq_true_eq] at hok
    refine ⟨.inl ⟨h, hok.1.1.2, hok.1.2.2⟩, hok.1.1.1, fun i hi => ?_, fun i hi => by omega⟩
    have := (hok.2 i (by simpa using hi)).1
    simpa [List.getD_eq_getElem?_getD, hi] using this
  · simp only [Bool.and_eq_true, decide_eq_true_eq] at hok
    refine ⟨.inr ⟨hok.1.1.1.2.1, hok.1.1.1.2.2, hok.1.1.2, hok.1.2.2⟩, fun i hi => by omega, fun i hi => by omega, fun i hi => ?_⟩
    have := (hok.2 i (by simpa using hi)).1
    exact ⟨by simpa [List.getD_eq_getElem?_getD, hi] using this, hok.1.1.1.1 i hi⟩
theorem NdF.len {x : Node} (h : NdF x) : (nodB x).length ≤ 236 := by
  have h1 := flatMap_le (f := itB) (m := 38) x.items fun y hy => by
    obtain ⟨q, hq, rfl⟩ := List.mem_iff_getElem.1 hy
    have := h.v q hq
    rw [itB_len]
    rw [List.getD_eq_getElem?_getD, List.getElem?_eq_getElem hq, Option.getD_some] at this
    omega
  have h2 := flatMap_le (f := kdB) (m := 11) x.kids fun y _ => by rw [kdB_len]; omega
  unfold nodB
  rw [List.length_append]
  have := h.sh
  omega
theorem nodB_bys {x : Node} (hb : ∀ y ∈ x.items, Bys y.val) : Bys (nodB x) := by
  unfold nodB
  exact bys_app (bys_flatMap fun y hy => by unfold itB; exact bys_app (bys_app (keyP_bys _) (putN_lt _ _)) (hb y hy)) (bys_flatMap fun y _ => by unfold kdB; exact bys_app (keyP_bys _) (putN_lt _ _))
theorem NdF.head {x : Node} (h : NdF x) {k gn : Nat} (hk : k ≤ 2047) (hg : gn ≤ 1099511627775) : (nodH x k gn).ok := by
  have := h.sh
  have hkd : 3 ≤ (nodH x k gn).kind ∧ (nodH x k gn).kind ≤ 4 := by unfold nodH; dsimp only; split <;> omega
  refine ⟨by omega, by omega, fun q hq => ?_⟩
  match q, hq with
  | 0, _ => show x.level.toNat ≤ 8; omega
  | 1, _ => exact hk
  | 2, _ => show x.items.length + x.kids.length ≤ 65535; omega
  | 3, _ => exact hg
theorem drop_flatMap {α : Type} [Inhabited α] (f : α → List Nat) (l : List α) (i : Nat) (hi : i < l.length) : (l.drop i).flatMap f = f (l.getD i default) ++ (l.drop (i + 1)).flatMap f := by
  rw [List.drop_eq_getElem_cons hi, List.flatMap_cons, List.getD_eq_getElem?_getD, List.getElem?_eq_getElem hi, Option.getD_some]
/-- of what is no block -/
theorem nreadB_c {a : Option Addr} {c : Nat} (l : List Nat) (hl : l.length = 256) (hb : Bys l) (k : Int) (ho : ¬ openOk l) : Ctr Tryz.prog 101 [.slice a 256 c, .int .i64 k] [SA none 1 (.slice a 256 c) 256 (byR l)]
    (fun v Bs => v = .tuple #[.agg #[.int .i64 0, .slice none 0 0, .slice none 0 0], .int .i64 3] ∧ Bs = []) := by
  refine s_enter 119 [(0, _), (1, _)] (fun F => [_, F]) Tryz.func101 fun F => ?_
  refine go_ ?_
  refine s_alloc fun r4 => ?_
  refine go_ ?_
  refine s_call (sp := (by repeat (first | exact Split.nil | apply Split.perx (by repeat (first | with_reducible exact Sel.here | with_reducible apply Sel.there)) (by infer_instance) | apply Split.cons (by repeat (first | with_reducible exact Sel.here | with_reducible apply Sel.there))))) (hs := open_c (a := a) (c := c) l hl hb) (h := ?_)
  rintro v Bs (⟨_, rfl, rfl⟩ | ⟨h, _⟩)
  · refine go_ ?_
    refine s_alloc fun r6 => ?_
    refine go_ ?_
    exact s_rett (rs := [.cell 4 88, .tmp 5]) (vs := [_, _]) Tryz.func101 rfl (by intro j; refine RVS.cell _ _ rfl (by repeat (first | with_reducible exact Sel.here | with_reducible apply Sel.there)) (by rfl) ?_; refine RVS.tmp _ rfl ?_; exact RVS.nil) rfl (⟨rfl, rfl⟩) (by repeat (first | exact Ent.nil | refine Ent.per (by repeat (first | with_reducible exact Sel.here | with_reducible apply Sel.there)) ?_ | refine Ent.cons (by repeat (first | with_reducible exact Sel.here | with_reducible apply Sel.there)) ?_))
  · exact absurd h ho
set_option maxHeartbeats 8000000 in
/-- of a node that was written -/
theorem nreadN_c {a : Option Addr} {c : Nat} (x : Node) (k gn : Nat) (hok : nodeOk x = true) (hb : ∀ y ∈ x.items, Bys y.val) (hk : k ≤ 2047) (hg : gn ≤ 1099511627775) : Ctr Tryz.prog 101 [.slice a 256 c, .int .i64 k] [SA none 1 (.slice a 256 c) 256 (byR (sealB (nodH x k gn) (nodB x)))]
    (fun v Bs => ∃ u : Plc, v = .tuple #[nodeV x.level u.a x.items.length u.c u.b x.kids.length u.d, .int .i64 0] ∧ Bs = [Nd1 x u, Nd2 x u, Nd3 x u]) := by
  have hf := NdF.of hok
  have hlen : (sealB (nodH x k gn) (nodB x)).length = 256 := sealB_len hf.len
  have hbys : Bys (sealB (nodH x k gn) (nodB x)) := sealB_bys (nodB_bys hb)
  have ho : openOk (sealB (nodH x k gn) (nodB x)) ∧ openH (sealB (nodH x k gn) (nodB x)) = nodH x k gn ∧ (sealB (nodH x k gn) (nodB x)).drop 20 = nodB x ++ List.replicate (236 - (nodB x).length) 0 := open_seal (hf.head hk hg) (nodB_bys hb) hf.len
  obtain ⟨o1, o2, o3⟩ := ho
  refine s_enter 119 [(0, _), (1, _)] (fun F => [_, F]) Tryz.func101 fun F => ?_
  refine go_ ?_
  refine s_alloc fun r4 => ?_
  refine go_ ?_
  refine s_call (sp := (by repeat (first | exact Split.nil | apply Split.perx (by repeat (first | with_reducible exact Sel.here | with_reducible apply Sel.there)) (by infer_instance) | apply Split.cons (by repeat (first | with_reducible exact Sel.here | with_reducible apply Sel.there))))) (hs := open_c (a := a) (c := c) (sealB (nodH x k gn) (nodB x)) hlen hbys) (h := ?_)
  rintro v Bs (⟨h, _⟩ | ⟨_, a1, c1, rfl, rfl⟩)
  · exact absurd o1 h
  rw [o2, o3]
  refine go_ ?_
  refine s_alloc fun r6 => ?_
  refine go_ ?_
  generalize hZ : List.replicate (236 - (nodB x).length) 0 = Z at *
  have hZb : Bys Z := by rw [← hZ]; intro q hq; rw [(List.mem_replicate.1 hq).2]; decide
  have hZl : Z.length = 236 - (nodB x).length := by rw [← hZ]; simp
  have h236 : (nodB x ++ Z).length = 236 := by rw [List.length_append, hZl]; have := hf.len; omega
  rcases hf.sh with ⟨s1, s2, s3⟩ | ⟨s1, s2, s3, s4⟩
  · have eH : nodH x k gn = ⟨3, k, x.items.length, 0, gn⟩ := by unfold nodH; rw [if_pos s1, s1, s2]; rfl
    have ekd : x.kids = [] := List.eq_nil_of_length_eq_zero s2
    have eB : nodB x = x.items.flatMap itB := by unfold nodB; rw [ekd]; simp
    rw [eH, eB]
    rw [eB] at h236
    refine go_ ?_
    rw [show ((k : Int) != (k : Int)) = false by simp]
    refine go_ ?_
    rw [show decide ((x.items.length : Int) > 12) = false from decide_eq_false (by omega)]
    refine go_ ?_
    refine s_alloc fun r10 => ?_
    refine go_ ?_
    refine s_front (a := Box r10 88 [.int .i64 ((⟨3, k, x.items.length, 0, gn⟩ : Head).level : Nat), .slice none 0 0, .slice none 0 0]) (by repeat (first | with_reducible exact Sel.here | with_reducible apply Sel.there)) ?_
    refine s_open (B := Box r10 88 [.int .i64 0, .slice none 0 0, .slice none 0 0]) (fun _ _ q => q) ?_
    refine s_newO (e := 51) (sz := 4) (row := itemRow (fun _ => (none, 0)) x.items) ?_
    refine s_fam0 (F := itemFam (fun _ => (none, 0)) x.items) ?_
    refine s_open (B := Fam 0 (itemFam (fun _ => (none, 0)) x.items)) (fun _ _ q => q) ?_
    have hN : (236 : Nat) = ((x.items.drop 0).flatMap itB ++ Z).length := by rw [List.drop_zero, h236]
    rw [hN]
    refine s_front (a := SA none 1 (.slice a1 ((x.items.drop 0).flatMap itB ++ Z).length c1) ((x.items.drop 0).flatMap itB ++ Z).length (byR (x.items.flatMap itB ++ Z))) (by repeat (first | with_reducible exact Sel.here | with_reducible apply Sel.there)) ?_
    refine s_open (B := BS (.slice a1 ((x.items.drop 0).flatMap itB ++ Z).length c1) ((x.items.drop 0).flatMap itB ++ Z)) (fun _ _ q => q) ?_
    refine s_loop (fun q : Nat × (Option Addr × Nat) × (Option Addr × Nat) × (Nat → Option Addr × Nat) => [(4, .pointer (some ⟨r4, 0, none⟩)), (7, .slice q.2.1.1 ((x.items.drop q.1).flatMap itB ++ Z).length q.2.1.2), (10, .pointer (some ⟨r10, 0, none⟩)), (54, .int .i64 (x.items.length : Nat)), (55, .int .i64 q.1)])
      (fun q => [BS (.slice q.2.1.1 ((x.items.drop q.1).flatMap itB ++ Z).length q.2.1.2) ((x.items.drop q.1).flatMap itB ++ Z), Fam q.1 (itemFam q.2.2.2 x.items), SO 51 4 (.slice q.2.2.1.1 q.1 q.2.2.1.2) q.1 (itemRow q.2.2.2 x.items), Box r10 88 [.int .i64 0, .slice q.2.2.1.1 q.1 q.2.2.1.2, .slice none 0 0], Box r4 88 [.int .i64 0, .slice none 0 0, .slice none 0 0], F])
      (fun q => q.1 ≤ x.items.length) (fun q => x.items.length - q.1) (0, (a1, c1), (none, 0), fun _ => (none, 0)) (Nat.zero_le _) (by repeat (first | exact Ent.nil | refine Ent.per (by repeat (first | with_reducible exact Sel.here | with_reducible apply Sel.there)) ?_ | refine Ent.cons (by repeat (first | with_reducible exact Sel.here | with_reducible apply Sel.there)) ?_)) ?_
    rintro ⟨i, ⟨a7, c7⟩, ⟨a2, c2⟩, w⟩ hi next
    dsimp only at hi next ⊢
    refine go_ ?_
    refine s_if (fun h => ?_) (fun h => ?_)
    · have hi2 : i < x.items.length := by omega
      have hko := hf.i i hi2
      have hv := hf.v i hi2
      have hbv : Bys (x.items.getD i default).val := hb _ (by rw [List.getD_eq_getElem?_getD, List.getElem?_eq_getElem hi2]; exact List.getElem_mem hi2)
      have hrb : Bys ((x.items.drop (i + 1)).flatMap itB ++ Z) := bys_app (bys_flatMap fun y hy => by unfold itB; exact bys_app (bys_app (keyP_bys _) (putN_lt _ _)) (hb y (List.mem_of_mem_drop hy))) hZb
      have hdr := drop_flatMap itB x.items i hi2
      have hrl : ((x.items.drop (i + 1)).flatMap itB ++ Z).length ≤ 236 := by
        have h1 := congrArg List.length (show x.items.flatMap itB = (x.items.take (i + 1)).flatMap itB ++ (x.items.drop (i + 1)).flatMap itB by rw [← List.flatMap_append, List.take_append_drop])
        rw [List.length_append] at h1 h236 ⊢
        omega
      have nx := fun (q : (Option Addr × Nat) × (Option Addr × Nat) × (Nat → Option Addr × Nat)) => next (i + 1, q)
      dsimp only at nx
      rw [hdr, List.append_assoc]
      generalize (x.items.drop (i + 1)).flatMap itB ++ Z = R at *
      generalize hV : x.items.getD i default = y at *
      have eI : itB y ++ R = keyP y.key ++ (putN y.val.length 1 ++ (y.val ++ R)) := by unfold itB; simp
      rw [eI]
      refine go_ ?_
      refine s_call (sp := (by repeat (first | exact Split.nil | apply Split.perx (by repeat (first | with_reducible exact Sel.here | with_reducible apply Sel.there)) (by infer_instance) | apply Split.cons (by repeat (first | with_reducible exact Sel.here | with_reducible apply Sel.there))))) (hs := ktakeP_c (a := a7) (c := c7) y.key (putN y.val.length 1 ++ (y.val ++ R)) hko (bys_app (putN_lt _ _) (bys_app hbv hrb)) (by rw [List.length_append, List.length_append, putN_len]; omega)) (h := ?_)
      rintro v Bs ⟨a8, c8, rfl, rfl⟩
      refine go_ ?_
      refine s_alloc fun r11 => ?_
      refine go_ ?_
      refine s_call (sp := (by repeat (first | exact Split.nil | apply Split.perx (by repeat (first | with_reducible exact Sel.here | with_reducible apply Sel.there)) (by infer_instance) | apply Split.cons (by repeat (first | with_reducible exact Sel.here | with_reducible apply Sel.there))))) (hs := ttextP_c (a := a8) (c := c8) y.val R (by omega) (bys_app hbv hrb) (by omega)) (h := ?_)
      rintro v Bs ⟨a9, c9, rfl, rfl⟩
      refine go_ ?_
      refine s_step (st_s2b (s := y.val) hbv) ?_
      rintro _ _ ⟨r12, cs, c12, rfl, g1, g2, g3, rfl⟩
      refine s_fzo (b := r12) (off := 0) (m := y.val.length) (c := c12) (sz := 1) (row := byR y.val) (by repeat (first | with_reducible exact Sel.here | with_reducible apply Sel.there)) (fun _ _ => rfl) g1 (by omega) (by
        apply Array.ext'
        rw [Array.toList_extract, List.extract_eq_take_drop, flat_byR']
        simpa using g3) ?_
      refine go_ ?_
      refine s_step (st_bs1 (sz := 4) (cells := [.int .i64 y.key.obj, .int .i64 y.key.kind, .int .i64 y.key.off, .slice (some ⟨r12, 0, none⟩) y.val.length c12]) rfl) ?_
      rintro _ _ ⟨a13, rfl, rfl⟩
      refine go_ ?_
      refine s_step (st_appO (a := a2) (len := i) (cap := c2) (b := a13) (m := 1) (c := 1) (by repeat (first | with_reducible exact Sel.here | with_reducible apply Sel.there)) (by repeat (first | with_reducible exact SelR.here | with_reducible apply SelR.there)) (by rw [flat_one]; rfl)) ?_
      rintro _ _ ⟨a14, c14, rfl, rfl⟩
      refine go_ ?_
      generalize hws : wset w i (some ⟨r12, 0, none⟩, c12) = w'
      have hw1 : w' i = (some ⟨r12, 0, none⟩, c12) := by rw [← hws]; unfold wset; rw [if_pos rfl]
      have hw2 : ∀ q, q ≠ i → w' q = w q := fun q hq => by rw [← hws]; unfold wset; rw [if_neg hq]
      refine s_open (SO.cg (itemRow w' x.items) fun q hq => ?_) ?_
      · unfold rcat itemRow
        by_cases hq2 : q < i
        · rw [if_pos hq2, hw2 q (by omega)]
        · have : q = i := by omega
          subst this
          rw [if_neg hq2, hw1, hV]
      refine s_front (a := Fam i (itemFam w x.items)) (by repeat (first | with_reducible exact Sel.here | with_reducible apply Sel.there)) (s_open (Fam.cg (itemFam w' x.items) fun q hq2 H M hh => ?_) ?_)
      · unfold itemFam at *
        rw [hw2 q (by omega)]; exact hh
      refine s_front (a := SA none 1 (.slice (some ⟨r12, 0, none⟩) y.val.length c12) y.val.length (byR y.val)) (by repeat (first | with_reducible exact Sel.here | with_reducible apply Sel.there)) (s_open (B := itemFam w' x.items i) (fun _ _ q => ?_) ?_)
      · unfold itemFam; rw [hw1, hV]; exact q
      refine s_famS (m := i) (F := itemFam w' x.items) (by repeat (first | with_reducible exact Sel.here | with_reducible apply Sel.there)) (by repeat (first | with_reducible exact Sel.here | with_reducible apply Sel.there)) ?_
      exact s_entF (by repeat (first | exact Ent.nil | refine Ent.per (by repeat (first | with_reducible exact Sel.here | with_reducible apply Sel.there)) ?_ | refine Ent.cons (by repeat (first | with_reducible exact Sel.here | with_reducible apply Sel.there)) ?_)) (s_keep _ (nx ((a9, c9), (a14, c14), w') (by omega) (by omega)))
    · have : i = x.items.length := by omega
      subst this
      rw [List.drop_length, List.flatMap_nil, List.nil_append]
      refine go_ ?_
      refine s_loop (fun j : Nat => [(4, .pointer (some ⟨r4, 0, none⟩)), (10, .pointer (some ⟨r10, 0, none⟩)), (104, .slice a7 Z.length c7), (105, .int .i64 (Z.length : Nat)), (106, .int .i64 j)])
        (fun _ => [BS (.slice a7 Z.length c7) Z, Fam x.items.length (itemFam w x.items), SO 51 4 (.slice a2 x.items.length c2) x.items.length (itemRow w x.items), Box r10 88 [.int .i64 0, .slice a2 x.items.length c2, .slice none 0 0], Box r4 88 [.int .i64 0, .slice none 0 0, .slice none 0 0], F])
        (fun j => j ≤ Z.length) (fun j => Z.length - j) 0 (Nat.zero_le _) (by repeat (first | exact Ent.nil | refine Ent.per (by repeat (first | with_reducible exact Sel.here | with_reducible apply Sel.there)) ?_ | refine Ent.cons (by repeat (first | with_reducible exact Sel.here | with_reducible apply Sel.there)) ?_)) ?_
      intro j hj next2
      refine go_ ?_
      refine s_if (fun h2 => ?_) (fun h2 => ?_)
      · have hz : Z.getD j 0 = 0 := by rw [← hZ]; exact getD_zeros _ _
        refine go_ ?_
        rw [hz]
        refine go_ ?_
        exact s_entF (by repeat (first | exact Ent.nil | refine Ent.per (by repeat (first | with_reducible exact Sel.here | with_reducible apply Sel.there)) ?_ | refine Ent.cons (by repeat (first | with_reducible exact Sel.here | with_reducible apply Sel.there)) ?_)) (s_keep _ (next2 (j + 1) (by omega) (by omega)))
      · refine go_ ?_
        refine s_fzO (e := 51) (v := .slice a2 x.items.length c2) (by repeat (first | with_reducible exact Sel.here | with_reducible apply Sel.there)) ?_
        refine s_nilN (sz := 4) (m := 0) (row := kidRow x.kids) rfl ?_
        have hm := nmay_c x (a := a2) (b := none) (n := x.items.length) (c := c2) (m := 0) (d := 0) (w := w) rfl s2 (by omega) (by decide) (fun i hi => by have := hf.v i hi; omega)
        rw [s1] at hm
        refine s_call (sp := (by repeat (first | exact Split.nil | apply Split.perx (by repeat (first | with_reducible exact Sel.here | with_reducible apply Sel.there)) (by infer_instance) | apply Split.cons (by repeat (first | with_reducible exact Sel.here | with_reducible apply Sel.there))))) (hs := hm) (h := ?_)
        rintro v Bs ⟨rfl, rfl⟩
        rw [hok]
        refine go_ ?_
        rw [s1, s2]
        refine s_front (a := SA none 4 (.slice none 0 0) 0 (kidRow x.kids)) (by repeat (first | with_reducible exact Sel.here | with_reducible apply Sel.there)) (s_open (B := Nd3 x ⟨a2, c2, none, 0, w⟩) (fun H M q => by
          show (SA none 4 (.slice none x.kids.length 0) x.kids.length (kidRow x.kids)).p H M
          rw [s2]; exact q) ?_)
        exact s_rett (rs := [.cell 4 88, .tmp 5]) (vs := [_, _]) Tryz.func101 rfl (by intro j; refine RVS.cell _ _ rfl (by repeat (first | with_reducible exact Sel.here | with_reducible apply Sel.there)) (by rfl) ?_; refine RVS.tmp _ rfl ?_; exact RVS.nil) rfl (⟨⟨a2, c2, none, 0, w⟩, rfl, rfl⟩) (by repeat (first | exact Ent.nil | refine Ent.per (by repeat (first | with_reducible exact Sel.here | with_reducible apply Sel.there)) ?_ | refine Ent.cons (by repeat (first | with_reducible exact Sel.here | with_reducible apply Sel.there)) ?_))
  · obtain ⟨lv, hlv⟩ : ∃ lv : Nat, x.level = (lv : Int) := ⟨x.level.toNat, by omega⟩
    have eH : nodH x k gn = ⟨4, k, x.kids.length, lv, gn⟩ := by unfold nodH; rw [if_neg (by omega), s3, hlv, Nat.zero_add]; rfl
    have eit : x.items = [] := List.eq_nil_of_length_eq_zero s3
    have eB : nodB x = x.kids.flatMap kdB := by unfold nodB; rw [eit]; simp
    rw [eH, eB]
    rw [eB] at h236
    refine go_ ?_
    rw [show decide ((lv : Int) > 0) = true from decide_eq_true (by omega)]
    refine go_ ?_
    rw [show ((k : Int) != (k : Int)) = false by simp]
    refine go_ ?_
    rw [show decide ((x.kids.length : Int) > 12) = false from decide_eq_false (by omega)]
    refine go_ ?_
    refine s_alloc fun r10 => ?_
    refine go_ ?_
    refine s_front (a := Box r10 88 [.int .i64 ((⟨4, k, x.kids.length, lv, gn⟩ : Head).level : Nat), .slice none 0 0, .slice none 0 0]) (by repeat (first | with_reducible exact Sel.here | with_reducible apply Sel.there)) ?_
    refine s_open (B := Box r10 88 [.int .i64 lv, .slice none 0 0, .slice none 0 0]) (fun _ _ q => q) ?_
    refine s_newO (e := 99) (sz := 4) (row := kidRow x.kids) ?_
    have hN : (236 : Nat) = ((x.kids.drop 0).flatMap kdB ++ Z).length := by rw [List.drop_zero, h236]
    rw [hN]
    refine s_front (a := SA none 1 (.slice a1 ((x.kids.drop 0).flatMap kdB ++ Z).length c1) ((x.kids.drop 0).flatMap kdB ++ Z).length (byR (x.kids.flatMap kdB ++ Z))) (by repeat (first | with_reducible exact Sel.here | with_reducible apply Sel.there)) ?_
    refine s_open (B := BS (.slice a1 ((x.kids.drop 0).flatMap kdB ++ Z).length c1) ((x.kids.drop 0).flatMap kdB ++ Z)) (fun _ _ q => q) ?_
    refine s_loop (fun q : Nat × (Option Addr × Nat) × (Option Addr × Nat) => [(4, .pointer (some ⟨r4, 0, none⟩)), (7, .slice q.2.1.1 ((x.kids.drop q.1).flatMap kdB ++ Z).length q.2.1.2), (10, .pointer (some ⟨r10, 0, none⟩)), (54, .int .i64 (x.kids.length : Nat)), (55, .int .i64 q.1)])
      (fun q => [BS (.slice q.2.1.1 ((x.kids.drop q.1).flatMap kdB ++ Z).length q.2.1.2) ((x.kids.drop q.1).flatMap kdB ++ Z), SO 99 4 (.slice q.2.2.1 q.1 q.2.2.2) q.1 (kidRow x.kids), Box r10 88 [.int .i64 lv, .slice none 0 0, .slice q.2.2.1 q.1 q.2.2.2], Box r4 88 [.int .i64 0, .slice none 0 0, .slice none 0 0], F])
      (fun q => q.1 ≤ x.kids.length) (fun q => x.kids.length - q.1) (0, (a1, c1), (none, 0)) (Nat.zero_le _) (by repeat (first | exact Ent.nil | refine Ent.per (by repeat (first | with_reducible exact Sel.here | with_reducible apply Sel.there)) ?_ | refine Ent.cons (by repeat (first | with_reducible exact Sel.here | with_reducible apply Sel.there)) ?_)) ?_
    rintro ⟨i, ⟨a7, c7⟩, ⟨a2, c2⟩⟩ hi next
    dsimp only at hi next ⊢
    refine go_ ?_
    refine s_if (fun h => ?_) (fun h => ?_)
    · have hi2 : i < x.kids.length := by omega
      obtain ⟨hko, hd1, hd2⟩ := hf.k i hi2
      have hrb : Bys ((x.kids.drop (i + 1)).flatMap kdB ++ Z) := bys_app (bys_flatMap fun y _ => by unfold kdB; exact bys_app (keyP_bys _) (putN_lt _ _)) hZb
      have hdr := drop_flatMap kdB x.kids i hi2
      have hrl : ((x.kids.drop (i + 1)).flatMap kdB ++ Z).length ≤ 236 := by
        have h1 := congrArg List.length (show x.kids.flatMap kdB = (x.kids.take (i + 1)).flatMap kdB ++ (x.kids.drop (i + 1)).flatMap kdB by rw [← List.flatMap_append, List.take_append_drop])
        rw [List.length_append] at h1 h236 ⊢
        omega
      have nx := fun (q : (Option Addr × Nat) × (Option Addr × Nat)) => next (i + 1, q)
      dsimp only at nx
      rw [hdr, List.append_assoc]
      generalize (x.kids.drop (i + 1)).flatMap kdB ++ Z = R at *
      generalize hV : x.kids.getD i default = y at *
      obtain ⟨ad, had⟩ : ∃ ad : Nat, y.addr = (ad : Int) := ⟨y.addr.toNat, by omega⟩
      have eI : kdB y ++ R = keyP y.key ++ (putN ad 2 ++ R) := by unfold kdB; rw [had]; simp
      rw [eI]
      refine go_ ?_
      refine s_call (sp := (by repeat (first | exact Split.nil | apply Split.perx (by repeat (first | with_reducible exact Sel.here | with_reducible apply Sel.there)) (by infer_instance) | apply Split.cons (by repeat (first | with_reducible exact Sel.here | with_reducible apply Sel.there))))) (hs := ktakeP_c (a := a7) (c := c7) y.key (putN ad 2 ++ R) hko (bys_app (putN_lt _ _) hrb) (by rw [List.length_append, putN_len]; omega)) (h := ?_)
      rintro v Bs ⟨a8, c8, rfl, rfl⟩
      refine go_ ?_
      refine s_alloc fun r11 => ?_
      refine go_ ?_
      rw [show decide ((lv : Int) > 0) = true from decide_eq_true (by omega)]
      refine go_ ?_
      refine s_call (sp := (by repeat (first | exact Split.nil | apply Split.perx (by repeat (first | with_reducible exact Sel.here | with_reducible apply Sel.there)) (by infer_instance) | apply Split.cons (by repeat (first | with_reducible exact Sel.here | with_reducible apply Sel.there))))) (hs := take_f (a := a8) (c := c8) (putN ad 2 ++ R) 2 (by decide) (by decide) (by rw [List.length_append, putN_len]; omega) (bys_app (putN_lt _ _) hrb) (by rw [List.length_append, putN_len]; omega)) (h := ?_)
      rintro v Bs ⟨a9, c9, rfl, rfl⟩
      rw [take_app (putN_len _ _), drop_app (putN_len _ _), numB_putN _ _ (by omega)]
      refine go_ ?_
      refine s_step (st_bs1 (sz := 4) (cells := [.int .i64 y.key.obj, .int .i64 y.key.kind, .int .i64 y.key.off, .int .i64 ad]) rfl) ?_
      rintro _ _ ⟨a13, rfl, rfl⟩
      refine go_ ?_
      refine s_step (st_appO (a := a2) (len := i) (cap := c2) (b := a13) (m := 1) (c := 1) (by repeat (first | with_reducible exact Sel.here | with_reducible apply Sel.there)) (by repeat (first | with_reducible exact SelR.here | with_reducible apply SelR.there)) (by rw [flat_one]; rfl)) ?_
      rintro _ _ ⟨a14, c14, rfl, rfl⟩
      refine go_ ?_
      refine s_open (SO.cg (kidRow x.kids) fun q hq => ?_) ?_
      · unfold rcat kidRow
        by_cases hq2 : q < i
        · rw [if_pos hq2]
        · have : q = i := by omega
          subst this
          rw [if_neg hq2, hV, had]
      exact s_entF (by repeat (first | exact Ent.nil | refine Ent.per (by repeat (first | with_reducible exact Sel.here | with_reducible apply Sel.there)) ?_ | refine Ent.cons (by repeat (first | with_reducible exact Sel.here | with_reducible apply Sel.there)) ?_)) (s_keep _ (nx ((a9, c9), (a14, c14)) (by omega) (by omega)))
    · have : i = x.kids.length := by omega
      subst this
      rw [List.drop_length, List.flatMap_nil, List.nil_append]
      refine go_ ?_
      refine s_loop (fun j : Nat => [(4, .pointer (some ⟨r4, 0, none⟩)), (10, .pointer (some ⟨r10, 0, none⟩)), (104, .slice a7 Z.length c7), (105, .int .i64 (Z.length : Nat)), (106, .int .i64 j)])
        (fun _ => [BS (.slice a7 Z.length c7) Z, SO 99 4 (.slice a2 x.kids.length c2) x.kids.length (kidRow x.kids), Box r10 88 [.int .i64 lv, .slice none 0 0, .slice a2 x.kids.length c2], Box r4 88 [.int .i64 0, .slice none 0 0, .slice none 0 0], F])
        (fun j => j ≤ Z.length) (fun j => Z.length - j) 0 (Nat.zero_le _) (by repeat (first | exact Ent.nil | refine Ent.per (by repeat (first | with_reducible exact Sel.here | with_reducible apply Sel.there)) ?_ | refine Ent.cons (by repeat (first | with_reducible exact Sel.here | with_reducible apply Sel.there)) ?_)) ?_
      intro j hj next2
      refine go_ ?_
      refine s_if (fun h2 => ?_) (fun h2 => ?_)
      · have hz : Z.getD j 0 = 0 := by rw [← hZ]; exact getD_zeros _ _
        refine go_ ?_
        rw [hz]
        refine go_ ?_
        exact s_entF (by repeat (first | exact Ent.nil | refine Ent.per (by repeat (first | with_reducible exact Sel.here | with_reducible apply Sel.there)) ?_ | refine Ent.cons (by repeat (first | with_reducible exact Sel.here | with_reducible apply Sel.there)) ?_)) (s_keep _ (next2 (j + 1) (by omega) (by omega)))
      · refine go_ ?_
        refine s_fzO (e := 99) (v := .slice a2 x.kids.length c2) (by repeat (first | with_reducible exact Sel.here | with_reducible apply Sel.there)) ?_
        refine s_nilN (sz := 4) (m := 0) (row := itemRow (fun _ => (none, 0)) x.items) rfl ?_
        refine s_fam0 (F := itemFam (fun _ => (none, 0)) x.items) ?_
        have hm := nmay_c x (a := none) (b := a2) (n := 0) (c := 0) (m := x.kids.length) (d := c2) (w := fun _ => (none, 0)) s3 rfl (by decide) (by omega) (fun i hi => absurd hi (Nat.not_lt_zero _))
        rw [hlv] at hm
        refine s_call (sp := (by repeat (first | exact Split.nil | apply Split.perx (by repeat (first | with_reducible exact Sel.here | with_reducible apply Sel.there)) (by infer_instance) | apply Split.cons (by repeat (first | with_reducible exact Sel.here | with_reducible apply Sel.there))))) (hs := hm) (h := ?_)
        rintro v Bs ⟨rfl, rfl⟩
        rw [hok]
        refine go_ ?_
        rw [hlv, s3]
        refine s_front (a := SA none 4 (.slice none 0 0) 0 (itemRow (fun _ => (none, 0)) x.items)) (by repeat (first | with_reducible exact Sel.here | with_reducible apply Sel.there)) (s_open (B := Nd1 x ⟨none, 0, a2, c2, fun _ => (none, 0)⟩) (fun H M q => by
          show (SA none 4 (.slice none x.items.length 0) x.items.length (itemRow (fun _ => (none, 0)) x.items)).p H M
          rw [s3]; exact q) ?_)
        refine s_front (a := Fam 0 (itemFam (fun _ => (none, 0)) x.items)) (by repeat (first | with_reducible exact Sel.here | with_reducible apply Sel.there)) (s_open (B := Nd2 x ⟨none, 0, a2, c2, fun _ => (none, 0)⟩) (fun H M q => by
          show (Fam x.items.length (itemFam (fun _ => (none, 0)) x.items)).p H M
          rw [s3]; exact q) ?_)
        exact s_rett (rs := [.cell 4 88, .tmp 5]) (vs := [_, _]) Tryz.func101 rfl (by intro j; refine RVS.cell _ _ rfl (by repeat (first | with_reducible exact Sel.here | with_reducible apply Sel.there)) (by rfl) ?_; refine RVS.tmp _ rfl ?_; exact RVS.nil) rfl (⟨⟨none, 0, a2, c2, fun _ => (none, 0)⟩, rfl, rfl⟩) (by repeat (first | exact Ent.nil | refine Ent.per (by repeat (first | with_reducible exact Sel.here | with_reducible apply Sel.there)) ?_ | refine Ent.cons (by repeat (first | with_reducible exact Sel.here | with_reducible apply Sel.there)) ?_))
end Go.Proofs.YtgbbcpfnmkeijaaGreat
