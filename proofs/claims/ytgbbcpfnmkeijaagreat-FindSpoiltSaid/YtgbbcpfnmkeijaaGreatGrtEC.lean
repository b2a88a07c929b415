/- node.Write. -/
import Derived.Test.YtgbbcpfnmkeijaaGreatGrtEA
import Derived.Test.YtgbbcpfnmkeijaaGreatGrtAP
import Derived.Test.YtgbbcpfnmkeijaaGreatGrtW
namespace Go.Proofs.YtgbbcpfnmkeijaaGreat
open Go.Cam
set_option maxRecDepth 100000
/-- an item's and a kid's bytes, and a node's -/
def itB (x : Item) : List Nat := keyP x.key ++ putN x.val.length 1 ++ x.val
def kdB (x : Kid) : List Nat := keyP x.key ++ putN x.addr.toNat 2
def nodB (x : Node) : List Nat := x.items.flatMap itB ++ x.kids.flatMap kdB
def nodH (x : Node) (k gn : Nat) : Head := ⟨if x.level = 0 then 3 else 4, k, x.items.length + x.kids.length, x.level.toNat, gn⟩
theorem itB_len (x : Item) : (itB x).length = 10 + x.val.length := by simp [itB, keyP_len, putN_len]; omega
theorem kdB_len (x : Kid) : (kdB x).length = 11 := by simp [kdB, keyP_len, putN_len]
theorem flatMap_le {α : Type} {f : α → List Nat} {m : Nat} : ∀ (l : List α), (∀ x ∈ l, (f x).length ≤ m) → (l.flatMap f).length ≤ m * l.length
  | [], _ => by simp
  | x :: l, h => by
    have ih := flatMap_le l fun y hy => h y (List.mem_cons_of_mem _ hy)
    have := h x (List.mem_cons_self ..)
    rw [List.flatMap_cons, List.length_append, List.length_cons, Nat.mul_add]
    omega
theorem take_flatMap {α : Type} [Inhabited α] (f : α → List Nat) (l : List α) (i : Nat) (hi : i < l.length) : (l.take (i + 1)).flatMap f = (l.take i).flatMap f ++ f (l.getD i default) := by
  rw [List.take_add_one, List.flatMap_append, List.getElem?_eq_getElem hi, List.getD_eq_getElem?_getD, List.getElem?_eq_getElem hi]
  simp
theorem bys_flatMap {α : Type} {f : α → List Nat} {l : List α} (h : ∀ x ∈ l, Bys (f x)) : Bys (l.flatMap f) := fun c hc => by
  obtain ⟨x, hx, h2⟩ := List.mem_flatMap.1 hc
  exact h x hx c h2
theorem bys_app {a b : List Nat} (ha : Bys a) (hb : Bys b) : Bys (a ++ b) := fun c hc => (List.mem_append.1 hc).elim (ha c) (hb c)
theorem rcat_bys (l r : List Nat) : ∀ q, q < l.length + r.length → rcat l.length (byR l) (byR r) q = byR (l ++ r) q := fun q _ => by
  unfold rcat byR
  by_cases h : q < l.length
  · rw [if_pos h]; simp [List.getD_eq_getElem?_getD, List.getElem?_append_left h]
  · rw [if_neg h]; simp [List.getD_eq_getElem?_getD, List.getElem?_append_right (Nat.le_of_not_lt h)]
set_option maxHeartbeats 16000000 in
theorem nwrite_c (x : Node) (u : Plc) (hok : nodeOk x = true) (hb : ∀ y ∈ x.items, Bys y.val) (k gn : Nat) (hk : k ≤ 2047) (hg : gn ≤ 1099511627775) : Ctr Tryz.prog 44 [nodeV x.level u.a x.items.length u.c u.b x.kids.length u.d, .int .i64 k, .int .i64 gn] [Nd1 x u, Nd2 x u, Nd3 x u]
    (fun v Bs => ∃ r, v = .tuple #[.slice (some ⟨r, 0, none⟩) 256 256, .int .i64 0] ∧ Bs = [SA none 1 (.slice (some ⟨r, 0, none⟩) 256 256) 256 (byR (sealB (nodH x k gn) (nodB x)))]) := by
  have hsh : (x.level = 0 ∧ x.kids.length = 0 ∧ x.items.length ≤ 6) ∨ (1 ≤ x.level ∧ x.level ≤ 7 ∧ x.items.length = 0 ∧ x.kids.length ≤ 12) := by
    unfold nodeOk at hok
    split at hok
    · rename_i h
      simp only [Bool.and_eq_true, decide_eq_true_eq] at hok
      exact .inl ⟨h, hok.1.1.2, hok.1.2.2⟩
    · simp only [Bool.and_eq_true, decide_eq_true_eq] at hok
      exact .inr ⟨hok.1.1.1.2.1, hok.1.1.1.2.2, hok.1.1.2, hok.1.2.2⟩
  have hv28 : ∀ i, i < x.items.length → (x.items.getD i default).val.length ≤ 28 := by
    unfold nodeOk at hok
    split at hok
    · simp only [Bool.and_eq_true, decide_eq_true_eq] at hok; exact hok.1.1.1
    · simp only [Bool.and_eq_true, decide_eq_true_eq] at hok; intro i hi; omega
  have hik : ∀ i, i < x.items.length → (x.items.getD i default).key.ok = true := fun i hi => by
    have h : KeysRise (x.items.map Item.key) := by
      unfold nodeOk at hok
      split at hok
      · simp only [Bool.and_eq_true, decide_eq_true_eq] at hok; exact hok.2
      · simp only [Bool.and_eq_true, decide_eq_true_eq] at hok; omega
    have := (h i (by simpa using hi)).1
    simpa [List.getD_eq_getElem?_getD, hi] using this
  have hkk : ∀ i, i < x.kids.length → (x.kids.getD i default).key.ok = true ∧ 1 ≤ (x.kids.getD i default).addr ∧ (x.kids.getD i default).addr ≤ 2047 := fun i hi => by
    unfold nodeOk at hok
    split at hok
    · simp only [Bool.and_eq_true, decide_eq_true_eq] at hok; omega
    · simp only [Bool.and_eq_true, decide_eq_true_eq] at hok
      have := (hok.2 i (by simpa using hi)).1
      exact ⟨by simpa [List.getD_eq_getElem?_getD, hi] using this, hok.1.1.1.1 i hi⟩
  have hil : ∀ i, i ≤ x.items.length → ((x.items.take i).flatMap itB).length ≤ 38 * i := fun i hi => by
    have := flatMap_le (f := itB) (m := 38) (x.items.take i) fun y hy => by
      obtain ⟨q, hq, rfl⟩ := List.mem_iff_getElem.1 (List.mem_of_mem_take hy)
      have := hv28 q hq
      rw [itB_len]
      rw [List.getD_eq_getElem?_getD, List.getElem?_eq_getElem hq, Option.getD_some] at this
      omega
    rw [List.length_take, Nat.min_eq_left hi] at this
    exact this
  have hkl : ∀ i, i ≤ x.kids.length → ((x.kids.take i).flatMap kdB).length ≤ 11 * i := fun i hi => by
    have := flatMap_le (f := kdB) (m := 11) (x.kids.take i) fun y _ => by rw [kdB_len]; omega
    rw [List.length_take, Nat.min_eq_left hi] at this
    exact this
  refine s_enter 72 [(0, _), (1, _), (2, _)] (fun F => [_, _, _, F]) Tryz.func44 fun F => ?_
  refine go_ ?_
  refine s_box fun r3 => ?_
  refine go_ ?_
  refine s_call (sp := (by repeat (first | exact Split.nil | apply Split.perx (by repeat (first | with_reducible exact Sel.here | with_reducible apply Sel.there)) (by infer_instance) | apply Split.cons (by repeat (first | with_reducible exact Sel.here | with_reducible apply Sel.there))))) (hs := nmay_c x (a := u.a) (b := u.b) (n := x.items.length) (c := u.c) (m := x.kids.length) (d := u.d) (w := u.w) rfl rfl (by omega) (by omega) (fun i hi => by have := hv28 i hi; omega)) (h := ?_)
  rintro v Bs ⟨rfl, rfl⟩
  rw [hok]
  refine go_ ?_
  refine s_alloc fun r8 => ?_
  refine go_ ?_
  refine s_nilN (sz := 1) (m := 0) (row := byR []) rfl ?_
  refine s_open (B := BS (.slice none ((x.items.take 0).flatMap itB).length 0) ((x.items.take 0).flatMap itB)) (fun _ _ q => q) ?_
  refine s_loop (fun q : Nat × Option Addr × Nat => [(3, .pointer (some ⟨r3, 0, none⟩)), (8, .pointer (some ⟨r8, 0, none⟩)), (9, .slice q.2.1 ((x.items.take q.1).flatMap itB).length q.2.2), (30, .slice u.a x.items.length u.c), (31, .int .i64 (x.items.length : Nat)), (32, .int .i64 q.1)])
    (fun q => [BS (.slice q.2.1 ((x.items.take q.1).flatMap itB).length q.2.2) ((x.items.take q.1).flatMap itB), Box r8 109 [.int .i64 3, .int .i64 k, .int .i64 (x.items.length + x.kids.length : Nat), .int .i64 x.level, .int .i64 gn], Box r3 88 [.int .i64 x.level, .slice u.a x.items.length u.c, .slice u.b x.kids.length u.d], Nd1 x u, Nd2 x u, Nd3 x u, F])
    (fun q => q.1 ≤ x.items.length) (fun q => x.items.length - q.1) (0, none, 0) (Nat.zero_le _) (by repeat (first | exact Ent.nil | refine Ent.per (by repeat (first | with_reducible exact Sel.here | with_reducible apply Sel.there)) ?_ | refine Ent.cons (by repeat (first | with_reducible exact Sel.here | with_reducible apply Sel.there)) ?_)) ?_
  rintro ⟨i, a, c⟩ hi next
  dsimp only at hi next ⊢
  refine go_ ?_
  refine s_if (fun h => ?_) (fun h => ?_)
  · have hi2 : i < x.items.length := by omega
    have h38 := hil i hi
    have hv := hv28 i hi2
    have hko := hik i hi2
    have htk := take_flatMap itB x.items i hi2
    refine go_ ?_
    refine s_alloc fun r11 => ?_
    refine go_ ?_
    refine s_get i (F := itemFam u.w x.items) (m := x.items.length) (by repeat (first | with_reducible exact Sel.here | with_reducible apply Sel.there)) hi2 ?_
    generalize hV : x.items.getD i default = y at *
    generalize hW : u.w i = wi at *
    refine s_open (B := BS (.slice wi.1 y.val.length wi.2) y.val) (fun H M q => by rw [← hV, ← hW]; exact q) ?_
    refine s_front (a := BS (.slice a ((x.items.take i).flatMap itB).length c) ((x.items.take i).flatMap itB)) (by repeat (first | with_reducible exact Sel.here | with_reducible apply Sel.there)) ?_
    generalize (x.items.take i).flatMap itB = L at *
    refine s_front (a := BS (.slice wi.1 y.val.length wi.2) y.val) (by repeat (first | with_reducible exact Sel.here | with_reducible apply Sel.there)) ?_
    have hlen : (L ++ keyP y.key ++ putN y.val.length 1).length = L.length + 10 := by
      rw [List.length_append, List.length_append, keyP_len, putN_len]
    refine s_drawN 2 [.q 0, .q 1, .q 2, .q 4, .q 5, .q 6, .q 8, .q 9, .s 3, .s 7, .s 10, .q 11] ?_
    refine do_ ?_
    refine d_step rfl (st_call (sp := (by repeat (first | exact Split.nil | apply Split.perx (by repeat (first | with_reducible exact Sel.here | with_reducible apply Sel.there)) (by infer_instance) | apply Split.cons (by repeat (first | with_reducible exact Sel.here | with_reducible apply Sel.there))))) (hs := kput_c (a := a) (c := c) L y.key hko (by omega))) ?_
    rintro v Bs ⟨Cs, ⟨a1, c1, rfl, rfl⟩, rfl⟩
    refine do_ ?_
    refine d_step rfl (st_call (sp := (by repeat (first | exact Split.nil | apply Split.perx (by repeat (first | with_reducible exact Sel.here | with_reducible apply Sel.there)) (by infer_instance) | apply Split.cons (by repeat (first | with_reducible exact Sel.here | with_reducible apply Sel.there))))) (hs := put_c (a := a1) (c := c1) (L ++ keyP y.key) y.val.length 1 (by decide) (by decide) (by omega) (by rw [List.length_append, keyP_len]; omega))) ?_
    rintro v Bs ⟨Cs, ⟨a2, c2, rfl, rfl⟩, rfl⟩
    refine do_ ?_
    refine d_open SO.of ?_
    refine d_step rfl (st_appO (a := a2) (len := (L ++ keyP y.key ++ putN y.val.length 1).length) (cap := c2) (b := wi.1) (m := y.val.length) (c := wi.2) (row2 := byR y.val) (by repeat (first | with_reducible exact Sel.here | with_reducible apply Sel.there)) (by repeat (first | with_reducible exact SelR.here | with_reducible apply SelR.there)) (by rw [flat_byR']; exact bcl_one _) (by rw [hlen]; omega)) ?_
    rintro v Bs ⟨a3, c3, rfl, rfl⟩
    refine d_open (SO.cg (byR (L ++ keyP y.key ++ putN y.val.length 1 ++ y.val)) (rcat_bys _ _)) ?_
    refine do_ ?_
    refine go_ ?_
    have eL : L ++ keyP y.key ++ putN y.val.length 1 ++ y.val = L ++ itB y := by unfold itB; simp
    rw [show (L ++ keyP y.key ++ putN y.val.length 1).length + y.val.length = (L ++ itB y).length by rw [← eL, List.length_append (bs := y.val)], eL]
    refine s_fzO (e := 5) (v := .slice a3 (L ++ itB y).length c3) (by repeat (first | with_reducible exact Sel.here | with_reducible apply Sel.there)) ?_
    have nx := next (i + 1, a3, c3)
    rw [htk] at nx
    exact s_entF (by repeat (first | exact Ent.nil | refine Ent.per (by repeat (first | with_reducible exact Sel.here | with_reducible apply Sel.there)) ?_ | refine Ent.cons (by repeat (first | with_reducible exact Sel.here | with_reducible apply Sel.there)) ?_)) (s_keep _ (nx (by dsimp only; omega) (by dsimp only; omega)))
  · have : i = x.items.length := by omega
    subst this
    have hI := hil x.items.length (Nat.le_refl _)
    have hK := hkl x.kids.length (Nat.le_refl _)
    have eN : nodB x = x.items.flatMap itB ++ (x.kids.take x.kids.length).flatMap kdB := by unfold nodB; rw [List.take_length]
    rw [List.take_length] at hI ⊢
    have hbI : Bys (x.items.flatMap itB) := bys_flatMap fun y hy => by
      unfold itB
      exact bys_app (bys_app (keyP_bys _) (putN_lt _ _)) (hb y hy)
    generalize x.items.flatMap itB = I at *
    refine go_ ?_
    refine s_open (B := BS (.slice a (I ++ (x.kids.take 0).flatMap kdB).length c) (I ++ (x.kids.take 0).flatMap kdB)) (fun _ _ q => by rw [List.take_zero, List.flatMap_nil, List.append_nil]; exact q) ?_
    rw [show I.length = (I ++ (x.kids.take 0).flatMap kdB).length by simp]
    refine s_loop (fun q : Nat × Option Addr × Nat => [(3, .pointer (some ⟨r3, 0, none⟩)), (8, .pointer (some ⟨r8, 0, none⟩)), (9, .slice q.2.1 (I ++ (x.kids.take q.1).flatMap kdB).length q.2.2), (49, .slice u.b x.kids.length u.d), (50, .int .i64 (x.kids.length : Nat)), (51, .int .i64 q.1)])
      (fun q => [BS (.slice q.2.1 (I ++ (x.kids.take q.1).flatMap kdB).length q.2.2) (I ++ (x.kids.take q.1).flatMap kdB), Box r8 109 [.int .i64 3, .int .i64 k, .int .i64 (x.items.length + x.kids.length : Nat), .int .i64 x.level, .int .i64 gn], Box r3 88 [.int .i64 x.level, .slice u.a x.items.length u.c, .slice u.b x.kids.length u.d], Nd1 x u, Nd2 x u, Nd3 x u, F])
      (fun q => q.1 ≤ x.kids.length) (fun q => x.kids.length - q.1) (0, a, c) (Nat.zero_le _) (by repeat (first | exact Ent.nil | refine Ent.per (by repeat (first | with_reducible exact Sel.here | with_reducible apply Sel.there)) ?_ | refine Ent.cons (by repeat (first | with_reducible exact Sel.here | with_reducible apply Sel.there)) ?_)) ?_
    rintro ⟨j, a, c⟩ hj next
    dsimp only at hj next ⊢
    refine go_ ?_
    refine s_if (fun h2 => ?_) (fun h2 => ?_)
    · have hj2 : j < x.kids.length := by omega
      have h11 := hkl j hj
      obtain ⟨hko, ha1, ha2⟩ := hkk j hj2
      have htk := take_flatMap kdB x.kids j hj2
      refine go_ ?_
      refine s_alloc fun r13 => ?_
      refine go_ ?_
      generalize hV : x.kids.getD j default = y at *
      have nx := fun q : Option Addr × Nat => next (j + 1, q)
      dsimp only at nx
      rw [htk, ← List.append_assoc] at nx
      have hLl : (I ++ (x.kids.take j).flatMap kdB).length ≤ 38 * x.items.length + 11 * j := by rw [List.length_append]; omega
      generalize I ++ (x.kids.take j).flatMap kdB = L at *
      obtain ⟨ad, had⟩ : ∃ ad : Nat, y.addr = (ad : Int) := ⟨y.addr.toNat, by omega⟩
      have eL : L ++ keyP y.key ++ putN ad 2 = L ++ kdB y := by unfold kdB; rw [had]; simp
      rw [had]
      refine s_front (a := BS (.slice a L.length c) L) (by repeat (first | with_reducible exact Sel.here | with_reducible apply Sel.there)) ?_
      refine s_drawN 1 [.q 0, .q 1, .q 2, .q 4, .q 5, .s 3, .s 6, .q 7] ?_
      refine do_ ?_
      refine d_step rfl (st_call (sp := (by repeat (first | exact Split.nil | apply Split.perx (by repeat (first | with_reducible exact Sel.here | with_reducible apply Sel.there)) (by infer_instance) | apply Split.cons (by repeat (first | with_reducible exact Sel.here | with_reducible apply Sel.there))))) (hs := kput_c (a := a) (c := c) L y.key hko (by omega))) ?_
      rintro v Bs ⟨Cs, ⟨a1, c1, rfl, rfl⟩, rfl⟩
      refine do_ ?_
      refine d_step rfl (st_call (sp := (by repeat (first | exact Split.nil | apply Split.perx (by repeat (first | with_reducible exact Sel.here | with_reducible apply Sel.there)) (by infer_instance) | apply Split.cons (by repeat (first | with_reducible exact Sel.here | with_reducible apply Sel.there))))) (hs := put_f (a := a1) (c := c1) (L ++ keyP y.key) ad 2 (by decide) (by decide) (by omega) (by rw [List.length_append, keyP_len]; omega))) ?_
      rintro v Bs ⟨Cs, ⟨a2, c2, rfl, rfl⟩, rfl⟩
      rw [eL]
      refine do_ ?_
      refine go_ ?_
      exact s_entF (by repeat (first | exact Ent.nil | refine Ent.per (by repeat (first | with_reducible exact Sel.here | with_reducible apply Sel.there)) ?_ | refine Ent.cons (by repeat (first | with_reducible exact Sel.here | with_reducible apply Sel.there)) ?_)) (s_keep _ (nx (a2, c2) (by omega) (by omega)))
    · have : j = x.kids.length := by omega
      subst this
      have hBl : (nodB x).length ≤ 236 := by
        rw [eN, List.length_append]; omega
      have hBb : Bys (nodB x) := by
        rw [eN]
        exact bys_app hbI (bys_flatMap fun y _ => by unfold kdB; exact bys_app (keyP_bys _) (putN_lt _ _))
      rw [← eN]
      refine go_ ?_
      obtain ⟨lv, hlv⟩ : ∃ lv : Nat, x.level = (lv : Int) := ⟨x.level.toNat, by omega⟩
      have hho : ∀ kd : Nat, 3 ≤ kd → kd ≤ 4 → Head.ok ⟨kd, k, x.items.length + x.kids.length, lv, gn⟩ := fun kd h3 h4 => by
        refine ⟨by show 1 ≤ kd; omega, by show kd ≤ 6; omega, fun q hq => ?_⟩
        match q, hq with
        | 0, _ => show lv ≤ 8; omega
        | 1, _ => exact hk
        | 2, _ => show x.items.length + x.kids.length ≤ 65535; omega
        | 3, _ => exact hg
      have eH : ∀ kd : Nat, kd = (if x.level = 0 then 3 else 4) → nodH x k gn = ⟨kd, k, x.items.length + x.kids.length, lv, gn⟩ := fun kd h => by
        unfold nodH; rw [← h, hlv]; rfl
      rw [hlv]
      refine s_if (fun h3 => ?_) (fun h3 => ?_)
      · refine go_ ?_
        rw [eH 4 (by rw [if_neg (by omega)])]
        refine s_call (sp := (by repeat (first | exact Split.nil | apply Split.perx (by repeat (first | with_reducible exact Sel.here | with_reducible apply Sel.there)) (by infer_instance) | apply Split.cons (by repeat (first | with_reducible exact Sel.here | with_reducible apply Sel.there))))) (hs := seal_c (a := a) (c := c) ⟨4, k, x.items.length + x.kids.length, lv, gn⟩ (nodB x) (hho 4 (by decide) (by decide)) hBb hBl) (h := ?_)
        rintro v Bs ⟨r, rfl, rfl⟩
        refine go_ ?_
        exact s_rett (rs := [.tmp 6, .tmp 7]) (vs := [_, _]) Tryz.func44 rfl (by intro j; refine RVS.tmp _ rfl ?_; refine RVS.tmp _ rfl ?_; exact RVS.nil) rfl (⟨r, rfl, rfl⟩) (by repeat (first | exact Ent.nil | refine Ent.per (by repeat (first | with_reducible exact Sel.here | with_reducible apply Sel.there)) ?_ | refine Ent.cons (by repeat (first | with_reducible exact Sel.here | with_reducible apply Sel.there)) ?_))
      · refine go_ ?_
        rw [eH 3 (by rw [if_pos (by omega)])]
        refine s_call (sp := (by repeat (first | exact Split.nil | apply Split.perx (by repeat (first | with_reducible exact Sel.here | with_reducible apply Sel.there)) (by infer_instance) | apply Split.cons (by repeat (first | with_reducible exact Sel.here | with_reducible apply Sel.there))))) (hs := seal_c (a := a) (c := c) ⟨3, k, x.items.length + x.kids.length, lv, gn⟩ (nodB x) (hho 3 (by decide) (by decide)) hBb hBl) (h := ?_)
        rintro v Bs ⟨r, rfl, rfl⟩
        refine go_ ?_
        exact s_rett (rs := [.tmp 6, .tmp 7]) (vs := [_, _]) Tryz.func44 rfl (by intro j; refine RVS.tmp _ rfl ?_; refine RVS.tmp _ rfl ?_; exact RVS.nil) rfl (⟨r, rfl, rfl⟩) (by repeat (first | exact Ent.nil | refine Ent.per (by repeat (first | with_reducible exact Sel.here | with_reducible apply Sel.there)) ?_ | refine Ent.cons (by repeat (first | with_reducible exact Sel.here | with_reducible apply Sel.there)) ?_))
end Go.Proofs.YtgbbcpfnmkeijaaGreat
/- Keys and texts that are read as they were written. -/
namespace Go.Proofs.YtgbbcpfnmkeijaaGreat
open Go.Cam
set_option maxRecDepth 100000
theorem keyB_put {k : Key} (hk : k.ok = true) (r : List Nat) : keyB (keyP k ++ r) = k ∧ (((keyP k ++ r).drop 4).drop 1).drop 4 = r := by
  obtain ⟨h1, h2, h3, h4, h5, h6⟩ := of_decide_eq_true hk
  have e : keyP k ++ r = putN k.obj.toNat 4 ++ (putN k.kind.toNat 1 ++ (putN k.off.toNat 4 ++ r)) := by unfold keyP; simp
  rw [e]
  unfold keyB
  rw [take_app (putN_len _ _), drop_app (putN_len _ _), take_app (putN_len _ _), drop_app (putN_len _ _), take_app (putN_len _ _), drop_app (putN_len _ _), numB_putN, numB_putN, numB_putN]
  · refine ⟨?_, rfl⟩
    obtain ⟨a, b, c⟩ := k
    dsimp only at h1 h2 h3 ⊢
    rw [Int.toNat_of_nonneg h1, Int.toNat_of_nonneg h2, Int.toNat_of_nonneg h3]
  all_goals omega
theorem ktakeP_c {a : Option Addr} {c : Nat} (k : Key) (r : List Nat) (hk : k.ok = true) (hb : Bys r) (hl : r.length < 10000) : Ctr Tryz.prog 118 [.slice a (keyP k ++ r).length c] [BS (.slice a (keyP k ++ r).length c) (keyP k ++ r)]
    (fun v Bs => ∃ a' c', v = .tuple #[k.v, .slice a' r.length c', .int .i64 0] ∧ Bs = [BS (.slice a' r.length c') r]) := by
  have hlen : (keyP k ++ r).length = 9 + r.length := by rw [List.length_append, keyP_len]
  obtain ⟨e1, e2⟩ := keyB_put hk r
  refine (ktake_c (a := a) (c := c) (keyP k ++ r) (by omega) (bys_app (keyP_bys k) hb) (by omega)).view fun v Bs q => ?_
  rcases q with ⟨h, _⟩ | ⟨_, a', cap, rfl, rfl⟩
  · rw [e1, hk] at h; cases h
  · rw [e2]
    refine ⟨_, ⟨a', cap, ?_, rfl⟩, View.fz⟩
    rw [show ((numB ((keyP k ++ r).take 4) : Nat) : Int) = k.obj from congrArg Key.obj e1, show ((numB (((keyP k ++ r).drop 4).take 1) : Nat) : Int) = k.kind from congrArg Key.kind e1, show ((numB ((((keyP k ++ r).drop 4).drop 1).take 4) : Nat) : Int) = k.off from congrArg Key.off e1]
theorem SA.cap_set {sz n cap r : Nat} {a : Option Addr} {row : Nat → List Value} (hr : n ≤ r) (H M : Heap) (h : (SA none sz (.slice a n cap) n row).p H M) : (SA none sz (.slice a n r) n row).p H M := by
  obtain ⟨base, cap', e, hc, h1, h2⟩ := h
  cases e
  exact ⟨_, _, rfl, hr, h1, h2⟩
set_option maxHeartbeats 4000000 in
theorem ntakeP_c {a : Option Addr} {c : Nat} (x r : List Nat) (hx : x.length ≤ 255) (hb : Bys (x ++ r)) (hl : r.length < 10000) : Ctr Tryz.prog 134 [.slice a (putN x.length 1 ++ (x ++ r)).length c, .int .i64 1] [BS (.slice a (putN x.length 1 ++ (x ++ r)).length c) (putN x.length 1 ++ (x ++ r))]
    (fun v Bs => ∃ a1 c1 a2 c2, v = .tuple #[.slice a1 x.length c1, .slice a2 r.length c2, .int .i64 0] ∧ Bs = [BS (.slice a1 x.length c1) x, BS (.slice a2 r.length c2) r]) := by
  have hlen : (putN x.length 1 ++ (x ++ r)).length = 1 + (x.length + r.length) := by rw [List.length_append, List.length_append, putN_len]
  have ht : (putN x.length 1 ++ (x ++ r)).take 1 = putN x.length 1 := take_app (putN_len _ _)
  have hd : (putN x.length 1 ++ (x ++ r)).drop 1 = x ++ r := drop_app (putN_len _ _)
  have hnum : numB (putN x.length 1) = x.length := numB_putN _ _ (by omega)
  refine s_enter 32 [(0, _), (1, _)] (fun F => [_, F]) Tryz.func134 fun F => ?_
  refine go_ ?_
  refine s_call (sp := (by repeat (first | exact Split.nil | apply Split.perx (by repeat (first | with_reducible exact Sel.here | with_reducible apply Sel.there)) (by infer_instance) | apply Split.cons (by repeat (first | with_reducible exact Sel.here | with_reducible apply Sel.there))))) (hs := take_f (a := a) (c := c) (putN x.length 1 ++ (x ++ r)) 1 (by decide) (by decide) (by omega) (bys_app (putN_lt _ _) hb) (by omega)) (h := ?_)
  rintro v Bs ⟨a', cap, rfl, rfl⟩
  rw [ht, hd, hnum]
  refine go_ ?_
  rw [show decide (((x ++ r).length : Int) < (x.length : Int)) = false from decide_eq_false (by rw [List.length_append]; omega)]
  refine go_ ?_
  refine s_know (a := BS (.slice a' (x ++ r).length cap) (x ++ r)) (by repeat (first | with_reducible exact Sel.here | with_reducible apply Sel.there)) (fun H M q => SA.cap H M q) fun hcap => ?_
  have hxl : x.length ≤ (x ++ r).length := by rw [List.length_append]; omega
  refine s_part 0 x.length (Nat.zero_le _) hxl (a := a') (m := (x ++ r).length) (cap := cap) (by repeat (first | with_reducible exact Sel.here | with_reducible apply Sel.there)) ?_
  rw [sladdr0]
  refine s_open (B := BS (.slice a' x.length x.length) x) (fun H M q => SA.cap_set (Nat.le_refl _) H M (SA.cg (byR x) (fun i hi => by
    have hi : i < x.length := by omega
    unfold byR
    simp [List.getD_eq_getElem?_getD, List.getElem?_append_left hi]) H M q)) ?_
  refine s_part x.length (x ++ r).length hxl (Nat.le_refl _) (a := a') (m := (x ++ r).length) (cap := cap) (by repeat (first | with_reducible exact Sel.here | with_reducible apply Sel.there)) ?_
  rw [show (x ++ r).length - x.length = r.length by rw [List.length_append]; omega]
  refine s_open (B := BS (.slice (sladdr a' 1 x.length cap) r.length (cap - x.length)) r) (SA.cg (byR r) fun i hi => by
    unfold byR
    simp [List.getD_eq_getElem?_getD, List.getElem?_append_right]) ?_
  refine s_drawN 1 [.q 0, .q 1, .q 2, .q 3, .q 4, .q 5, .q 6, .q 7, .q 8, .q 9] ?_
  refine do_ ?_
  refine d_look rfl (lk_slc3 0 x.length x.length (a := a') (len := (x ++ r).length) (cap := cap) (Nat.zero_le _) (Nat.le_refl _) (by omega)) ?_
  refine do_ ?_
  refine d_look rfl (lk_slc x.length (x ++ r).length (a := a') (len := (x ++ r).length) (cap := cap) hxl hcap) ?_
  refine do_ ?_
  rw [sladdr0, show (x ++ r).length - x.length = r.length by rw [List.length_append]; omega]
  refine go_ ?_
  exact s_rett (rs := [.tmp 4, .tmp 5, .tmp 6]) (vs := [_, _, _]) Tryz.func134 rfl (by intro j; refine RVS.tmp _ rfl ?_; refine RVS.tmp _ rfl ?_; refine RVS.tmp _ rfl ?_; exact RVS.nil) rfl (⟨a', x.length, sladdr a' 1 x.length cap, cap - x.length, rfl, rfl⟩) (by repeat (first | exact Ent.nil | refine Ent.per (by repeat (first | with_reducible exact Sel.here | with_reducible apply Sel.there)) ?_ | refine Ent.cons (by repeat (first | with_reducible exact Sel.here | with_reducible apply Sel.there)) ?_))
theorem ttextP_c {a : Option Addr} {c : Nat} (x r : List Nat) (hx : x.length ≤ 255) (hb : Bys (x ++ r)) (hl : r.length < 10000) : Ctr Tryz.prog 119 [.slice a (putN x.length 1 ++ (x ++ r)).length c] [BS (.slice a (putN x.length 1 ++ (x ++ r)).length c) (putN x.length 1 ++ (x ++ r))]
    (fun v Bs => ∃ a2 c2, v = .tuple #[.string (strB x), .slice a2 r.length c2, .int .i64 0] ∧ Bs = [BS (.slice a2 r.length c2) r]) := by
  refine s_enter 18 [(0, _)] (fun F => [_, F]) Tryz.func119 fun F => ?_
  refine go_ ?_
  refine s_call (sp := (by repeat (first | exact Split.nil | apply Split.perx (by repeat (first | with_reducible exact Sel.here | with_reducible apply Sel.there)) (by infer_instance) | apply Split.cons (by repeat (first | with_reducible exact Sel.here | with_reducible apply Sel.there))))) (hs := ntakeP_c (a := a) (c := c) x r hx hb hl) (h := ?_)
  rintro v Bs ⟨a1, c1, a2, c2, rfl, rfl⟩
  refine go_ ?_
  refine s_look (lk_b2s (a := a1) (c := c1) (m := x.length) (s := x) (by repeat (first | with_reducible exact SelR.here | with_reducible apply SelR.there)) rfl) ?_
  refine go_ ?_
  exact s_rett (rs := [.tmp 2, .tmp 3, .tmp 4]) (vs := [_, _, _]) Tryz.func119 rfl (by intro j; refine RVS.tmp _ rfl ?_; refine RVS.tmp _ rfl ?_; refine RVS.tmp _ rfl ?_; exact RVS.nil) rfl (⟨a2, c2, rfl, rfl⟩) (by repeat (first | exact Ent.nil | refine Ent.per (by repeat (first | with_reducible exact Sel.here | with_reducible apply Sel.there)) ?_ | refine Ent.cons (by repeat (first | with_reducible exact Sel.here | with_reducible apply Sel.there)) ?_))
end Go.Proofs.YtgbbcpfnmkeijaaGreat
