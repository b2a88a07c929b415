/- The plain law of what a commit writes: how many blocks. -/
import Derived.Test.YtgbbcpfnmkeijaaFindCI
import Derived.Test.YtgbbcpfnmkeijaaFindBH
import Derived.Test.YtgbbcpfnmkeijaaCamAN
namespace Go.Proofs.Ytgbbcpfnmkeijaa
open Go.Cam
set_option maxRecDepth 100000
/-- a block that a commit writes -/
def pc (σ : Ct) (g : Int → Option OB) (i : Nat) : Bool := (g (i : Int)).isSome && decide (σ.now i ≠ 0)
theorem putsW_app (σ : Ct) (g : Int → Option OB) (gn : Nat) : ∀ xs ys : List Int, putsW σ g gn (xs ++ ys) = putsW σ g gn xs ++ putsW σ g gn ys
  | [], _ => rfl
  | k :: xs, ys => by rw [List.cons_append, putsW, putsW, putsW_app σ g gn xs ys, List.append_assoc]
theorem putsW_count (σ : Ct) (g : Int → Option OB) (gn : Nat) : ∀ n, (putsW σ g gn (keysN (bmap g) n)).length = (List.range n).countP (pc σ g)
  | 0 => rfl
  | n + 1 => by
    have ih := putsW_count σ g gn n
    have e : keysN (bmap g) (n + 1) = keysN (bmap g) n ++ [(n : Int)].filter fun k => (bmap g k).isSome := by
      unfold keysN
      rw [List.range_succ, List.map_append, List.filter_append]; rfl
    rw [e, putsW_app, List.length_append, ih, List.range_succ, List.countP_append, List.countP_singleton]
    congr 1
    unfold pc
    cases hg : g (n : Int) with
    | none =>
      have : (bmap g (n : Int)).isSome = false := by unfold bmap; rw [hg]; rfl
      rw [List.filter_cons_of_neg (by rw [this]; decide)]; rfl
    | some o =>
      have : (bmap g (n : Int)).isSome = true := by unfold bmap; rw [hg]; rfl
      rw [List.filter_cons_of_pos (by rw [this]), List.filter_nil, putsW, putsW, hg, List.append_nil]
      dsimp only
      by_cases h0 : σ.now n = 0
      · rw [if_pos (show σ.now (n : Int).toNat = 0 by rw [Int.toNat_natCast]; exact h0)]; simp [h0]
      · rw [if_neg (show ¬ σ.now (n : Int).toNat = 0 by rw [Int.toNat_natCast]; exact h0)]; simp [h0]
theorem countP_up {p q : Nat → Bool} {i : Nat} (h1 : ∀ j, j ≠ i → q j = p j) (h2 : p i = false) (h3 : q i = true) : ∀ n, (List.range n).countP q = (List.range n).countP p + (if i < n then 1 else 0)
  | 0 => rfl
  | n + 1 => by
    have ih := countP_up h1 h2 h3 n
    rw [List.range_succ, List.countP_append, List.countP_append, List.countP_singleton, List.countP_singleton, ih]
    by_cases e : n = i
    · subst e
      rw [h2, h3, if_neg (Nat.lt_irrefl _), if_pos (Nat.lt_succ_self _)]; simp
    · rw [h1 n e]
      by_cases h : i < n
      · rw [if_pos h, if_pos (show i < n + 1 by omega)]; omega
      · have h' : ¬ i < n + 1 := by omega
        rw [if_neg h, if_neg h', Nat.add_zero, Nat.add_zero]
/-- the first so many sectors may be counted, the others are free -/
structure Fr (σ : Ct) (u : Nat) : Prop where
  h : ∀ j, firstN σ.n + u ≤ j → j < σ.n → σ.now j = 0 ∧ σ.done j = 0
theorem Fr.some {σ : Ct} {u : Nat} (h : Fr σ u) (hu : firstN σ.n + u < σ.n) : ∃ i, σ.free? = some i ∧ firstN σ.n ≤ i ∧ i ≤ firstN σ.n + u ∧ σ.now i = 0 := by
  unfold Ct.free?
  exact firstFree_some (σ.n - firstN σ.n) (firstN σ.n) (firstN σ.n + u) (by omega) (by omega) (h.h _ (Nat.le_refl _) hu)
theorem Fr.next {σ : Ct} {u i : Nat} (h : Fr σ u) (hi : i ≤ firstN σ.n + u) (v : Nat) : Fr { σ with now := nset σ.now i v } (u + 1) :=
  ⟨fun j h1 h2 => by
    have h1 : firstN σ.n + (u + 1) ≤ j := h1
    show nset σ.now i v j = 0 ∧ _
    unfold nset; rw [if_neg (by omega)]; exact h.h j (by omega) h2⟩
theorem Fr.next2 {σ : Ct} {u i : Nat} (h : Fr σ u) (hi : i ≤ firstN σ.n + u) (v v2 : Nat) : Fr { σ with now := nset (nset σ.now i v) i v2 } (u + 1) :=
  ⟨fun j h1 h2 => by
    have h1 : firstN σ.n + (u + 1) ≤ j := h1
    show nset (nset σ.now i v) i v2 j = 0 ∧ _
    unfold nset; rw [if_neg (by omega), if_neg (by omega)]; exact h.h j (by omega) h2⟩
theorem BmOk.put {σ : Ct} {g : Int → Option OB} (h : BmOk σ g) {i : Nat} (hi : i < σ.n) {o : OB} (h1 : o.kind = 5) (h2 : o.l.length ≤ 128) (h3 : Bys o.l) (v : Nat) : BmOk { σ with now := nset σ.now i v } (bset g i o) := by
  refine ⟨fun k hk => ?_, fun k o' hk => ?_⟩
  · unfold bset at hk
    by_cases e : k = (i : Int)
    · subst e; exact ⟨by omega, by show (i : Int) < (σ.n : Nat); omega⟩
    · rw [if_neg e] at hk; exact h.k k hk
  · unfold bset at hk
    by_cases e : k = (i : Int)
    · rw [if_pos e] at hk; cases hk; exact ⟨h1, h2, h3⟩
    · rw [if_neg e] at hk; exact h.o k o' hk
theorem pc_eq {σ σ' : Ct} {g g' : Int → Option OB} {j : Nat} (h1 : g (j : Int) = g' (j : Int)) (h2 : σ.now j = σ'.now j) : pc σ g j = pc σ' g' j := by
  unfold pc; rw [h1, h2]
theorem bset_ne {g : Int → Option OB} {i j : Nat} (o : OB) (h : j ≠ i) : bset g (i : Int) o (j : Int) = g (j : Int) := by
  unfold bset; exact if_neg (by omega)
theorem bset_eq {g : Int → Option OB} {i : Nat} (o : OB) : bset g (i : Int) o (i : Int) = some o := by
  unfold bset; exact if_pos rfl
theorem nset_ne {f : Nat → Nat} {i j v : Nat} (h : j ≠ i) : nset f i v j = f j := by
  unfold nset; exact if_neg h
theorem nset_eq {f : Nat → Nat} {i v : Nat} : nset f i v i = v := by
  unfold nset; exact if_pos rfl
theorem pc_off {σ : Ct} {g : Int → Option OB} {i : Nat} (h : σ.now i = 0) : pc σ g i = false := by
  unfold pc; rw [h]; simp
theorem pc_put {σ : Ct} {g : Int → Option OB} {i : Nat} (hi : i < σ.n) (h0 : σ.now i = 0) (o : OB) : (List.range σ.n).countP (pc { σ with now := nset σ.now i 1 } (bset g i o)) = (List.range σ.n).countP (pc σ g) + 1 := by
  have h := countP_up (p := pc σ g) (q := pc { σ with now := nset σ.now i 1 } (bset g i o)) (i := i) (fun j hj => pc_eq (bset_ne o hj) (nset_ne hj)) (pc_off h0)
    (by unfold pc; rw [bset_eq]; show (true && decide (nset σ.now i 1 i ≠ 0)) = true; rw [nset_eq]; rfl) σ.n
  rw [h, if_pos hi]
theorem pc_unref {σ : Ct} {g : Int → Option OB} {i : Nat} (h0 : σ.now i = 0) (o : OB) : (List.range σ.n).countP (pc { σ with now := nset (nset σ.now i 1) i 0 } (bset g i o)) = (List.range σ.n).countP (pc σ g) := by
  congr 1
  funext j
  by_cases e : j = i
  · subst e
    rw [pc_off (σ := σ) h0, pc_off (by show nset _ _ _ _ = 0; rw [nset_eq])]
  · exact pc_eq (bset_ne o e) (by show nset _ _ _ _ = _; rw [nset_ne e, nset_ne e])
end Go.Proofs.Ytgbbcpfnmkeijaa
/- PoolSteps. -/
namespace Go.Proofs.Ytgbbcpfnmkeijaa
open Go.Cam
set_option maxRecDepth 100000
abbrev blR (w : Nat → Option Addr × Nat) (l : List (List Nat)) (i : Nat) : List Value := [.slice (w i).1 (l.getD i []).length (w i).2]
abbrev blF (w : Nat → Option Addr × Nat) (l : List (List Nat)) (i : Nat) : HP := BS (.slice (w i).1 (l.getD i []).length (w i).2) (l.getD i [])
abbrev boR (l : List Bool) (i : Nat) : List Value := [.bool (l.getD i false)]
theorem bls_of {H : Heap} {cs : List Value} (h : (Sh.slice 1 (.slice 1 (.int .u8))).ok H cs) : ∃ a c w, ∃ l : List (List Nat), cs = [.slice a l.length c] ∧ (∀ i, i < l.length → Bys (l.getD i [])) ∧ l.length < 9223372036854775808 ∧ ∀ M, (SA none 1 (.slice a l.length c) l.length (blR w l)).p H M ∧ (Fam l.length (blF w l)).p H M := by
  obtain ⟨a, len, cap, row, rfl, h1, h2, h3, h4⟩ := h
  have hm : maxLen = 9223372036854775807 := rfl
  haveI : Inhabited (List Nat × (Option Addr × Nat)) := ⟨([], (none, 0))⟩
  obtain ⟨xs, rfl, hxs⟩ := list_choose (α := List Nat × (Option Addr × Nat)) (φ := fun i x => row i = [.slice x.2.1 x.1.length x.2.2] ∧ Bys x.1 ∧ ∀ M, (BS (.slice x.2.1 x.1.length x.2.2) x.1).p H M) len fun i hi => by
    obtain ⟨a, c, l, e, h1, h2, h3⟩ := Sh.bytes (h4 i hi)
    exact ⟨(l, (a, c)), e, h1, h3⟩
  have hd : ∀ i, i < xs.length → (xs.map (·.1)).getD i [] = (xs.getD i default).1 := fun i hi => by simp [List.getD_eq_getElem?_getD, hi]
  refine ⟨a, cap, fun i => (xs.getD i default).2, xs.map (·.1), by simp, fun i hi => ?_, by simp; omega, fun M => ⟨?_, fun i hi => ?_⟩⟩
  · rw [List.length_map] at hi; rw [hd i hi]; exact (hxs i hi).2.1
  · rw [List.length_map]
    exact SA.cg _ (fun i hi => by rw [(hxs i hi).1]; unfold blR; rw [hd i hi]) H M (h3 M)
  · rw [List.length_map] at hi
    show (BS _ _).p H M
    rw [hd i hi]
    exact (hxs i hi).2.2 M
theorem bools_of {H : Heap} {cs : List Value} (h : (Sh.slice 1 .bool).ok H cs) : ∃ a c, ∃ l : List Bool, cs = [.slice a l.length c] ∧ l.length < 9223372036854775808 ∧ ∀ M, (SA none 1 (.slice a l.length c) l.length (boR l)).p H M := by
  obtain ⟨a, len, cap, row, rfl, h1, h2, h3, h4⟩ := h
  have hm : maxLen = 9223372036854775807 := rfl
  obtain ⟨l, rfl, hl⟩ := list_choose (α := Bool) (φ := fun i k => row i = [.bool k]) len fun i hi => h4 i hi
  exact ⟨a, cap, l, rfl, by omega, fun M => SA.cg _ (fun i hi => hl i hi) H M (h3 M)⟩
set_option maxHeartbeats 16000000 in
theorem steps_c (n : Int) (hn : -9223372036854775808 ≤ n ∧ n ≤ 9223372036854775807) {a : Option Addr} {c : Nat} (w : Nat → Option Addr × Nat) (l : List (List Nat)) (hl : l.length < 9223372036854775808) (hb : ∀ i, i < l.length → Bys (l.getD i [])) {e : Option Addr} {d : Nat} (gl : List Bool) (hgl : gl.length < 9223372036854775808) :
    Ctr Try.prog 9 [.int .i64 n, .slice a l.length c, .slice e gl.length d] [SA none 1 (.slice a l.length c) l.length (blR w l), Fam l.length (blF w l), SA none 1 (.slice e gl.length d) gl.length (boR gl)] (fun v Bs => v = .bool true ∧ Bs = []) := by
  refine s_enter 128 [(0, _), (1, _), (2, _)] (fun F => [_, _, _, F]) Try.func9 fun F => ?_
  refine go_ ?_
  refine s_call (sp := (by repeat (first | exact Split.nil | apply Split.perx (by repeat (first | with_reducible exact Sel.here | with_reducible apply Sel.there)) (by infer_instance) | apply Split.cons (by repeat (first | with_reducible exact Sel.here | with_reducible apply Sel.there))))) (hs := shown9_c) (h := ?_)
  rintro v Bs ⟨rfl, rfl⟩
  refine go_ ?_
  refine s_call (sp := (by repeat (first | exact Split.nil | apply Split.perx (by repeat (first | with_reducible exact Sel.here | with_reducible apply Sel.there)) (by infer_instance) | apply Split.cons (by repeat (first | with_reducible exact Sel.here | with_reducible apply Sel.there))))) (hs := kind_c n 300 hn (by decide) (by decide)) (h := ?_)
  rintro v Bs ⟨rfl, rfl⟩
  have hk := kindI_lt n (show 0 < 300 by decide)
  generalize hK : kindI n 300 = k0 at *
  refine go_ ?_
  rw [show (32 : Int) + (k0 : Int) = ((32 + k0 : Nat) : Int) by omega]
  generalize hKK : 32 + k0 = k at *
  have hk1 : 32 ≤ k := by omega
  have hk2 : k ≤ 331 := by omega
  refine s_call (sp := (by repeat (first | exact Split.nil | apply Split.perx (by repeat (first | with_reducible exact Sel.here | with_reducible apply Sel.there)) (by infer_instance) | apply Split.cons (by repeat (first | with_reducible exact Sel.here | with_reducible apply Sel.there))))) (hs := dnew_c k hk1 (by omega)) (h := ?_)
  rintro v Bs ⟨b, rfl, rfl⟩
  have hon0 : (Dr.new k).on := ⟨rfl, by show (-1 : Int) < 0; decide⟩
  obtain ⟨f1, f2, f3, f4⟩ := Dr.fmt_mnt hon0 (by exact hk1) (by show k ≤ 2048; omega)
  have f4' : (Dr.new k).fmt.steps ≤ 200 := by have : (Dr.new k).steps = 0 := rfl; omega
  refine go_ ?_
  refine s_call (sp := (by repeat (first | exact Split.nil | apply Split.perx (by repeat (first | with_reducible exact Sel.here | with_reducible apply Sel.there)) (by infer_instance) | apply Split.cons (by repeat (first | with_reducible exact Sel.here | with_reducible apply Sel.there))))) (hs := pformat_c b (Dr.new k) hon0 (by show 0 < _; decide) (by exact hk1) (by show k ≤ 2048; omega)) (h := ?_)
  rintro v Bs ⟨p, bc, m, rfl, rfl⟩
  have f2 : (Dr.new k).fmt.n = k := f2
  generalize (Dr.new k).fmt = σd at *
  have hfk : firstN k ≤ 8 := by unfold firstN areaN; omega
  refine go_ ?_
  refine s_obs0 ?_
  refine s_front (a := MG m (fun _ => none)) (by repeat (first | with_reducible exact Sel.here | with_reducible apply Sel.there)) (s_open (B := MG m (bmap fun _ => none)) (fun _ _ q => q) ?_)
  apply s_join (α := Nat × Ct × (Int → Option OB)) (fun q => [(8, .int .i64 k), (9, .pointer (some ⟨b, 0, none⟩)), (11, .pointer (some ⟨p, 0, none⟩)), (13, .int .i64 q.1), (96, .int .i64 k)])
    (fun q => [PoB p b 1 k bc m, CtA bc q.2.1, MG m (bmap q.2.2), Obs q.2.2, DrA b σd, F]) (fun q => q.2.1.n = k ∧ BmOk q.2.1 q.2.2 ∧ (List.range k).countP (pc q.2.1 q.2.2) = q.1 ∧ q.1 ≤ 8)
  case h =>
    intro K
    refine s_loop (fun q : Nat × Nat × Ct × (Int → Option OB) => [(1, .slice a l.length c), (2, .slice e gl.length d), (8, .int .i64 k), (9, .pointer (some ⟨b, 0, none⟩)), (11, .pointer (some ⟨p, 0, none⟩)), (13, .int .i64 q.2.1), (14, .int .i64 q.1)])
      (fun q => [PoB p b 1 k bc m, CtA bc q.2.2.1, MG m (bmap q.2.2.2), Obs q.2.2.2, DrA b σd, SA none 1 (.slice a l.length c) l.length (blR w l), Fam l.length (blF w l), SA none 1 (.slice e gl.length d) gl.length (boR gl), F])
      (fun q => q.1 ≤ 8 ∧ q.2.2.1.n = k ∧ BmOk q.2.2.1 q.2.2.2 ∧ Fr q.2.2.1 q.1 ∧ (List.range k).countP (pc q.2.2.1 q.2.2.2) = q.2.1 ∧ q.2.1 ≤ q.1) (fun q => 8 - q.1) (0, 0, Ct.new k, fun _ => none)
      ⟨Nat.zero_le _, rfl, ⟨fun _ h => absurd rfl h, fun _ _ h => nomatch h⟩, ⟨fun _ _ _ => ⟨rfl, rfl⟩⟩, by
        show (List.range k).countP (fun _ => false) = 0
        induction List.range k with
        | nil => rfl
        | cons x xs ih => rw [List.countP_cons, ih]; rfl, Nat.le_refl _⟩ (by repeat (first | exact Ent.nil | refine Ent.per (by repeat (first | with_reducible exact Sel.here | with_reducible apply Sel.there)) ?_ | refine Ent.cons (by repeat (first | with_reducible exact Sel.here | with_reducible apply Sel.there)) ?_)) ?_
    rintro ⟨i, mn, σ, g⟩ ⟨hi, hsn, hbm, hfr, hct, hmi⟩ next
    dsimp only at hi hsn hbm hfr hct hmi next ⊢
    refine go_ ?_
    cases h1 : decide ((i : Int) < (l.length : Int)) with
    | false =>
      refine go_ ?_
      exact s_entF (by repeat (first | exact Ent.nil | refine Ent.per (by repeat (first | with_reducible exact Sel.here | with_reducible apply Sel.there)) ?_ | refine Ent.cons (by repeat (first | with_reducible exact Sel.here | with_reducible apply Sel.there)) ?_)) (s_keep _ (K (mn, σ, g) ⟨hsn, hbm, hct, by dsimp only; omega⟩))
    | true =>
      have h1' := of_decide_eq_true h1
      have hi2 : i < l.length := by omega
      refine go_ ?_
      refine s_if (fun h2 => ?_) (fun h2 => ?_)
      · refine go_ ?_
        generalize hL : l.getD i [] = li at *
        generalize hW : w i = wi at *
        refine s_get i (F := blF w l) (m := l.length) (by repeat (first | with_reducible exact Sel.here | with_reducible apply Sel.there)) hi2 ?_
        refine s_open (B := BS (.slice wi.1 li.length wi.2) li) (fun _ _ q => by rw [← hW, ← hL]; exact q) ?_
        refine s_know (a := BS (.slice wi.1 li.length wi.2) li) (by repeat (first | with_reducible exact Sel.here | with_reducible apply Sel.there)) (fun H M q => SA.cap H M q) fun hcap => ?_
        have hli : Bys li := by rw [← hL]; exact hb i hi2
        apply s_join (α := Nat) (fun q => [(1, .slice a l.length c), (2, .slice e gl.length d), (8, .int .i64 k), (9, .pointer (some ⟨b, 0, none⟩)), (11, .pointer (some ⟨p, 0, none⟩)), (13, .int .i64 mn), (14, .int .i64 i), (15, .slice wi.1 (li.take 128).length q), (64, .pointer (some ⟨p, 0, none⟩)), (65, .slice wi.1 (li.take 128).length q)])
          (fun q => [BS (.slice wi.1 (li.take 128).length q) (li.take 128), PoB p b 1 k bc m, CtA bc σ, MG m (bmap g), Obs g, DrA b σd, SA none 1 (.slice a l.length c) l.length (blR w l), Fam l.length (blF w l), SA none 1 (.slice e gl.length d) gl.length (boR gl), F]) (fun _ => True)
        case h =>
          intro K2
          refine s_if (fun h3 => ?_) (fun h3 => ?_)
          · refine go_ ?_
            refine s_look (lk_slc (a := wi.1) (len := li.length) (cap := wi.2) 0 128 (by omega) (by omega)) ?_
            refine s_part 0 128 (by omega) (by omega) (a := wi.1) (m := li.length) (cap := wi.2) (by repeat (first | with_reducible exact Sel.here | with_reducible apply Sel.there)) ?_
            refine s_open (BS.part li 128 (by omega)) ?_
            refine go_ ?_
            rw [sladdr0, show (128 - 0 : Nat) = (li.take 128).length by rw [List.length_take]; omega]
            exact s_entF (by repeat (first | exact Ent.nil | refine Ent.per (by repeat (first | with_reducible exact Sel.here | with_reducible apply Sel.there)) ?_ | refine Ent.cons (by repeat (first | with_reducible exact Sel.here | with_reducible apply Sel.there)) ?_)) (s_keep _ (K2 _ trivial))
          · refine go_ ?_
            have et : li.take 128 = li := List.take_of_length_le (by omega)
            rw [et] at K2
            exact s_entF (by repeat (first | exact Ent.nil | refine Ent.per (by repeat (first | with_reducible exact Sel.here | with_reducible apply Sel.there)) ?_ | refine Ent.cons (by repeat (first | with_reducible exact Sel.here | with_reducible apply Sel.there)) ?_)) (s_keep _ (K2 _ trivial))
        case K =>
          intro cq _
          have hl8 : (li.take 128).length ≤ 128 := by rw [List.length_take]; omega
          have hbt : Bys (li.take 128) := fun x hx => hli x (List.mem_of_mem_take hx)
          generalize li.take 128 = lt at *
          obtain ⟨j, j1, j2, j3, j4⟩ := hfr.some (by rw [hsn]; omega)
          have hjn : j < σ.n := by rw [hsn] at j2 j3 ⊢; omega
          refine go_ ?_
          refine s_call (sp := (by repeat (first | exact Split.nil | apply Split.perx (by repeat (first | with_reducible exact Sel.here | with_reducible apply Sel.there)) (by infer_instance) | apply Split.cons (by repeat (first | with_reducible exact Sel.here | with_reducible apply Sel.there))))) (hs := pputB_c p b 1 k bc m σ g (a := wi.1) (c := cq) lt hl8) (h := ?_)
          rintro v Bs (⟨j', a2, c2, hj', rfl, rfl⟩ | ⟨hj', _⟩)
          · rw [j1] at hj'; cases hj'
            have q1 := hbm.put (o := ⟨5, lt, a2, c2⟩) hjn rfl hl8 hbt 1
            have q2 := hfr.next j3 1
            have q3 := pc_put (g := g) hjn j4 ⟨5, lt, a2, c2⟩
            have q4 := pc_unref (σ := σ) (g := g) j4 ⟨5, lt, a2, c2⟩
            rw [hsn, hct] at q3 q4
            refine go_ ?_
            cases h3 : decide ((i : Int) < (gl.length : Int)) with
            | false =>
              refine go_ ?_
              exact s_entF (by repeat (first | exact Ent.nil | refine Ent.per (by repeat (first | with_reducible exact Sel.here | with_reducible apply Sel.there)) ?_ | refine Ent.cons (by repeat (first | with_reducible exact Sel.here | with_reducible apply Sel.there)) ?_)) (s_keep _ (next (i + 1, mn + 1, { σ with now := nset σ.now j 1 }, bset g (j : Int) ⟨5, lt, a2, c2⟩) ⟨by dsimp only; omega, hsn, q1, q2, q3, by dsimp only; omega⟩ (by dsimp only; omega)))
            | true =>
              have h3' := of_decide_eq_true h3
              have hi3 : i < gl.length := by omega
              refine go_ ?_
              cases h4 : gl.getD i false with
              | false =>
                refine go_ ?_
                exact s_entF (by repeat (first | exact Ent.nil | refine Ent.per (by repeat (first | with_reducible exact Sel.here | with_reducible apply Sel.there)) ?_ | refine Ent.cons (by repeat (first | with_reducible exact Sel.here | with_reducible apply Sel.there)) ?_)) (s_keep _ (next (i + 1, mn + 1, { σ with now := nset σ.now j 1 }, bset g (j : Int) ⟨5, lt, a2, c2⟩) ⟨by dsimp only; omega, hsn, q1, q2, q3, by dsimp only; omega⟩ (by dsimp only; omega)))
              | true =>
                refine go_ ?_
                cases h5 : ((i : Int) == (l.length : Int) - 1) with
                | false =>
                  refine go_ ?_
                  exact s_entF (by repeat (first | exact Ent.nil | refine Ent.per (by repeat (first | with_reducible exact Sel.here | with_reducible apply Sel.there)) ?_ | refine Ent.cons (by repeat (first | with_reducible exact Sel.here | with_reducible apply Sel.there)) ?_)) (s_keep _ (next (i + 1, mn + 1, { σ with now := nset σ.now j 1 }, bset g (j : Int) ⟨5, lt, a2, c2⟩) ⟨by dsimp only; omega, hsn, q1, q2, q3, by dsimp only; omega⟩ (by dsimp only; omega)))
                | true =>
                  have e1 : nset σ.now j 1 j = 1 := nset_eq
                  refine go_ ?_
                  refine s_call (sp := (by repeat (first | exact Split.nil | apply Split.perx (by repeat (first | with_reducible exact Sel.here | with_reducible apply Sel.there)) (by infer_instance) | apply Split.cons (by repeat (first | with_reducible exact Sel.here | with_reducible apply Sel.there))))) (hs := punref_c p b 1 k bc m { σ with now := nset σ.now j 1 } j (by exact hjn) (by show nset σ.now j 1 j ≠ 0; rw [e1]; decide)) (h := ?_)
                  rintro v Bs ⟨rfl, rfl⟩
                  dsimp only
                  rw [e1]
                  refine go_ ?_
                  rw [show (mn : Int) + 1 - 1 = (mn : Int) by omega]
                  exact s_entF (by repeat (first | exact Ent.nil | refine Ent.per (by repeat (first | with_reducible exact Sel.here | with_reducible apply Sel.there)) ?_ | refine Ent.cons (by repeat (first | with_reducible exact Sel.here | with_reducible apply Sel.there)) ?_)) (s_keep _ (next (i + 1, mn, { σ with now := nset (nset σ.now j 1) j 0 }, bset g (j : Int) ⟨5, lt, a2, c2⟩) ⟨by dsimp only; omega, hsn, ⟨q1.k, q1.o⟩, hfr.next2 j3 1 0, q4, by dsimp only; omega⟩ (by dsimp only; omega)))
          · rw [j1] at hj'; cases hj'
      · refine go_ ?_
        exact s_entF (by repeat (first | exact Ent.nil | refine Ent.per (by repeat (first | with_reducible exact Sel.here | with_reducible apply Sel.there)) ?_ | refine Ent.cons (by repeat (first | with_reducible exact Sel.here | with_reducible apply Sel.there)) ?_)) (s_keep _ (K (mn, σ, g) ⟨hsn, hbm, hct, by dsimp only; omega⟩))
  case K =>
    rintro ⟨mn, σ, g⟩ ⟨hsn, hbm, hct, hmi⟩
    dsimp only at hsn hbm hct hmi ⊢
    obtain ⟨k1, k2, k3, k4, k5, k6⟩ := Dr.on_commit f1 σ g 2
    rw [hsn, putsW_count, hct] at k5
    have ha3 : areaN k ≤ 3 := by unfold areaN; omega
    have ha4 : areaN σ.n ≤ 3 := by rw [hsn]; exact ha3
    refine go_ ?_
    refine s_call (sp := (by repeat (first | exact Split.nil | apply Split.perx (by repeat (first | with_reducible exact Sel.here | with_reducible apply Sel.there)) (by infer_instance) | apply Split.cons (by repeat (first | with_reducible exact Sel.here | with_reducible apply Sel.there))))) (hs := rareas_c k (by omega)) (h := ?_)
    rintro v Bs ⟨rfl, rfl⟩
    refine go_ ?_
    refine s_call (sp := (by repeat (first | exact Split.nil | apply Split.perx (by repeat (first | with_reducible exact Sel.here | with_reducible apply Sel.there)) (by infer_instance) | apply Split.cons (by repeat (first | with_reducible exact Sel.here | with_reducible apply Sel.there))))) (hs := dsteps_c b σd) (h := ?_)
    rintro v Bs ⟨rfl, rfl⟩
    refine go_ ?_
    rw [← hsn]
    refine s_call (sp := (by repeat (first | exact Split.nil | apply Split.perx (by repeat (first | with_reducible exact Sel.here | with_reducible apply Sel.there)) (by infer_instance) | apply Split.cons (by repeat (first | with_reducible exact Sel.here | with_reducible apply Sel.there))))) (hs := pcommit_c p b 1 bc m σ g σd (by omega) (by omega) (by omega) (by omega) (by decide) hbm) (h := ?_)
    rintro v Bs (⟨_, rfl, rfl⟩ | ⟨h0, _⟩)
    · generalize hS : σd.commit σ g 2 = X at *
      generalize X.1 = σ2 at *
      have heq : ((σ2.steps : Nat) : Int) = (σd.steps : Int) + (mn : Int) + ((areaN k : Nat) : Int) + 3 := by omega
      refine go_ ?_
      refine s_call (sp := (by repeat (first | exact Split.nil | apply Split.perx (by repeat (first | with_reducible exact Sel.here | with_reducible apply Sel.there)) (by infer_instance) | apply Split.cons (by repeat (first | with_reducible exact Sel.here | with_reducible apply Sel.there))))) (hs := dsteps_c b σ2) (h := ?_)
      rintro v Bs ⟨rfl, rfl⟩
      refine go_ ?_
      have hbq : (((σ2.steps : Nat) : Int) == ((σd.steps + mn + areaN σ.n : Nat) : Int) + 3) = true := by
        rw [hsn, beq_iff_eq]; omega
      rw [hbq]
      refine go_ ?_
      refine s_call (sp := (by repeat (first | exact Split.nil | apply Split.perx (by repeat (first | with_reducible exact Sel.here | with_reducible apply Sel.there)) (by infer_instance) | apply Split.cons (by repeat (first | with_reducible exact Sel.here | with_reducible apply Sel.there))))) (hs := dcached_c b σ2 k6) (h := ?_)
      rintro v Bs ⟨rfl, rfl⟩
      refine go_ ?_
      refine s_call (sp := (by repeat (first | exact Split.nil | apply Split.perx (by repeat (first | with_reducible exact Sel.here | with_reducible apply Sel.there)) (by infer_instance) | apply Split.cons (by repeat (first | with_reducible exact Sel.here | with_reducible apply Sel.there))))) (hs := psuper_c p b (1 + 1) σ.n bc m) (h := ?_)
      rintro v Bs ⟨rfl, rfl⟩
      refine go_ ?_
      exact s_ret1 (rs := [.tmp 6]) Try.func9 rfl (by intro j; refine RVS.tmp _ rfl ?_; exact RVS.nil) (⟨rfl, rfl⟩) (by repeat (first | exact Ent.nil | refine Ent.per (by repeat (first | with_reducible exact Sel.here | with_reducible apply Sel.there)) ?_ | refine Ent.cons (by repeat (first | with_reducible exact Sel.here | with_reducible apply Sel.there)) ?_))
    · rw [k1] at h0; cases h0
end Go.Proofs.Ytgbbcpfnmkeijaa
