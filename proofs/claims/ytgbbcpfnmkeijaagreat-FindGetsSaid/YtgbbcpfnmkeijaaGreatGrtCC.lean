/- The keys of a map, sorted: from the library's contracts to the walk's. -/
import Derived.Test.YtgbbcpfnmkeijaaGreatGrtAR
import Derived.Test.YtgbbcpfnmkeijaaGreatGrtSh
import Derived.Test.YtgbbcpfnmkeijaaGreatGrtAE
import Derived.Test.YtgbbcpfnmkeijaaGreatGrtAM
import Derived.Test.YtgbbcpfnmkeijaaGreatGrtBB
import Derived.Test.YtgbbcpfnmkeijaaGreatCamAP
namespace Go.Proofs.YtgbbcpfnmkeijaaGreat
open Go.Cam Go.RowKit Go.Maps Go.Sort Go.Shelf
set_option maxRecDepth 100000
theorem Tryz.sortsA (m : Nat) : AnyZI.SortsIn Tryz.prog Tryz.sortedA_ren Fence.wide m :=
  ⟨fun blk off cap ss W hH hblk hsz => callsIn_wide.2 (AnyM.slices_Sort_int Tryz.sortA blk off cap ss W hH hblk hsz),
   fun p cap W => callsIn_wide.2 (AnyM.slices_Sort_int_none Tryz.sortA p cap W)⟩
theorem keys_c (m : Nat) : Ctr Tryz.prog 42 [.map (some m)] [] (fun v Bs => ∃ r, v = .func (.func 80) #[] #[.pointer (some ⟨r, 0, none⟩)] ∧ Bs = [Box r 81 [.map (some m)]]) := fun F H M s w0 w hh => by
  have h1 : Calls Tryz.prog 42 #[.map (some m)] w _ := (callsIn_wide (n := 5)).1 (AnyZI.keys_in Tryz.keysA Fence.wide 5 trivial rfl (some m) w)
  refine h1.mono fun e w' ⟨he, hw⟩ => ?_
  subst he; subst hw
  exact ⟨_, H, _, rfl, hh.push _, _, ⟨_, rfl, rfl⟩, own_new hh.fresh s⟩
/-- a map's keys, in order -/
def keysN (gm : Int → Option Value) (N : Nat) : List Int := ((List.range N).map fun (i : Nat) => (i : Int)).filter fun k => (gm k).isSome
theorem keysN_mem {gm : Int → Option Value} {N : Nat} (hk : ∀ k, gm k ≠ none → 0 ≤ k ∧ k < N) (k : Int) : k ∈ keysN gm N ↔ gm k ≠ none := by
  unfold keysN
  rw [List.mem_filter, List.mem_map]
  constructor
  · rintro ⟨_, h⟩ e; rw [e] at h; cases h
  · intro h
    obtain ⟨h1, h2⟩ := hk k h
    exact ⟨⟨k.toNat, List.mem_range.2 (by omega), by omega⟩, by cases hg : gm k with
      | none => exact absurd hg h
      | some v => rfl⟩
theorem keysN_lt (gm : Int → Option Value) (N : Nat) : (keysN gm N).Pairwise (· < ·) := by
  refine List.Pairwise.filter _ (List.pairwise_map.2 ?_)
  refine List.Pairwise.imp (R := (· < ·)) (fun h => by omega) List.pairwise_lt_range
theorem keysN_sorted {gm : Int → Option Value} {N : Nat} {es : List MapEntry} {ck : Nat} (hk : ∀ k, gm k ≠ none → 0 ≤ k ∧ k < N) (hw : WFM es ck gm) {ss : List Int} (hp : ss.Perm (es.map fun e => match e.key with | .int _ k => k | _ => 0)) :
    ss.mergeSort (fun x y => decide (x ≤ y)) = keysN gm N := by
  have hkey : ∀ e ∈ es, e.key = .int .i64 (match e.key with | .int _ k => k | _ => 0) := fun e he => by
    obtain ⟨k, h1, _⟩ := hw.key e he; rw [h1]
  have hnd : (es.map fun e => match e.key with | .int _ k => k | _ => 0).Nodup := by
    refine List.pairwise_map.2 (hw.kd.imp_of_mem fun {a b} ha hb hne e => hne ?_)
    rw [hkey a ha, hkey b hb, e]
  have hp2 : ss.Perm (keysN gm N) := by
    refine hp.trans ((List.perm_ext_iff_of_nodup hnd ((keysN_lt gm N).imp fun h => by omega)).2 fun k => ?_)
    rw [keysN_mem hk, List.mem_map]
    constructor
    · rintro ⟨e, he, rfl⟩
      obtain ⟨k, h1, h2⟩ := hw.key e he
      rw [h1]; dsimp only; rw [h2]; simp
    · intro h
      obtain ⟨v, hv⟩ : ∃ v, gm k = some v := by
        cases hg : gm k with
        | none => exact absurd hg h
        | some v => exact ⟨v, rfl⟩
      obtain ⟨e, he, h1⟩ := hw.all k v hv
      exact ⟨e, he, by rw [h1]⟩
  rw [show (fun x y : Int => decide (x ≤ y)) = leI from rfl, mergeSort_of_perm_i hp2]
  exact List.mergeSort_of_pairwise ((keysN_lt gm N).imp fun h => by simp [leI]; omega)
theorem flat_int (l : List Int) : flat l.length (pathR l) = l.map fun k => .int .i64 k := by
  unfold flat
  have : ∀ (n : Nat) (f : Nat → Value), (List.range n).flatMap (fun i => [f i]) = (List.range n).map f := fun n f => by
    induction List.range n with
    | nil => rfl
    | cons x xs ih => rw [List.flatMap_cons, ih]; rfl
  show ((List.range l.length).flatMap fun i => [Value.int .i64 (l.getD i 0)]) = _
  rw [this]
  apply List.ext_getElem?
  intro i
  by_cases h : i < l.length
  · simp [h, List.getD_eq_getElem?_getD]
  · simp [h]
theorem own_row {g e n cap : Nat} {cur : Array Value} {l : List Int} {H M : Heap} (hn : n = l.length) (hc : n ≤ cap) (hs : cur.size = cap) (ht : cur.toList.take n = l.map fun k => .int .i64 k) (h : (HP.own g (.cells cur e (0, 0))).p H M) : (SA (some e) 1 (.slice (some ⟨g, 0, none⟩) n cap) n (pathR l)).p H M := by
  subst hn
  have hf := flat_int l
  refine ⟨fun _ _ => rfl, ?_, .inr ⟨g, l.length, cap, cur, rfl, flat_len fun _ _ => rfl, by omega, hc, h, ?_⟩, _, _, rfl⟩
  · rw [hf, List.all_eq_true]
    intro u hu
    obtain ⟨k, _, rfl⟩ := List.mem_map.1 hu
    rfl
  · rw [hf, List.length_map, ht]
theorem sorted_c (m r : Nat) (gm : Int → Option Value) (N : Nat) (hN : N ≤ 1000000) (hk : ∀ k, gm k ≠ none → 0 ≤ k ∧ k < N) : Ctr Tryz.prog 41 [.func (.func 80) #[] #[.pointer (some ⟨r, 0, none⟩)]] [Box r 81 [.map (some m)], MG m gm]
    (fun v Bs => ∃ a c, v = .slice a (keysN gm N).length c ∧ Bs = [SO 3 1 (.slice a (keysN gm N).length c) (keysN gm N).length (pathR (keysN gm N)), MG m gm]) := fun F H M s w0 w hh => by
  have s2 : ((HP.own r (.cells #[.map (some m)] 81 (0, 0))).star (Sat [MG m gm, F])).p H M := s
  have hr := hh.m r _ (star_fst s2)
  have s3 := star_snd s2
  obtain ⟨es, ck, hm, hw⟩ := star_fst s3
  have hm2 := hh.m m _ hm
  have hlt : r < w.heap.size := by
    rcases Nat.lt_or_ge r w.heap.size with h | h
    · exact h
    · rw [Array.getElem?_eq_none h] at hr; cases hr
  have hcell : w.cell? ⟨r, 0, none⟩ = some (.map (some m)) := by
    unfold World.cell?
    simp only [hr]
    rfl
  have hwf : ∀ e ∈ es.toList, ∃ k : Int, e.key = .int .i64 k ∧ (Lit.int .i64 k).wf = true := fun e he => by
    obtain ⟨k, h1, h2⟩ := hw.key e he
    obtain ⟨h3, h4⟩ := hk k (by rw [h2]; simp)
    exact ⟨k, h1, by simp [Lit.wf, IntKind.min, IntKind.max, IntKind.signed, IntKind.bits]; omega⟩
  let R : Value → Option (DataW Unit × List MemPlace) := fun _ => some (.nil, [])
  have hu3 : Tryz.prog.underlying 3 = some (.int .i64) := by kernel_rfl
  have hrd : ∀ e ∈ es.toList, ∀ k, e.key = .int .i64 k → (Lit.int .i64 k).wf = true → WideElems.rd Tryz.prog 3 R e = some (.int .i64 k, .nil) := fun e he k h1 h2 => by
    unfold WideElems.rd
    have : keyOf Tryz.prog 3 e.key = some (.int .i64 k) := by
      unfold keyOf mapKey
      rw [hu3, h1]
      simp [h2]
    rw [this]; rfl
  have hnd : (es.toList.map (·.key)).Nodup := List.pairwise_map.2 hw.kd
  have hsz : es.size ≤ N := by
    have h1 : (es.toList.map fun e => match e.key with | .int _ k => k | _ => 0).Perm (keysN gm N) := by
      have := keysN_sorted hk hw (List.Perm.refl _)
      rw [← this]; exact (List.mergeSort_perm _ _).symm
    have h2 := h1.length_eq
    rw [List.length_map, Array.length_toList] at h2
    rw [h2]
    unfold keysN
    refine Nat.le_trans (List.length_filter_le _ _) ?_
    simp
  have hfit : WideElems.Fit Tryz.prog 3 R es ck := by
    refine ⟨?_, ⟨hw.bl, List.pairwise_map.2 hw.bd, hnd⟩, fun e he => ?_⟩
    · have : maxLen = 9223372036854775807 := rfl
      omega
    · obtain ⟨k, h1, h2⟩ := hwf e he
      exact ⟨_, hrd e he k h1 h2⟩
  have hown : w.ownsMap Tryz.prog 3 R m es.size (.map ((es.toList.map (WideElems.rg Tryz.prog 3 R)).foldr DataW.insert [])) := ⟨es, ck, hm2, hfit, Nat.le_refl _, rfl⟩
  have hperm : (intKeys (DataW.map ((es.toList.map (WideElems.rg Tryz.prog 3 R)).foldr DataW.insert []))).Perm (es.toList.map fun e => match e.key with | .int _ k => k | _ => 0) := by
    show List.Perm (List.map _ _) _
    refine ((Go.WideShapes.sorted_perm _).map _).trans ?_
    rw [List.map_map]
    refine List.Perm.of_eq (List.map_congr_left fun e he => ?_)
    obtain ⟨k, h1, h2⟩ := hwf e he
    show Go.intOf (WideElems.rg Tryz.prog 3 R e).1 = _
    rw [WideElems.rg_of (hrd e he k h1 h2), h1]; rfl
  have hDs : Maps.size (DataW.map ((es.toList.map (WideElems.rg Tryz.prog 3 R)).foldr DataW.insert [])) ≤ N := by
    have h1 := hperm.length_eq
    have h3 : (es.toList.map fun e => match e.key with | .int _ k => k | _ => 0).length = es.size := by rw [List.length_map, Array.length_toList]
    have h2 : (intKeys (DataW.map ((es.toList.map (WideElems.rg Tryz.prog 3 R)).foldr DataW.insert []))).length = ((es.toList.map (WideElems.rg Tryz.prog 3 R)).foldr DataW.insert []).length := List.length_map _
    show ((es.toList.map (WideElems.rg Tryz.prog 3 R)).foldr DataW.insert []).length ≤ N
    rw [← h2, h1, h3]; exact hsz
  have hseq := AnyZI.keys_gives (ρ := Tryz.keysA_ren) { Tryz.keysA with } Fence.wide 2 trivial rfl (by omega) r m es.size _ w hlt hcell hown
  have cS := AnyZI.sorted_in Tryz.sortedA Fence.wide 5 trivial trivial trivial trivial rfl (by omega) (Tryz.sortsA _) (enters_of Tryz.func79 (by kernel_rfl) rfl) 80 #[.pointer (some ⟨r, 0, none⟩)] trivial (enters_of Tryz.func80 (by kernel_rfl) rfl) _ _ (by have : maxLen = 9223372036854775807 := rfl; omega) (by omega) _ hseq
  change CallsIn _ _ Tryz.prog 41 _ _ _ at cS
  refine (callsIn_wide.1 cS).mono fun e w' ⟨v, ss, he, hS, hrow, hnil, hb⟩ => ?_
  subst he
  have hks := keysN_sorted hk hw (hS.trans hperm)
  have hlen : ss.length = (keysN gm N).length := by rw [← hks, List.length_mergeSort]
  rw [hks, hlen] at hrow
  obtain ⟨_, hrow⟩ := hrow
  have hold : ∀ c o, w.heap[c]? = some o → w'.heap[c]? = some o ∧ c < w.heap.size := fun c o h => by
    have hl : c < w.heap.size := by
      rcases Nat.lt_or_ge c w.heap.size with h2 | h2
      · exact h2
      · rw [Array.getElem?_eq_none h2] at h; cases h
    exact ⟨(hb.block c hl).trans h, hl⟩
  rcases hrow with ⟨rfl, hz⟩ | ⟨g, cap, cur, rfl, hg, hgb, h1, h2, h3, h4⟩
  · refine ⟨_, H, M, rfl, ⟨hb.os.trans hh.os, hb.tape.trans hh.tape, hb.output.trans hh.output, Nat.le_trans hh.size hb.size, fun c o h => (hold c o (hh.h c o h)).1, fun c o h => (hold c o (hh.m c o h)).1, hh.d⟩, _, ⟨none, 0, by rw [hz], rfl⟩, ?_⟩
    refine ⟨fun _ => none, M, (fun _ _ h => nomatch h), Le.refl _, fun _ => .inl rfl, .inr ⟨hz, none, by rw [hz]⟩, s3⟩
  · have hfr : Fresh H M g := by
      constructor
      · cases e : H g with
        | none => rfl
        | some o => have := (hold g o (hh.h g o e)).2; omega
      · cases e : M g with
        | none => rfl
        | some o => have := (hold g o (hh.m g o e)).2; omega
    refine ⟨_, H, upd M g (.cells cur 3 (0, 0)), rfl, ⟨hb.os.trans hh.os, hb.tape.trans hh.tape, hb.output.trans hh.output, Nat.le_trans hh.size hb.size, fun c o h => (hold c o (hh.h c o h)).1, fun c o h => ?_, fun c h => ?_⟩, _, ⟨some ⟨g, 0, none⟩, cap, rfl, rfl⟩, ?_⟩
    · by_cases e : c = g
      · subst e; rw [upd_same] at h; cases h; exact hgb
      · rw [upd_ne e] at h; exact (hold c o (hh.m c o h)).1
    · by_cases e : c = g
      · subst e; exact absurd hfr.1 h
      · rw [upd_ne e]; exact hh.d c h
    · refine star_monoL (C := SO 3 1 _ _ _) (fun H M h => .inl (own_row rfl h1 (by omega) (by rw [Nat.mul_one] at h4; exact h4) h)) (own_new hfr s3)
end Go.Proofs.YtgbbcpfnmkeijaaGreat
/- Small ones of the pool's laws: kind, most, Areas, Super, Free, Unref, Steps, Cached. -/
namespace Go.Proofs.YtgbbcpfnmkeijaaGreat
open Go.Cam
set_option maxRecDepth 100000
/-- which of so many kinds -/
def kindI (c : Int) (n : Nat) : Nat := (if c < 0 then -(c + 1) else c).toNat % n
theorem kindI_lt (c : Int) {n : Nat} (h : 0 < n) : kindI c n < n := Nat.mod_lt _ h
theorem most_c (k : Int) : Ctr Tryz.prog 54 [.int .i64 k] [] (fun v Bs => v = .tuple #[.int .i64 (if k = 5 then 128 else if k = 6 then 236 else 0), .bool (decide (k = 5 ∨ k = 6))] ∧ Bs = []) := by
  refine s_enter 9 [(0, _)] (fun F => [F]) Tryz.func54 fun F => ?_
  refine go_ ?_
  refine s_ieq (fun h => ?_) (fun h => ?_)
  · rw [if_pos h, decide_eq_true (p := k = 5 ∨ k = 6) (.inl h)]
    refine go_ ?_
    exact s_rett (rs := [.tmp 2, .tmp 3]) (vs := [_, _]) Tryz.func54 rfl (by intro j; refine RVS.tmp _ rfl ?_; refine RVS.tmp _ rfl ?_; exact RVS.nil) rfl (⟨rfl, rfl⟩) (by repeat (first | exact Ent.nil | refine Ent.per (by repeat (first | with_reducible exact Sel.here | with_reducible apply Sel.there)) ?_ | refine Ent.cons (by repeat (first | with_reducible exact Sel.here | with_reducible apply Sel.there)) ?_))
  · rw [if_neg h]
    refine go_ ?_
    refine s_ieq (fun h2 => ?_) (fun h2 => ?_)
    · rw [if_pos h2, decide_eq_true (p := k = 5 ∨ k = 6) (.inr h2)]
      refine go_ ?_
      exact s_rett (rs := [.tmp 2, .tmp 3]) (vs := [_, _]) Tryz.func54 rfl (by intro j; refine RVS.tmp _ rfl ?_; refine RVS.tmp _ rfl ?_; exact RVS.nil) rfl (⟨rfl, rfl⟩) (by repeat (first | exact Ent.nil | refine Ent.per (by repeat (first | with_reducible exact Sel.here | with_reducible apply Sel.there)) ?_ | refine Ent.cons (by repeat (first | with_reducible exact Sel.here | with_reducible apply Sel.there)) ?_))
    · rw [if_neg h2, decide_eq_false (p := k = 5 ∨ k = 6) (by omega)]
      refine go_ ?_
      exact s_rett (rs := [.tmp 2, .tmp 3]) (vs := [_, _]) Tryz.func54 rfl (by intro j; refine RVS.tmp _ rfl ?_; refine RVS.tmp _ rfl ?_; exact RVS.nil) rfl (⟨rfl, rfl⟩) (by repeat (first | exact Ent.nil | refine Ent.per (by repeat (first | with_reducible exact Sel.here | with_reducible apply Sel.there)) ?_ | refine Ent.cons (by repeat (first | with_reducible exact Sel.here | with_reducible apply Sel.there)) ?_))
theorem psuper_c (p b g n bc m : Nat) : Ctr Tryz.prog 26 [.pointer (some ⟨p, 0, none⟩)] [PoB p b g n bc m] (fun v Bs => v = .agg (supL g n).toArray ∧ Bs = [PoB p b g n bc m]) := by
  refine s_enter 7 [(0, _)] (fun F => [_, F]) Tryz.func26 fun F => ?_
  refine go_ ?_
  refine s_alloc fun r2 => ?_
  refine go_ ?_
  exact s_ret1 (rs := [.cell 2 68]) Tryz.func26 rfl (by intro j; refine RVS.cell _ _ rfl (by repeat (first | with_reducible exact Sel.here | with_reducible apply Sel.there)) (by rfl) ?_; exact RVS.nil) (⟨rfl, rfl⟩) (by repeat (first | exact Ent.nil | refine Ent.per (by repeat (first | with_reducible exact Sel.here | with_reducible apply Sel.there)) ?_ | refine Ent.cons (by repeat (first | with_reducible exact Sel.here | with_reducible apply Sel.there)) ?_))
/-- how many sectors are free -/
def Ct.freeN (σ : Ct) : Nat → Nat → Nat
  | 0, _ => 0
  | m + 1, i => (if σ.now i = 0 ∧ σ.done i = 0 then 1 else 0) + σ.freeN m (i + 1)
theorem Ct.freeN_le (σ : Ct) : ∀ m i, σ.freeN m i ≤ m
  | 0, _ => Nat.le_refl _
  | m + 1, i => by have := σ.freeN_le m (i + 1); rw [Ct.freeN]; split <;> omega
theorem cfreeN_c (b : Nat) (σ : Ct) (h1 : 32 ≤ σ.n) (h2 : σ.n ≤ 2048) : Ctr Tryz.prog 33 [.pointer (some ⟨b, 0, none⟩)] [CtA b σ] (fun v Bs => v = .int .i64 (σ.freeN (σ.n - firstN σ.n) (firstN σ.n) : Nat) ∧ Bs = [CtA b σ]) := by
  have hf := firstN_lt h1 h2
  refine s_enter 24 [(0, _)] (fun F => [_, F]) Tryz.func33 fun F => ?_
  refine go_ ?_
  refine s_opn (φ := CtOk σ) (X := Ct.parts b σ) (by repeat (first | with_reducible exact Sel.here | with_reducible apply Sel.there)) fun x hx => ?_
  unfold Ct.parts
  refine s_nrm ?_
  refine go_ ?_
  refine s_cls (φ := CtOk σ) (X := Ct.parts b σ) x hx (by repeat (first | exact Split.nil | apply Split.perx (by repeat (first | with_reducible exact Sel.here | with_reducible apply Sel.there)) (by infer_instance) | apply Split.cons (by repeat (first | with_reducible exact Sel.here | with_reducible apply Sel.there)))) ?_
  refine s_loop (fun q : Nat × Nat => [(0, .pointer (some ⟨b, 0, none⟩)), (3, .int .i64 q.2), (4, .int .i64 q.1)]) (fun _ => [CtA b σ, F]) (fun q => q.1 ≤ σ.n ∧ q.2 + σ.freeN (σ.n - q.1) q.1 = σ.freeN (σ.n - firstN σ.n) (firstN σ.n) ∧ q.2 ≤ q.1) (fun q => σ.n - q.1) (firstN σ.n, 0) ⟨by dsimp only; omega, by simp, Nat.zero_le _⟩ (by repeat (first | exact Ent.nil | refine Ent.per (by repeat (first | with_reducible exact Sel.here | with_reducible apply Sel.there)) ?_ | refine Ent.cons (by repeat (first | with_reducible exact Sel.here | with_reducible apply Sel.there)) ?_)) ?_
  rintro ⟨i, t⟩ ⟨hi, ht, hti⟩ next
  dsimp only at hi ht hti next ⊢
  refine go_ ?_
  refine s_opn (φ := CtOk σ) (X := Ct.parts b σ) (by repeat (first | with_reducible exact Sel.here | with_reducible apply Sel.there)) fun x hx => ?_
  unfold Ct.parts
  refine s_nrm ?_
  refine go_ ?_
  refine s_cls (φ := CtOk σ) (X := Ct.parts b σ) x hx (by repeat (first | exact Split.nil | apply Split.perx (by repeat (first | with_reducible exact Sel.here | with_reducible apply Sel.there)) (by infer_instance) | apply Split.cons (by repeat (first | with_reducible exact Sel.here | with_reducible apply Sel.there)))) ?_
  refine s_if (fun h => ?_) (fun h => ?_)
  · have hi2 : i < σ.n := by omega
    obtain ⟨m, hm⟩ : ∃ m, σ.n - i = m + 1 := ⟨σ.n - i - 1, by omega⟩
    rw [hm, Ct.freeN] at ht
    refine go_ ?_
    refine s_call (sp := (by repeat (first | exact Split.nil | apply Split.perx (by repeat (first | with_reducible exact Sel.here | with_reducible apply Sel.there)) (by infer_instance) | apply Split.cons (by repeat (first | with_reducible exact Sel.here | with_reducible apply Sel.there))))) (hs := cfree_c b σ i hi2) (h := ?_)
    rintro v Bs ⟨rfl, rfl⟩
    cases hd : decide (σ.now i = 0 ∧ σ.done i = 0) with
    | true =>
      rw [if_pos (of_decide_eq_true hd)] at ht
      refine go_ ?_
      exact s_entF (by repeat (first | exact Ent.nil | refine Ent.per (by repeat (first | with_reducible exact Sel.here | with_reducible apply Sel.there)) ?_ | refine Ent.cons (by repeat (first | with_reducible exact Sel.here | with_reducible apply Sel.there)) ?_)) (s_keep _ (next (i + 1, t + 1) ⟨by dsimp only; omega, by dsimp only; rw [show σ.n - (i + 1) = m by omega]; omega, by dsimp only; omega⟩ (by dsimp only; omega)))
    | false =>
      rw [if_neg (of_decide_eq_false hd)] at ht
      refine go_ ?_
      exact s_entF (by repeat (first | exact Ent.nil | refine Ent.per (by repeat (first | with_reducible exact Sel.here | with_reducible apply Sel.there)) ?_ | refine Ent.cons (by repeat (first | with_reducible exact Sel.here | with_reducible apply Sel.there)) ?_)) (s_keep _ (next (i + 1, t) ⟨by dsimp only; omega, by dsimp only; rw [show σ.n - (i + 1) = m by omega]; omega, by dsimp only; omega⟩ (by dsimp only; omega)))
  · rw [show σ.n - i = 0 by omega, Ct.freeN] at ht
    have : t = σ.freeN (σ.n - firstN σ.n) (firstN σ.n) := by omega
    subst this
    refine go_ ?_
    exact s_ret1 (rs := [.tmp 2]) Tryz.func33 rfl (by intro j; refine RVS.tmp _ rfl ?_; exact RVS.nil) (⟨rfl, rfl⟩) (by repeat (first | exact Ent.nil | refine Ent.per (by repeat (first | with_reducible exact Sel.here | with_reducible apply Sel.there)) ?_ | refine Ent.cons (by repeat (first | with_reducible exact Sel.here | with_reducible apply Sel.there)) ?_))
theorem pfree_c (p b g n bc m : Nat) (σ : Ct) (h1 : 32 ≤ σ.n) (h2 : σ.n ≤ 2048) : Ctr Tryz.prog 11 [.pointer (some ⟨p, 0, none⟩)] [PoB p b g n bc m, CtA bc σ] (fun v Bs => v = .int .i64 (σ.freeN (σ.n - firstN σ.n) (firstN σ.n) : Nat) ∧ Bs = [PoB p b g n bc m, CtA bc σ]) := by
  refine s_enter 8 [(0, _)] (fun F => [_, _, F]) Tryz.func11 fun F => ?_
  refine go_ ?_
  refine s_call (sp := (by repeat (first | exact Split.nil | apply Split.perx (by repeat (first | with_reducible exact Sel.here | with_reducible apply Sel.there)) (by infer_instance) | apply Split.cons (by repeat (first | with_reducible exact Sel.here | with_reducible apply Sel.there))))) (hs := cfreeN_c bc σ h1 h2) (h := ?_)
  rintro v Bs ⟨rfl, rfl⟩
  refine go_ ?_
  exact s_ret1 (rs := [.tmp 2]) Tryz.func11 rfl (by intro j; refine RVS.tmp _ rfl ?_; exact RVS.nil) (⟨rfl, rfl⟩) (by repeat (first | exact Ent.nil | refine Ent.per (by repeat (first | with_reducible exact Sel.here | with_reducible apply Sel.there)) ?_ | refine Ent.cons (by repeat (first | with_reducible exact Sel.here | with_reducible apply Sel.there)) ?_))
theorem cunref_c (b : Nat) (σ : Ct) (k : Nat) (hk : k < σ.n) (h0 : σ.now k ≠ 0) : Ctr Tryz.prog 64 [.pointer (some ⟨b, 0, none⟩), .int .i64 k] [CtA b σ] (fun v Bs => v = .tuple #[.int .i64 (σ.now k - 1 : Nat), .int .i64 0] ∧ Bs = [CtA b { σ with now := nset σ.now k (σ.now k - 1) }]) := by
  refine s_enter 26 [(0, _), (1, _)] (fun F => [_, F]) Tryz.func64 fun F => ?_
  refine go_ ?_
  refine s_call (sp := (by repeat (first | exact Split.nil | apply Split.perx (by repeat (first | with_reducible exact Sel.here | with_reducible apply Sel.there)) (by infer_instance) | apply Split.cons (by repeat (first | with_reducible exact Sel.here | with_reducible apply Sel.there))))) (hs := cget_c b σ k) (h := ?_)
  rintro v Bs ⟨rfl, rfl⟩
  rw [if_pos ⟨by omega, by omega⟩, Int.toNat_natCast]
  refine go_ ?_
  refine s_ieq (p := ((σ.now k : Nat) : Int)) (q := 0) (fun h => absurd h (by omega)) (fun h => ?_)
  refine go_ ?_
  refine s_opn (φ := CtOk σ) (X := Ct.parts b σ) (by repeat (first | with_reducible exact Sel.here | with_reducible apply Sel.there)) fun x hx => ?_
  unfold Ct.parts
  refine s_nrm ?_
  have hw := hx.w k
  refine go_ ?_
  rw [show ((σ.now k : Nat) : Int) - 1 = ((σ.now k - 1 : Nat) : Int) by omega]
  refine s_stepU (st_ste (i := k) (fo := 0) (m' := 1) (vs := [.int .i64 (σ.now k - 1 : Nat)]) (v := .slice x.a σ.n x.c) (by repeat (first | with_reducible exact Sel.here | with_reducible apply Sel.there))) ?_
  rintro _ _ rfl
  refine s_open (SA.cg (intR (nset σ.now k (σ.now k - 1))) fun q _ => intR_put σ.now k (σ.now k - 1) q) ?_
  refine go_ ?_
  have hv : nset σ.now k (σ.now k - 1) k = σ.now k - 1 := by unfold nset; rw [if_pos rfl]
  rw [hv]
  refine s_cls (φ := CtOk { σ with now := nset σ.now k (σ.now k - 1) }) (X := Ct.parts b { σ with now := nset σ.now k (σ.now k - 1) }) x ⟨hx.n1, hx.n2, fun q => by show nset _ _ _ _ ≤ _; unfold nset; split; omega; exact hx.w q, hx.d⟩ (by repeat (first | exact Split.nil | apply Split.perx (by repeat (first | with_reducible exact Sel.here | with_reducible apply Sel.there)) (by infer_instance) | apply Split.cons (by repeat (first | with_reducible exact Sel.here | with_reducible apply Sel.there)))) ?_
  exact s_rett (rs := [.tmp 4, .tmp 5]) (vs := [_, _]) Tryz.func64 rfl (by intro j; refine RVS.tmp _ rfl ?_; refine RVS.tmp _ rfl ?_; exact RVS.nil) rfl (⟨rfl, rfl⟩) (by repeat (first | exact Ent.nil | refine Ent.per (by repeat (first | with_reducible exact Sel.here | with_reducible apply Sel.there)) ?_ | refine Ent.cons (by repeat (first | with_reducible exact Sel.here | with_reducible apply Sel.there)) ?_))
theorem punref_c (p b g n bc m : Nat) (σ : Ct) (k : Nat) (hk : k < σ.n) (h0 : σ.now k ≠ 0) : Ctr Tryz.prog 25 [.pointer (some ⟨p, 0, none⟩), .int .i64 k] [PoB p b g n bc m, CtA bc σ] (fun v Bs => v = .tuple #[.int .i64 (σ.now k - 1 : Nat), .int .i64 0] ∧ Bs = [PoB p b g n bc m, CtA bc { σ with now := nset σ.now k (σ.now k - 1) }]) := by
  refine s_enter 14 [(0, _), (1, _)] (fun F => [_, _, F]) Tryz.func25 fun F => ?_
  refine go_ ?_
  refine s_call (sp := (by repeat (first | exact Split.nil | apply Split.perx (by repeat (first | with_reducible exact Sel.here | with_reducible apply Sel.there)) (by infer_instance) | apply Split.cons (by repeat (first | with_reducible exact Sel.here | with_reducible apply Sel.there))))) (hs := cunref_c bc σ k hk h0) (h := ?_)
  rintro v Bs ⟨rfl, rfl⟩
  refine go_ ?_
  exact s_rett (rs := [.tmp 4, .tmp 5]) (vs := [_, _]) Tryz.func25 rfl (by intro j; refine RVS.tmp _ rfl ?_; refine RVS.tmp _ rfl ?_; exact RVS.nil) rfl (⟨rfl, rfl⟩) (by repeat (first | exact Ent.nil | refine Ent.per (by repeat (first | with_reducible exact Sel.here | with_reducible apply Sel.there)) ?_ | refine Ent.cons (by repeat (first | with_reducible exact Sel.here | with_reducible apply Sel.there)) ?_))
end Go.Proofs.YtgbbcpfnmkeijaaGreat
/- Small ones of the pool's laws: Cached; node.Write of no node; ContainsFunc. -/
namespace Go.Proofs.YtgbbcpfnmkeijaaGreat
open Go.Cam
set_option maxRecDepth 100000
theorem nwrite0_c (k g : Int) : Ctr Tryz.prog 44 [.agg #[.int .i64 0, .slice none 0 0, .slice none 0 0], .int .i64 k, .int .i64 g] [] (fun v Bs => v = .tuple #[.slice none 0 0, .int .i64 1] ∧ Bs = []) := by
  refine s_enter 72 [(0, _), (1, _), (2, _)] (fun F => [F]) Tryz.func44 fun F => ?_
  refine go_ ?_
  refine s_box fun r3 => ?_
  refine s_nilN (sz := 4) (m := 0) (row := itemRow (fun _ => (none, 0)) []) rfl ?_
  refine s_nilN (sz := 4) (m := 0) (row := kidRow []) rfl ?_
  refine go_ ?_
  refine s_call (sp := (by repeat (first | exact Split.nil | apply Split.perx (by repeat (first | with_reducible exact Sel.here | with_reducible apply Sel.there)) (by infer_instance) | apply Split.cons (by repeat (first | with_reducible exact Sel.here | with_reducible apply Sel.there))))) (hs := nmay_c ⟨0, [], []⟩ (a := none) (b := none) (n := 0) (c := 0) (m := 0) (d := 0) (w := fun _ => (none, 0)) rfl rfl (by decide) (by decide) (fun i hi => absurd hi (Nat.not_lt_zero _))) (h := ?_)
  rintro v Bs ⟨rfl, rfl⟩
  rw [show nodeOk ⟨0, [], []⟩ = false by rfl]
  refine go_ ?_
  exact s_rett (rs := [.tmp 6, .tmp 7]) (vs := [_, _]) Tryz.func44 rfl (by intro j; refine RVS.tmp _ rfl ?_; refine RVS.tmp _ rfl ?_; exact RVS.nil) rfl (⟨rfl, rfl⟩) (by repeat (first | exact Ent.nil | refine Ent.per (by repeat (first | with_reducible exact Sel.here | with_reducible apply Sel.there)) ?_ | refine Ent.cons (by repeat (first | with_reducible exact Sel.here | with_reducible apply Sel.there)) ?_))
theorem nz_c (c : Nat) : Ctr Tryz.prog 60 [.int .u8 c] [] (fun v Bs => v = .bool (decide (c ≠ 0)) ∧ Bs = []) := by
  refine s_enter 5 [(0, _)] (fun F => [F]) Tryz.func60 fun F => ?_
  refine go_ ?_
  exact s_ret1 (rs := [.tmp 2]) Tryz.func60 rfl (by intro j; refine RVS.tmp _ rfl ?_; exact RVS.nil) (⟨by congr 1; by_cases h : c = 0 <;> simp [h], rfl⟩) (by repeat (first | exact Ent.nil | refine Ent.per (by repeat (first | with_reducible exact Sel.here | with_reducible apply Sel.there)) ?_ | refine Ent.cons (by repeat (first | with_reducible exact Sel.here | with_reducible apply Sel.there)) ?_))
theorem index0_c {a : Option Addr} {n c : Nat} {l : List Nat} (hn : l.length = n) (hz : ∀ i, i < n → l.getD i 0 = 0) (hl : n < 1000000) : Ctr Tryz.prog 95 [.slice a n c, .func (.func 60) #[] #[]] [SA none 1 (.slice a n c) n (byR l)] (fun v Bs => v = .int .i64 (-1) ∧ Bs = []) := by
  refine s_enter 19 [(0, _), (1, _)] (fun F => [_, F]) Tryz.func95 fun F => ?_
  refine go_ ?_
  refine s_loop (fun i : Nat => [(0, .slice a n c), (1, .func (.func 60) #[] #[]), (7, .int .i64 n), (8, .int .i64 i)]) (fun _ => [SA none 1 (.slice a n c) n (byR l), F]) (fun i => i ≤ n) (fun i => n - i) 0 (Nat.zero_le _) (by repeat (first | exact Ent.nil | refine Ent.per (by repeat (first | with_reducible exact Sel.here | with_reducible apply Sel.there)) ?_ | refine Ent.cons (by repeat (first | with_reducible exact Sel.here | with_reducible apply Sel.there)) ?_)) ?_
  intro i hi next
  refine go_ ?_
  refine s_if (fun h => ?_) (fun h => ?_)
  · have hi2 : i < n := by omega
    refine go_ ?_
    refine s_step (st_callC (sp := (by repeat (first | exact Split.nil | apply Split.perx (by repeat (first | with_reducible exact Sel.here | with_reducible apply Sel.there)) (by infer_instance) | apply Split.cons (by repeat (first | with_reducible exact Sel.here | with_reducible apply Sel.there))))) (hs := nz_c (l.getD i 0))) ?_
    rintro v Bs ⟨Cs, ⟨rfl, rfl⟩, rfl⟩
    rw [hz i hi2]
    refine go_ ?_
    exact s_entF (by repeat (first | exact Ent.nil | refine Ent.per (by repeat (first | with_reducible exact Sel.here | with_reducible apply Sel.there)) ?_ | refine Ent.cons (by repeat (first | with_reducible exact Sel.here | with_reducible apply Sel.there)) ?_)) (s_keep _ (next (i + 1) (by omega) (by omega)))
  · refine go_ ?_
    exact s_ret1 (rs := [.tmp 4]) Tryz.func95 rfl (by intro j; refine RVS.tmp _ rfl ?_; exact RVS.nil) (⟨rfl, rfl⟩) (by repeat (first | exact Ent.nil | refine Ent.per (by repeat (first | with_reducible exact Sel.here | with_reducible apply Sel.there)) ?_ | refine Ent.cons (by repeat (first | with_reducible exact Sel.here | with_reducible apply Sel.there)) ?_))
theorem contains0_c {a : Option Addr} {n c : Nat} {l : List Nat} (hn : l.length = n) (hz : ∀ i, i < n → l.getD i 0 = 0) (hl : n < 1000000) : Ctr Tryz.prog 59 [.slice a n c, .func (.func 60) #[] #[]] [SA none 1 (.slice a n c) n (byR l)] (fun v Bs => v = .bool false ∧ Bs = []) := by
  refine s_enter 9 [(0, _), (1, _)] (fun F => [_, F]) Tryz.func59 fun F => ?_
  refine go_ ?_
  refine s_call (sp := (by repeat (first | exact Split.nil | apply Split.perx (by repeat (first | with_reducible exact Sel.here | with_reducible apply Sel.there)) (by infer_instance) | apply Split.cons (by repeat (first | with_reducible exact Sel.here | with_reducible apply Sel.there))))) (hs := index0_c (a := a) (c := c) hn hz hl) (h := ?_)
  rintro v Bs ⟨rfl, rfl⟩
  refine go_ ?_
  exact s_ret1 (rs := [.tmp 4]) Tryz.func59 rfl (by intro j; refine RVS.tmp _ rfl ?_; exact RVS.nil) (⟨rfl, rfl⟩) (by repeat (first | exact Ent.nil | refine Ent.per (by repeat (first | with_reducible exact Sel.here | with_reducible apply Sel.there)) ?_ | refine Ent.cons (by repeat (first | with_reducible exact Sel.here | with_reducible apply Sel.there)) ?_))
/-! ### blocks of bytes that are laid down -/
structure OB where
  kind : Int
  l : List Nat
  a : Option Addr
  c : Nat
abbrev OB.v (o : OB) : Value := .agg #[.int .i64 o.kind, .int .i64 0, .slice none 0 0, .slice none 0 0, .slice o.a o.l.length o.c]
abbrev bmap (g : Int → Option OB) : Int → Option Value := fun k => (g k).map OB.v
def bset (g : Int → Option OB) (k : Int) (o : OB) : Int → Option OB := fun q => if q = k then some o else g q
theorem bmap_set (g : Int → Option OB) (k : Int) (o : OB) : mset (bmap g) k (some o.v) = bmap (bset g k o) := by
  funext q; unfold mset bmap bset; by_cases e : q = k
  · rw [if_pos e, if_pos e]; rfl
  · rw [if_neg e, if_neg e]
def Obs (g : Int → Option OB) : HP := ⟨fun H M => ∀ k o, g k = some o → (BS (.slice o.a o.l.length o.c) o.l).p H M, fun h1 h2 h k o e => (BS (.slice o.a o.l.length o.c) o.l).mono h1 h2 (h k o e)⟩
instance {g : Int → Option OB} : Per (Obs g) := ⟨fun h k o e => Per.h (A := BS (.slice o.a o.l.length o.c) o.l) (h k o e)⟩
section
variable {P : Program} {f : FuncId} {n : Nat} {R : Value → HP} {k : List It} {l : List (Nat × Value)} {As Bs Rs : List HP}
theorem s_obs0 (h : RunS P f n R k l (Obs (fun _ => none) :: As)) : RunS P f n R k l As := .mk fun H M s => h H M (per_add (M0 := M) (fun _ _ e => nomatch e) s)
theorem s_obsP {g : Int → Option OB} (kk : Int) (o : OB) (s0 : Sel (Obs g) As Bs) (s1 : Sel (BS (.slice o.a o.l.length o.c) o.l) Bs Rs) (h : RunS P f n R k l (Obs (bset g kk o) :: Rs)) : RunS P f n R k l As := .mk fun H M s => by
  have a0 := s0.hold s
  have t0 := star_snd (s0.sat s)
  have a1 := s1.hold t0
  refine h H M (per_add (M0 := M) (fun q y e => ?_) (star_snd (s1.sat t0)))
  unfold bset at e
  by_cases hq : q = kk
  · rw [if_pos hq] at e; cases e; exact a1
  · rw [if_neg hq] at e; exact a0 q y e
theorem s_obsG {g : Int → Option OB} (kk : Int) (o : OB) (s0 : Sel (Obs g) As Bs) (e : g kk = some o) (h : RunS P f n R k l (BS (.slice o.a o.l.length o.c) o.l :: As)) : RunS P f n R k l As := .mk fun H M s =>
  h H M (per_add (M0 := M) (s0.hold s kk o e) s)
end
set_option maxHeartbeats 4000000 in
theorem layB_c (p b gen n bc m : Nat) (σ : Ct) (gm : Int → Option Value) (o : OB) : Ctr Tryz.prog 55 [.pointer (some ⟨p, 0, none⟩), o.v] [PoB p b gen n bc m, CtA bc σ, MG m gm]
    (fun v Bs => (∃ i, σ.free? = some i ∧ v = .tuple #[.int .i64 (i : Nat), .int .i64 0] ∧ Bs = [PoB p b gen n bc m, CtA bc { σ with now := nset σ.now i 1 }, MG m (mset gm i (some o.v))]) ∨
      (σ.free? = none ∧ v = .tuple #[.int .i64 0, .int .i64 6] ∧ Bs = [PoB p b gen n bc m, CtA bc σ, MG m gm])) := by
  refine s_enter 26 [(0, _), (1, _)] (fun F => [_, _, _, F]) Tryz.func55 fun F => ?_
  refine go_ ?_
  refine s_box fun r3 => ?_
  refine go_ ?_
  refine s_call (sp := (by repeat (first | exact Split.nil | apply Split.perx (by repeat (first | with_reducible exact Sel.here | with_reducible apply Sel.there)) (by infer_instance) | apply Split.cons (by repeat (first | with_reducible exact Sel.here | with_reducible apply Sel.there))))) (hs := calloc_c bc σ) (h := ?_)
  rintro v Bs (⟨i, hf, rfl, rfl⟩ | ⟨hf, rfl, rfl⟩)
  · refine go_ ?_
    refine s_front (a := MG m gm) (by repeat (first | with_reducible exact Sel.here | with_reducible apply Sel.there)) ?_
    refine s_drawN 1 [.q 0, .q 1, .q 2, .q 3, .q 4, .q 5, .s 6] ?_
    refine do_ ?_
    refine d_stepU rfl (st_mu (by repeat (first | with_reducible exact Sel.here | with_reducible apply Sel.there))) ?_
    rintro v Bs rfl
    refine do_ ?_
    refine go_ ?_
    exact s_rett (rs := [.tmp 4, .tmp 5]) (vs := [_, _]) Tryz.func55 rfl (by intro j; refine RVS.tmp _ rfl ?_; refine RVS.tmp _ rfl ?_; exact RVS.nil) rfl (.inl ⟨i, hf, rfl, rfl⟩) (by repeat (first | exact Ent.nil | refine Ent.per (by repeat (first | with_reducible exact Sel.here | with_reducible apply Sel.there)) ?_ | refine Ent.cons (by repeat (first | with_reducible exact Sel.here | with_reducible apply Sel.there)) ?_))
  · refine go_ ?_
    exact s_rett (rs := [.tmp 4, .tmp 5]) (vs := [_, _]) Tryz.func55 rfl (by intro j; refine RVS.tmp _ rfl ?_; refine RVS.tmp _ rfl ?_; exact RVS.nil) rfl (.inr ⟨hf, rfl, rfl⟩) (by repeat (first | exact Ent.nil | refine Ent.per (by repeat (first | with_reducible exact Sel.here | with_reducible apply Sel.there)) ?_ | refine Ent.cons (by repeat (first | with_reducible exact Sel.here | with_reducible apply Sel.there)) ?_))
set_option maxHeartbeats 4000000 in
theorem pputB_c (p b gen n bc m : Nat) (σ : Ct) (g : Int → Option OB) {a : Option Addr} {c : Nat} (l : List Nat) (hl : l.length ≤ 128) : Ctr Tryz.prog 22 [.pointer (some ⟨p, 0, none⟩), .int .i64 5, .slice a l.length c] [PoB p b gen n bc m, CtA bc σ, MG m (bmap g), Obs g, BS (.slice a l.length c) l]
    (fun v Bs => (∃ i a' c', σ.free? = some i ∧ v = .tuple #[.int .i64 (i : Nat), .int .i64 0] ∧ Bs = [PoB p b gen n bc m, CtA bc { σ with now := nset σ.now i 1 }, MG m (bmap (bset g i ⟨5, l, a', c'⟩)), Obs (bset g i ⟨5, l, a', c'⟩)]) ∨
      (σ.free? = none ∧ v = .tuple #[.int .i64 0, .int .i64 6] ∧ Bs = [PoB p b gen n bc m, CtA bc σ, MG m (bmap g), Obs g])) := by
  refine s_enter 31 [(0, _), (1, _), (2, _)] (fun F => [_, _, _, _, _, F]) Tryz.func22 fun F => ?_
  refine go_ ?_
  refine s_call (sp := (by repeat (first | exact Split.nil | apply Split.perx (by repeat (first | with_reducible exact Sel.here | with_reducible apply Sel.there)) (by infer_instance) | apply Split.cons (by repeat (first | with_reducible exact Sel.here | with_reducible apply Sel.there))))) (hs := most_c 5) (h := ?_)
  rintro v Bs ⟨rfl, rfl⟩
  refine go_ ?_
  refine s_if (fun h => ?_) (fun h => ?_)
  · exact absurd h (by show ¬ (l.length : Int) > 128; omega)
  refine go_ ?_
  refine s_call (sp := (by repeat (first | exact Split.nil | apply Split.perx (by repeat (first | with_reducible exact Sel.here | with_reducible apply Sel.there)) (by infer_instance) | apply Split.cons (by repeat (first | with_reducible exact Sel.here | with_reducible apply Sel.there))))) (hs := cloneB_c (A := BS (.slice a l.length c) l) (a := a) (n := l.length) (c := c) (row := byR l) (by rw [flat_byR']; exact bcl_one l) (by omega)) (h := ?_)
  rintro v Bs ⟨a', c', rfl, rfl⟩
  refine go_ ?_
  refine s_fzO (e := 5) (v := .slice a' l.length c') (by repeat (first | with_reducible exact Sel.here | with_reducible apply Sel.there)) ?_
  refine s_open (B := BS (.slice a' l.length c') l) (fun _ _ q => q) ?_
  refine s_call (sp := (by repeat (first | exact Split.nil | apply Split.perx (by repeat (first | with_reducible exact Sel.here | with_reducible apply Sel.there)) (by infer_instance) | apply Split.cons (by repeat (first | with_reducible exact Sel.here | with_reducible apply Sel.there))))) (hs := layB_c p b gen n bc m σ (bmap g) ⟨5, l, a', c'⟩) (h := ?_)
  rintro v Bs (⟨i, hf, rfl, rfl⟩ | ⟨hf, rfl, rfl⟩)
  · refine go_ ?_
    rw [bmap_set]
    refine s_obsP (g := g) (i : Int) ⟨5, l, a', c'⟩ (by repeat (first | with_reducible exact Sel.here | with_reducible apply Sel.there)) (by repeat (first | with_reducible exact Sel.here | with_reducible apply Sel.there)) ?_
    exact s_rett (rs := [.tmp 6, .tmp 7]) (vs := [_, _]) Tryz.func22 rfl (by intro j; refine RVS.tmp _ rfl ?_; refine RVS.tmp _ rfl ?_; exact RVS.nil) rfl (.inl ⟨i, a', c', hf, rfl, rfl⟩) (by repeat (first | exact Ent.nil | refine Ent.per (by repeat (first | with_reducible exact Sel.here | with_reducible apply Sel.there)) ?_ | refine Ent.cons (by repeat (first | with_reducible exact Sel.here | with_reducible apply Sel.there)) ?_))
  · refine go_ ?_
    exact s_rett (rs := [.tmp 6, .tmp 7]) (vs := [_, _]) Tryz.func22 rfl (by intro j; refine RVS.tmp _ rfl ?_; refine RVS.tmp _ rfl ?_; exact RVS.nil) rfl (.inr ⟨hf, rfl, rfl⟩) (by repeat (first | exact Ent.nil | refine Ent.per (by repeat (first | with_reducible exact Sel.here | with_reducible apply Sel.there)) ?_ | refine Ent.cons (by repeat (first | with_reducible exact Sel.here | with_reducible apply Sel.there)) ?_))
end Go.Proofs.YtgbbcpfnmkeijaaGreat
