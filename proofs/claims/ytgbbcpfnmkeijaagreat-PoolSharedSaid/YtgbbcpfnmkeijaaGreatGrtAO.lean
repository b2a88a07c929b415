/- The numbers at which the library's contracts of maps.Keys, slices.Sorted and slices.Sort stand in this program (printed by the kit's tool). -/
import Derived.Shelf.SlIterI.Nil
import Derived.Shelf.SortM.Plain
import Derived.Shelf.SortM.SortNone
import Derived.Ground.GgzProg
import Derived.Ground.SlgmProg
import Derived.Test.YtgbbcpfnmkeijaaGreatProg
import Derived.Test.YtgbbcpfnmkeijaaGreatGrtAN
import Derived.Test.YtgbbcpfnmkeijaaGreatGrtAH
namespace Go.Proofs.YtgbbcpfnmkeijaaGreat
open Go.Shelf
def Tryz.keysA_ren : Go.Shelf.Ren := ⟨fun | 7 => 42 | 10 => 80 | n => n, fun | 23 => 81 | 26 => 3 | 3 => 90 | 28 => 103 | 0 => 0 | 27 => 102 | 33 => 118 | 4 => 4 | n => n, fun | n => n⟩
theorem Tryz.keysA : Go.Proofs.SlLaysZI.n7 Tryz.prog Tryz.keysA_ren := {
  mixed := by kernel_rfl
  f7 := ⟨Tryz.f42.name, by decide, Tryz.func42.trans (congrArg some (by kernel_rfl))⟩
  f10 := ⟨Tryz.f80.name, by decide, Tryz.func80.trans (congrArg some (by kernel_rfl))⟩
  t0 := Tryz.underlying0
  a0 := Tryz.isAgg0
  z0 := Tryz.sizeOf0
  v0 := Tryz.zeroValue0
  t4 := Tryz.underlying4
  a4 := Tryz.isAgg4
  z4 := Tryz.sizeOf4
  v4 := Tryz.zeroValue4
  t23 := Tryz.underlying81
  a23 := Tryz.isAgg81
  z23 := Tryz.sizeOf81
  v23 := Tryz.zeroValue81
  t26 := Tryz.underlying3
  a26 := Tryz.isAgg3
  z26 := Tryz.sizeOf3
  v26 := Tryz.zeroValue3
  t27 := Tryz.underlying102
  a27 := Tryz.isAgg102
  z27 := Tryz.sizeOf102
  v27 := Tryz.zeroValue102
  t28 := Tryz.underlying103
  a28 := Tryz.isAgg103
  z28 := Tryz.sizeOf103
  v28 := Tryz.zeroValue103
  t33 := Tryz.underlying118
  a33 := Tryz.isAgg118
  z33 := Tryz.sizeOf118
  v33 := Tryz.zeroValue118 }
def Tryz.sortedA_ren : Go.Shelf.Ren := ⟨fun | 6 => 41 | 8 => 78 | 9 => 79 | 11 => 109 | 13 => 111 | 12 => 110 | 23 => 130 | 24 => 131 | 14 => 121 | 15 => 122 | 16 => 123 | 17 => 124 | 18 => 125 | 19 => 126 | 20 => 127 | 21 => 128 | 22 => 129 | 25 => 136 | 26 => 137 | 27 => 138 | 28 => 139 | 29 => 140 | 30 => 114 | 31 => 142 | n => n, fun | 26 => 3 | 28 => 103 | 24 => 31 | 0 => 0 | 3 => 3 | 37 => 185 | 48 => 155 | 50 => 188 | 4 => 4 | 40 => 200 | 39 => 199 | 45 => 116 | 5 => 5 | 9 => 9 | 51 => 215 | 55 => 219 | 57 => 222 | 58 => 135 | 33 => 118 | n => n, fun | n => n⟩
theorem Tryz.sortedA : Go.Proofs.SlLaysZI.n6 Tryz.prog Tryz.sortedA_ren := {
  mixed := by kernel_rfl
  f6 := ⟨Tryz.f41.name, by decide, Tryz.func41.trans (congrArg some (by kernel_rfl))⟩
  f8 := ⟨Tryz.f78.name, by decide, Tryz.func78.trans (congrArg some (by kernel_rfl))⟩
  f11 := ⟨Tryz.f109.name, by decide, Tryz.func109.trans (congrArg some (by kernel_rfl))⟩
  t0 := Tryz.underlying0
  a0 := Tryz.isAgg0
  z0 := Tryz.sizeOf0
  v0 := Tryz.zeroValue0
  t24 := Tryz.underlying31
  a24 := Tryz.isAgg31
  z24 := Tryz.sizeOf31
  v24 := Tryz.zeroValue31
  t26 := Tryz.underlying3
  a26 := Tryz.isAgg3
  z26 := Tryz.sizeOf3
  v26 := Tryz.zeroValue3
  t28 := Tryz.underlying103
  a28 := Tryz.isAgg103
  z28 := Tryz.sizeOf103
  v28 := Tryz.zeroValue103
  i26 := by kernel_rfl }
def Tryz.sortA_ren : Go.Shelf.Ren := ⟨fun | 5 => 79 | 8 => 111 | 7 => 110 | 19 => 130 | 20 => 131 | 10 => 121 | 11 => 122 | 12 => 123 | 13 => 124 | 14 => 125 | 15 => 126 | 16 => 127 | 17 => 128 | 18 => 129 | 30 => 136 | 31 => 137 | 32 => 138 | 33 => 139 | 34 => 140 | 35 => 114 | 40 => 142 | n => n, fun | 23 => 31 | 25 => 3 | 3 => 3 | 32 => 185 | 22 => 31 | 0 => 0 | 44 => 155 | 46 => 188 | 4 => 4 | 36 => 200 | 35 => 199 | 41 => 116 | 5 => 5 | 9 => 9 | 53 => 215 | 57 => 219 | 63 => 222 | 64 => 135 | n => n, fun | n => n⟩
theorem Tryz.sortA : Go.Proofs.SlLaysM.n5 Tryz.prog Tryz.sortA_ren := {
  mixed := by kernel_rfl
  f5 := ⟨Tryz.f79.name, by decide, Tryz.func79.trans (congrArg some (by kernel_rfl))⟩
  f7 := ⟨Tryz.f110.name, by decide, Tryz.func110.trans (congrArg some (by kernel_rfl))⟩
  f8 := Tryz.func111.trans (congrArg some (by kernel_rfl))
  f10 := ⟨Tryz.f121.name, by decide, Tryz.func121.trans (congrArg some (by kernel_rfl))⟩
  f11 := ⟨Tryz.f122.name, by decide, Tryz.func122.trans (congrArg some (by kernel_rfl))⟩
  f12 := ⟨Tryz.f123.name, by decide, Tryz.func123.trans (congrArg some (by kernel_rfl))⟩
  f13 := ⟨Tryz.f124.name, by decide, Tryz.func124.trans (congrArg some (by kernel_rfl))⟩
  f14 := ⟨Tryz.f125.name, by decide, Tryz.func125.trans (congrArg some (by kernel_rfl))⟩
  f15 := ⟨Tryz.f126.name, by decide, Tryz.func126.trans (congrArg some (by kernel_rfl))⟩
  f16 := ⟨Tryz.f127.name, by decide, Tryz.func127.trans (congrArg some (by kernel_rfl))⟩
  f17 := ⟨Tryz.f128.name, by decide, Tryz.func128.trans (congrArg some (by kernel_rfl))⟩
  f18 := ⟨Tryz.f129.name, by decide, Tryz.func129.trans (congrArg some (by kernel_rfl))⟩
  f19 := Tryz.func130.trans (congrArg some (by kernel_rfl))
  f20 := Tryz.func131.trans (congrArg some (by kernel_rfl))
  f30 := ⟨Tryz.f136.name, by decide, Tryz.func136.trans (congrArg some (by kernel_rfl))⟩
  f31 := Tryz.func137.trans (congrArg some (by kernel_rfl))
  f32 := Tryz.func138.trans (congrArg some (by kernel_rfl))
  f33 := ⟨Tryz.f139.name, by decide, Tryz.func139.trans (congrArg some (by kernel_rfl))⟩
  f34 := ⟨Tryz.f140.name, by decide, Tryz.func140.trans (congrArg some (by kernel_rfl))⟩
  f35 := ⟨Tryz.f114.name, by decide, Tryz.func114.trans (congrArg some (by kernel_rfl))⟩
  f40 := ⟨Tryz.f142.name, by decide, Tryz.func142.trans (congrArg some (by kernel_rfl))⟩
  t0 := Tryz.underlying0
  a0 := Tryz.isAgg0
  z0 := Tryz.sizeOf0
  v0 := Tryz.zeroValue0
  t3 := Tryz.underlying3
  a3 := Tryz.isAgg3
  z3 := Tryz.sizeOf3
  v3 := Tryz.zeroValue3
  t4 := Tryz.underlying4
  a4 := Tryz.isAgg4
  z4 := Tryz.sizeOf4
  v4 := Tryz.zeroValue4
  t5 := Tryz.underlying5
  a5 := Tryz.isAgg5
  z5 := Tryz.sizeOf5
  v5 := Tryz.zeroValue5
  t9 := Tryz.underlying9
  a9 := Tryz.isAgg9
  z9 := Tryz.sizeOf9
  v9 := Tryz.zeroValue9
  t22 := Tryz.underlying31
  a22 := Tryz.isAgg31
  z22 := Tryz.sizeOf31
  v22 := Tryz.zeroValue31
  t23 := Tryz.underlying31
  a23 := Tryz.isAgg31
  z23 := Tryz.sizeOf31
  v23 := Tryz.zeroValue31
  t25 := Tryz.underlying3
  a25 := Tryz.isAgg3
  z25 := Tryz.sizeOf3
  v25 := Tryz.zeroValue3
  t32 := Tryz.underlying185
  a32 := Tryz.isAgg185
  z32 := Tryz.sizeOf185
  v32 := Tryz.zeroValue185
  t35 := Tryz.underlying199
  a35 := Tryz.isAgg199
  z35 := Tryz.sizeOf199
  v35 := Tryz.zeroValue199
  t36 := Tryz.underlying200
  a36 := Tryz.isAgg200
  z36 := Tryz.sizeOf200
  v36 := Tryz.zeroValue200
  t41 := Tryz.underlying116
  a41 := Tryz.isAgg116
  z41 := Tryz.sizeOf116
  v41 := Tryz.zeroValue116
  t44 := Tryz.underlying155
  a44 := Tryz.isAgg155
  z44 := Tryz.sizeOf155
  v44 := Tryz.zeroValue155
  t46 := Tryz.underlying188
  a46 := Tryz.isAgg188
  z46 := Tryz.sizeOf188
  v46 := Tryz.zeroValue188
  t53 := Tryz.underlying215
  a53 := Tryz.isAgg215
  z53 := Tryz.sizeOf215
  v53 := Tryz.zeroValue215
  t57 := Tryz.underlying219
  a57 := Tryz.isAgg219
  z57 := Tryz.sizeOf219
  v57 := Tryz.zeroValue219
  t63 := Tryz.underlying222
  a63 := Tryz.isAgg222
  z63 := Tryz.sizeOf222
  v63 := Tryz.zeroValue222
  t64 := Tryz.underlying135
  a64 := Tryz.isAgg135
  z64 := Tryz.sizeOf135
  v64 := Tryz.zeroValue135 }
end Go.Proofs.YtgbbcpfnmkeijaaGreat
/- The keys of a map, sorted: from the library's contracts to the walk's. -/
namespace Go.Proofs.YtgbbcpfnmkeijaaGreat
open Go.Cam Go.RowKit Go.Maps Go.Sort Go.Shelf
set_option maxRecDepth 100000
theorem Tryz.sortsA (m : Nat) : AnyZI.SortsIn Tryz.prog Tryz.sortedA_ren Fence.wide m :=
  ⟨fun blk off cap ss W hH hblk hsz => callsIn_wide.2 (AnyM.slices_Sort_int Tryz.sortA blk off cap ss W hH hblk hsz),
   fun p cap W => callsIn_wide.2 (AnyM.slices_Sort_int_none Tryz.sortA p cap W)⟩
theorem keys_c (m : Nat) : Ctr Tryz.prog 42 [.map (some m)] [] (fun v Bs => ∃ r, v = .func (.func 80) #[] #[.pointer (some ⟨r, 0, none⟩)] ∧ Bs = [Box r 81 [.map (some m)]]) := fun F H M s w0 w hh => by
  have h1 : Calls Tryz.prog 42 #[.map (some m)] w _ := (callsIn_wide (n := 5)).1 (AnyZI.keys_in Tryz.keysA Fence.wide 5 trivial rfl (some m) w)
  refine h1.mono fun e w' ⟨he, hw⟩ => ?_
  subst he; subst hw
  exact ⟨_, H, _, rfl, hh.push _, _, ⟨_, rfl, rfl⟩, own_new hh.fresh s⟩
/-- a map's keys, in order -/
def keysN (gm : Int → Option Value) (N : Nat) : List Int := ((List.range N).map fun (i : Nat) => (i : Int)).filter fun k => (gm k).isSome
theorem keysN_mem {gm : Int → Option Value} {N : Nat} (hk : ∀ k, gm k ≠ none → 0 ≤ k ∧ k < N) (k : Int) : k ∈ keysN gm N ↔ gm k ≠ none := by
  unfold keysN
  rw [List.mem_filter, List.mem_map]
  constructor
  · rintro ⟨_, h⟩ e; rw [e] at h; cases h
  · intro h
    obtain ⟨h1, h2⟩ := hk k h
    exact ⟨⟨k.toNat, List.mem_range.2 (by omega), by omega⟩, by cases hg : gm k with
      | none => exact absurd hg h
      | some v => rfl⟩
theorem keysN_lt (gm : Int → Option Value) (N : Nat) : (keysN gm N).Pairwise (· < ·) := by
  refine List.Pairwise.filter _ (List.pairwise_map.2 ?_)
  refine List.Pairwise.imp (R := (· < ·)) (fun h => by omega) List.pairwise_lt_range
theorem keysN_sorted {gm : Int → Option Value} {N : Nat} {es : List MapEntry} {ck : Nat} (hk : ∀ k, gm k ≠ none → 0 ≤ k ∧ k < N) (hw : WFM es ck gm) {ss : List Int} (hp : ss.Perm (es.map fun e => match e.key with | .int _ k => k | _ => 0)) :
    ss.mergeSort (fun x y => decide (x ≤ y)) = keysN gm N := by
  have hkey : ∀ e ∈ es, e.key = .int .i64 (match e.key with | .int _ k => k | _ => 0) := fun e he => by
    obtain ⟨k, h1, _⟩ := hw.key e he; rw [h1]
  have hnd : (es.map fun e => match e.key with | .int _ k => k | _ => 0).Nodup := by
    refine List.pairwise_map.2 (hw.kd.imp_of_mem fun {a b} ha hb hne e => hne ?_)
    rw [hkey a ha, hkey b hb, e]
  have hp2 : ss.Perm (keysN gm N) := by
    refine hp.trans ((List.perm_ext_iff_of_nodup hnd ((keysN_lt gm N).imp fun h => by omega)).2 fun k => ?_)
    rw [keysN_mem hk, List.mem_map]
    constructor
    · rintro ⟨e, he, rfl⟩
      obtain ⟨k, h1, h2⟩ := hw.key e he
      rw [h1]; dsimp only; rw [h2]; simp
    · intro h
      obtain ⟨v, hv⟩ : ∃ v, gm k = some v := by
        cases hg : gm k with
        | none => exact absurd hg h
        | some v => exact ⟨v, rfl⟩
      obtain ⟨e, he, h1⟩ := hw.all k v hv
      exact ⟨e, he, by rw [h1]⟩
  rw [show (fun x y : Int => decide (x ≤ y)) = leI from rfl, mergeSort_of_perm_i hp2]
  exact List.mergeSort_of_pairwise ((keysN_lt gm N).imp fun h => by simp [leI]; omega)
theorem flat_int (l : List Int) : flat l.length (pathR l) = l.map fun k => .int .i64 k := by
  unfold flat
  have : ∀ (n : Nat) (f : Nat → Value), (List.range n).flatMap (fun i => [f i]) = (List.range n).map f := fun n f => by
    induction List.range n with
    | nil => rfl
    | cons x xs ih => rw [List.flatMap_cons, ih]; rfl
  show ((List.range l.length).flatMap fun i => [Value.int .i64 (l.getD i 0)]) = _
  rw [this]
  apply List.ext_getElem?
  intro i
  by_cases h : i < l.length
  · simp [h, List.getD_eq_getElem?_getD]
  · simp [h]
theorem own_row {g e n cap : Nat} {cur : Array Value} {l : List Int} {H M : Heap} (hn : n = l.length) (hc : n ≤ cap) (hs : cur.size = cap) (ht : cur.toList.take n = l.map fun k => .int .i64 k) (h : (HP.own g (.cells cur e (0, 0))).p H M) : (SA (some e) 1 (.slice (some ⟨g, 0, none⟩) n cap) n (pathR l)).p H M := by
  subst hn
  have hf := flat_int l
  refine ⟨fun _ _ => rfl, ?_, .inr ⟨g, l.length, cap, cur, rfl, flat_len fun _ _ => rfl, by omega, hc, h, ?_⟩, _, _, rfl⟩
  · rw [hf, List.all_eq_true]
    intro u hu
    obtain ⟨k, _, rfl⟩ := List.mem_map.1 hu
    rfl
  · rw [hf, List.length_map, ht]
theorem sorted_c (m r : Nat) (gm : Int → Option Value) (N : Nat) (hN : N ≤ 1000000) (hk : ∀ k, gm k ≠ none → 0 ≤ k ∧ k < N) : Ctr Tryz.prog 41 [.func (.func 80) #[] #[.pointer (some ⟨r, 0, none⟩)]] [Box r 81 [.map (some m)], MG m gm]
    (fun v Bs => ∃ a c, v = .slice a (keysN gm N).length c ∧ Bs = [SO 3 1 (.slice a (keysN gm N).length c) (keysN gm N).length (pathR (keysN gm N)), MG m gm]) := fun F H M s w0 w hh => by
  have s2 : ((HP.own r (.cells #[.map (some m)] 81 (0, 0))).star (Sat [MG m gm, F])).p H M := s
  have hr := hh.m r _ (star_fst s2)
  have s3 := star_snd s2
  obtain ⟨es, ck, hm, hw⟩ := star_fst s3
  have hm2 := hh.m m _ hm
  have hlt : r < w.heap.size := by
    rcases Nat.lt_or_ge r w.heap.size with h | h
    · exact h
    · rw [Array.getElem?_eq_none h] at hr; cases hr
  have hcell : w.cell? ⟨r, 0, none⟩ = some (.map (some m)) := by
    unfold World.cell?
    simp only [hr]
    rfl
  have hwf : ∀ e ∈ es.toList, ∃ k : Int, e.key = .int .i64 k ∧ (Lit.int .i64 k).wf = true := fun e he => by
    obtain ⟨k, h1, h2⟩ := hw.key e he
    obtain ⟨h3, h4⟩ := hk k (by rw [h2]; simp)
    exact ⟨k, h1, by simp [Lit.wf, IntKind.min, IntKind.max, IntKind.signed, IntKind.bits]; omega⟩
  let R : Value → Option (DataW Unit × List MemPlace) := fun _ => some (.nil, [])
  have hu3 : Tryz.prog.underlying 3 = some (.int .i64) := by kernel_rfl
  have hrd : ∀ e ∈ es.toList, ∀ k, e.key = .int .i64 k → (Lit.int .i64 k).wf = true → WideElems.rd Tryz.prog 3 R e = some (.int .i64 k, .nil) := fun e he k h1 h2 => by
    unfold WideElems.rd
    have : keyOf Tryz.prog 3 e.key = some (.int .i64 k) := by
      unfold keyOf mapKey
      rw [hu3, h1]
      simp [h2]
    rw [this]; rfl
  have hnd : (es.toList.map (·.key)).Nodup := List.pairwise_map.2 hw.kd
  have hsz : es.size ≤ N := by
    have h1 : (es.toList.map fun e => match e.key with | .int _ k => k | _ => 0).Perm (keysN gm N) := by
      have := keysN_sorted hk hw (List.Perm.refl _)
      rw [← this]; exact (List.mergeSort_perm _ _).symm
    have h2 := h1.length_eq
    rw [List.length_map, Array.length_toList] at h2
    rw [h2]
    unfold keysN
    refine Nat.le_trans (List.length_filter_le _ _) ?_
    simp
  have hfit : WideElems.Fit Tryz.prog 3 R es ck := by
    refine ⟨?_, ⟨hw.bl, List.pairwise_map.2 hw.bd, hnd⟩, fun e he => ?_⟩
    · have : maxLen = 9223372036854775807 := rfl
      omega
    · obtain ⟨k, h1, h2⟩ := hwf e he
      exact ⟨_, hrd e he k h1 h2⟩
  have hown : w.ownsMap Tryz.prog 3 R m es.size (.map ((es.toList.map (WideElems.rg Tryz.prog 3 R)).foldr DataW.insert [])) := ⟨es, ck, hm2, hfit, Nat.le_refl _, rfl⟩
  have hperm : (intKeys (DataW.map ((es.toList.map (WideElems.rg Tryz.prog 3 R)).foldr DataW.insert []))).Perm (es.toList.map fun e => match e.key with | .int _ k => k | _ => 0) := by
    show List.Perm (List.map _ _) _
    refine ((Go.WideShapes.sorted_perm _).map _).trans ?_
    rw [List.map_map]
    refine List.Perm.of_eq (List.map_congr_left fun e he => ?_)
    obtain ⟨k, h1, h2⟩ := hwf e he
    show Go.intOf (WideElems.rg Tryz.prog 3 R e).1 = _
    rw [WideElems.rg_of (hrd e he k h1 h2), h1]; rfl
  have hDs : Maps.size (DataW.map ((es.toList.map (WideElems.rg Tryz.prog 3 R)).foldr DataW.insert [])) ≤ N := by
    have h1 := hperm.length_eq
    have h3 : (es.toList.map fun e => match e.key with | .int _ k => k | _ => 0).length = es.size := by rw [List.length_map, Array.length_toList]
    have h2 : (intKeys (DataW.map ((es.toList.map (WideElems.rg Tryz.prog 3 R)).foldr DataW.insert []))).length = ((es.toList.map (WideElems.rg Tryz.prog 3 R)).foldr DataW.insert []).length := List.length_map _
    show ((es.toList.map (WideElems.rg Tryz.prog 3 R)).foldr DataW.insert []).length ≤ N
    rw [← h2, h1, h3]; exact hsz
  have hseq := AnyZI.keys_gives (ρ := Tryz.keysA_ren) { Tryz.keysA with } Fence.wide 2 trivial rfl (by omega) r m es.size _ w hlt hcell hown
  have cS := AnyZI.sorted_in Tryz.sortedA Fence.wide 5 trivial trivial trivial trivial rfl (by omega) (Tryz.sortsA _) (enters_of Tryz.func79 (by kernel_rfl) rfl) 80 #[.pointer (some ⟨r, 0, none⟩)] trivial (enters_of Tryz.func80 (by kernel_rfl) rfl) _ _ (by have : maxLen = 9223372036854775807 := rfl; omega) (by omega) _ hseq
  change CallsIn _ _ Tryz.prog 41 _ _ _ at cS
  refine (callsIn_wide.1 cS).mono fun e w' ⟨v, ss, he, hS, hrow, hnil, hb⟩ => ?_
  subst he
  have hks := keysN_sorted hk hw (hS.trans hperm)
  have hlen : ss.length = (keysN gm N).length := by rw [← hks, List.length_mergeSort]
  rw [hks, hlen] at hrow
  obtain ⟨_, hrow⟩ := hrow
  have hold : ∀ c o, w.heap[c]? = some o → w'.heap[c]? = some o ∧ c < w.heap.size := fun c o h => by
    have hl : c < w.heap.size := by
      rcases Nat.lt_or_ge c w.heap.size with h2 | h2
      · exact h2
      · rw [Array.getElem?_eq_none h2] at h; cases h
    exact ⟨(hb.block c hl).trans h, hl⟩
  rcases hrow with ⟨rfl, hz⟩ | ⟨g, cap, cur, rfl, hg, hgb, h1, h2, h3, h4⟩
  · refine ⟨_, H, M, rfl, ⟨hb.os.trans hh.os, hb.tape.trans hh.tape, hb.output.trans hh.output, Nat.le_trans hh.size hb.size, fun c o h => (hold c o (hh.h c o h)).1, fun c o h => (hold c o (hh.m c o h)).1, hh.d⟩, _, ⟨none, 0, by rw [hz], rfl⟩, ?_⟩
    refine ⟨fun _ => none, M, (fun _ _ h => nomatch h), Le.refl _, fun _ => .inl rfl, .inr ⟨hz, none, by rw [hz]⟩, s3⟩
  · have hfr : Fresh H M g := by
      constructor
      · cases e : H g with
        | none => rfl
        | some o => have := (hold g o (hh.h g o e)).2; omega
      · cases e : M g with
        | none => rfl
        | some o => have := (hold g o (hh.m g o e)).2; omega
    refine ⟨_, H, upd M g (.cells cur 3 (0, 0)), rfl, ⟨hb.os.trans hh.os, hb.tape.trans hh.tape, hb.output.trans hh.output, Nat.le_trans hh.size hb.size, fun c o h => (hold c o (hh.h c o h)).1, fun c o h => ?_, fun c h => ?_⟩, _, ⟨some ⟨g, 0, none⟩, cap, rfl, rfl⟩, ?_⟩
    · by_cases e : c = g
      · subst e; rw [upd_same] at h; cases h; exact hgb
      · rw [upd_ne e] at h; exact (hold c o (hh.m c o h)).1
    · by_cases e : c = g
      · subst e; exact absurd hfr.1 h
      · rw [upd_ne e]; exact hh.d c h
    · refine star_monoL (C := SO 3 1 _ _ _) (fun H M h => .inl (own_row rfl h1 (by omega) (by rw [Nat.mul_one] at h4; exact h4) h)) (own_new hfr s3)
end Go.Proofs.YtgbbcpfnmkeijaaGreat
/- The reference's keys: Less, May, Next. -/
namespace Go.Proofs.YtgbbcpfnmkeijaaGreat
open Go.Cam
set_option maxRecDepth 100000
theorem Key.lt_iff (a b : Key) : a.lt b = true ↔ a.obj < b.obj ∨ (a.obj = b.obj ∧ (a.kind < b.kind ∨ (a.kind = b.kind ∧ a.off < b.off))) := by
  unfold Key.lt
  rw [decide_eq_true_eq]
  simp only [orI, cmpI]
  repeat' split
  all_goals omega
theorem rless_c (a b : Key) : Ctr Tryz.prog 75 [a.v, b.v] [] (fun r Bs => r = .bool (a.lt b) ∧ Bs = []) := by
  have hl := a.lt_iff b
  refine s_enter 30 [(0, _), (1, _)] (fun F => [F]) Tryz.func75 fun F => ?_
  refine go_ ?_
  refine s_box fun r2 => ?_
  refine s_box fun r3 => ?_
  refine go_ ?_
  refine s_ine (fun h => ?_) (fun h => ?_)
  · refine go_ ?_
    exact s_ret1 (rs := [.tmp 4]) Tryz.func75 rfl (by intro j; refine RVS.tmp _ rfl ?_; exact RVS.nil) (⟨by congr 1; rw [Bool.eq_iff_iff, hl, decide_eq_true_eq]; omega, rfl⟩) (by repeat (first | exact Ent.nil | refine Ent.per (by repeat (first | with_reducible exact Sel.here | with_reducible apply Sel.there)) ?_ | refine Ent.cons (by repeat (first | with_reducible exact Sel.here | with_reducible apply Sel.there)) ?_))
  · refine go_ ?_
    refine s_ine (fun h2 => ?_) (fun h2 => ?_)
    · refine go_ ?_
      exact s_ret1 (rs := [.tmp 4]) Tryz.func75 rfl (by intro j; refine RVS.tmp _ rfl ?_; exact RVS.nil) (⟨by congr 1; rw [Bool.eq_iff_iff, hl, decide_eq_true_eq]; omega, rfl⟩) (by repeat (first | exact Ent.nil | refine Ent.per (by repeat (first | with_reducible exact Sel.here | with_reducible apply Sel.there)) ?_ | refine Ent.cons (by repeat (first | with_reducible exact Sel.here | with_reducible apply Sel.there)) ?_))
    · refine go_ ?_
      exact s_ret1 (rs := [.tmp 4]) Tryz.func75 rfl (by intro j; refine RVS.tmp _ rfl ?_; exact RVS.nil) (⟨by congr 1; rw [Bool.eq_iff_iff, hl, decide_eq_true_eq]; omega, rfl⟩) (by repeat (first | exact Ent.nil | refine Ent.per (by repeat (first | with_reducible exact Sel.here | with_reducible apply Sel.there)) ?_ | refine Ent.cons (by repeat (first | with_reducible exact Sel.here | with_reducible apply Sel.there)) ?_))
set_option maxHeartbeats 1000000 in
theorem rmay_c (k : Key) : Ctr Tryz.prog 36 [k.v] [] (fun r Bs => r = .bool k.ok ∧ Bs = []) := by
  refine s_enter 31 [(0, _)] (fun F => [F]) Tryz.func36 fun F => ?_
  refine go_ ?_
  refine s_box fun r1 => ?_
  refine go_ ?_
  cases h0 : decide (k.obj ≥ 0)
  · refine go_ ?_
    exact s_ret1 (rs := [.tmp 2]) Tryz.func36 rfl (by intro j; refine RVS.tmp _ rfl ?_; exact RVS.nil) (⟨by simp at h0; simp [Key.ok]; omega, rfl⟩) (by repeat (first | exact Ent.nil | refine Ent.per (by repeat (first | with_reducible exact Sel.here | with_reducible apply Sel.there)) ?_ | refine Ent.cons (by repeat (first | with_reducible exact Sel.here | with_reducible apply Sel.there)) ?_))
  refine go_ ?_
  cases h1 : decide (k.obj ≤ 2147483647)
  · refine go_ ?_
    exact s_ret1 (rs := [.tmp 2]) Tryz.func36 rfl (by intro j; refine RVS.tmp _ rfl ?_; exact RVS.nil) (⟨by simp at h1; simp [Key.ok]; omega, rfl⟩) (by repeat (first | exact Ent.nil | refine Ent.per (by repeat (first | with_reducible exact Sel.here | with_reducible apply Sel.there)) ?_ | refine Ent.cons (by repeat (first | with_reducible exact Sel.here | with_reducible apply Sel.there)) ?_))
  refine go_ ?_
  cases h2 : decide (k.kind ≥ 0)
  · refine go_ ?_
    exact s_ret1 (rs := [.tmp 2]) Tryz.func36 rfl (by intro j; refine RVS.tmp _ rfl ?_; exact RVS.nil) (⟨by simp at h2; simp [Key.ok]; omega, rfl⟩) (by repeat (first | exact Ent.nil | refine Ent.per (by repeat (first | with_reducible exact Sel.here | with_reducible apply Sel.there)) ?_ | refine Ent.cons (by repeat (first | with_reducible exact Sel.here | with_reducible apply Sel.there)) ?_))
  refine go_ ?_
  cases h3 : decide (k.kind ≤ 255)
  · refine go_ ?_
    exact s_ret1 (rs := [.tmp 2]) Tryz.func36 rfl (by intro j; refine RVS.tmp _ rfl ?_; exact RVS.nil) (⟨by simp at h3; simp [Key.ok]; omega, rfl⟩) (by repeat (first | exact Ent.nil | refine Ent.per (by repeat (first | with_reducible exact Sel.here | with_reducible apply Sel.there)) ?_ | refine Ent.cons (by repeat (first | with_reducible exact Sel.here | with_reducible apply Sel.there)) ?_))
  refine go_ ?_
  cases h4 : decide (k.off ≥ 0)
  · refine go_ ?_
    exact s_ret1 (rs := [.tmp 2]) Tryz.func36 rfl (by intro j; refine RVS.tmp _ rfl ?_; exact RVS.nil) (⟨by simp at h4; simp [Key.ok]; omega, rfl⟩) (by repeat (first | exact Ent.nil | refine Ent.per (by repeat (first | with_reducible exact Sel.here | with_reducible apply Sel.there)) ?_ | refine Ent.cons (by repeat (first | with_reducible exact Sel.here | with_reducible apply Sel.there)) ?_))
  refine go_ ?_
  exact s_ret1 (rs := [.tmp 2]) Tryz.func36 rfl (by intro j; refine RVS.tmp _ rfl ?_; exact RVS.nil) (⟨by congr 1; simp at h0 h1 h2 h3 h4; rw [Bool.eq_iff_iff, decide_eq_true_eq]; simp [Key.ok]; omega, rfl⟩) (by repeat (first | exact Ent.nil | refine Ent.per (by repeat (first | with_reducible exact Sel.here | with_reducible apply Sel.there)) ?_ | refine Ent.cons (by repeat (first | with_reducible exact Sel.here | with_reducible apply Sel.there)) ?_))
def Key.next (k : Key) : Option Key :=
  if k.off < 2147483647 then some ⟨k.obj, k.kind, IntKind.i64.wrap (k.off + 1)⟩
  else if k.kind < 255 then some ⟨k.obj, IntKind.i64.wrap (k.kind + 1), 0⟩
  else if k.obj < 2147483647 then some ⟨IntKind.i64.wrap (k.obj + 1), 0, 0⟩
  else none
end Go.Proofs.YtgbbcpfnmkeijaaGreat
/- The reference's nodes: Keys, Least. -/
namespace Go.Proofs.YtgbbcpfnmkeijaaGreat
open Go.Cam
set_option maxRecDepth 100000
def nkeys (x : Node) : List Key := x.items.map Item.key ++ x.kids.map Kid.key
abbrev keyR (l : List Key) (i : Nat) : List Value := (l.getD i default).row
theorem nkeys_len (x : Node) : (nkeys x).length = x.items.length + x.kids.length := by simp [nkeys]
theorem nkeys_i (x : Node) {i : Nat} (h : i < x.items.length) : (nkeys x).getD i default = (x.items.getD i default).key := by
  unfold nkeys
  rw [List.getD_eq_getElem?_getD, List.getD_eq_getElem?_getD, List.getElem?_append_left (by simpa using h)]; simp [h]
theorem nkeys_k (x : Node) {i : Nat} (h : i < x.kids.length) : (nkeys x).getD (x.items.length + i) default = (x.kids.getD i default).key := by
  unfold nkeys
  rw [List.getD_eq_getElem?_getD, List.getD_eq_getElem?_getD, List.getElem?_append_right (by simp)]; simp [h]
theorem keyR_snoc (l : List Key) (m : Nat) (r : List Value) (h : r = keyR l m) (q : Nat) (hq : q < m + 1) : rcat m (keyR l) (fun _ => r) q = keyR l q := by
  unfold rcat
  by_cases h2 : q < m
  · rw [if_pos h2]
  · rw [if_neg h2, h, show q = m by omega]
set_option maxHeartbeats 4000000 in
theorem rkeys_c (x : Node) (u : Plc) (hx : x.small) : Ctr Tryz.prog 77 [ndV x u] [Nd1 x u, Nd3 x u] (fun v Bs => ∃ a c, v = .slice a (nkeys x).length c ∧ Bs = [SO 49 3 (.slice a (nkeys x).length c) (nkeys x).length (keyR (nkeys x))]) := by
  have h1 := hx.i
  have h2 := hx.k
  refine s_enter 40 [(0, _)] (fun F => [_, _, F]) Tryz.func77 fun F => ?_
  refine go_ ?_
  refine s_box fun r1 => ?_
  refine go_ ?_
  refine s_bs0 (sz := 3) (row := keyR (nkeys x)) (fun a0 => ?_)
  refine s_open (SO.of) ?_
  refine go_ ?_
  refine s_loop (fun q : Nat × Option Addr × Nat => [(1, .pointer (some ⟨r1, 0, none⟩)), (3, .slice q.2.1 q.1 q.2.2), (4, .int .i64 q.1)])
    (fun q => [SO 49 3 (.slice q.2.1 q.1 q.2.2) q.1 (keyR (nkeys x)), Box r1 88 [.int .i64 x.level, .slice u.a x.items.length u.c, .slice u.b x.kids.length u.d], Nd1 x u, Nd3 x u, F]) (fun q => q.1 ≤ x.items.length) (fun q => x.items.length - q.1) (0, a0, 0) (Nat.zero_le _) (by repeat (first | exact Ent.nil | refine Ent.per (by repeat (first | with_reducible exact Sel.here | with_reducible apply Sel.there)) ?_ | refine Ent.cons (by repeat (first | with_reducible exact Sel.here | with_reducible apply Sel.there)) ?_)) ?_
  rintro ⟨i, a, c⟩ hi next
  dsimp only at hi next ⊢
  refine go_ ?_
  refine s_if (fun h => ?_) (fun h => ?_)
  · have hi2 : i < x.items.length := by omega
    refine go_ ?_
    refine s_look (lk_ldeN (sz := 4) (fo := 0) (n := x.items.length) (i := i) (v := .slice u.a x.items.length u.c) (vs := (x.items.getD i default).key.row) (s := (by repeat (first | with_reducible exact SelR.here | with_reducible apply SelR.there)))) ?_
    refine go_ ?_
    refine s_step (st_bs1 (sz := 3) (cells := (x.items.getD i default).key.row) rfl) ?_
    rintro _ _ ⟨a3, rfl, rfl⟩
    refine go_ ?_
    refine s_step (st_appO (a := a) (len := i) (cap := c) (b := a3) (m := 1) (c := 1) (by repeat (first | with_reducible exact Sel.here | with_reducible apply Sel.there)) (by repeat (first | with_reducible exact SelR.here | with_reducible apply SelR.there)) (by rw [flat_one]; rfl)) ?_
    rintro _ _ ⟨a4, c4, rfl, rfl⟩
    refine s_open (SO.cg (keyR (nkeys x)) (keyR_snoc (nkeys x) (i) _ (by unfold keyR; rw [nkeys_i x hi2]))) ?_
    refine go_ ?_
    exact s_entF (by repeat (first | exact Ent.nil | refine Ent.per (by repeat (first | with_reducible exact Sel.here | with_reducible apply Sel.there)) ?_ | refine Ent.cons (by repeat (first | with_reducible exact Sel.here | with_reducible apply Sel.there)) ?_)) (s_keep _ (next (i + 1, a4, c4) (by dsimp only; omega) (by dsimp only; omega)))
  · have : i = x.items.length := by omega
    subst this
    refine go_ ?_
    refine s_front (a := SO 49 3 (.slice a x.items.length c) x.items.length (keyR (nkeys x))) (by repeat (first | with_reducible exact Sel.here | with_reducible apply Sel.there)) (s_open (B := SO 49 3 (.slice a (x.items.length + 0) c) (x.items.length + 0) (keyR (nkeys x))) (fun _ _ q => q) ?_)
    refine s_loop (fun q : Nat × Option Addr × Nat => [(1, .pointer (some ⟨r1, 0, none⟩)), (3, .slice q.2.1 (x.items.length + q.1) q.2.2), (5, .int .i64 q.1)])
      (fun q => [SO 49 3 (.slice q.2.1 (x.items.length + q.1) q.2.2) (x.items.length + q.1) (keyR (nkeys x)), Box r1 88 [.int .i64 x.level, .slice u.a x.items.length u.c, .slice u.b x.kids.length u.d], Nd3 x u, F]) (fun q => q.1 ≤ x.kids.length) (fun q => x.kids.length - q.1) (0, a, c) (Nat.zero_le _) (by repeat (first | exact Ent.nil | refine Ent.per (by repeat (first | with_reducible exact Sel.here | with_reducible apply Sel.there)) ?_ | refine Ent.cons (by repeat (first | with_reducible exact Sel.here | with_reducible apply Sel.there)) ?_)) ?_
    rintro ⟨i, a, c⟩ hi next
    dsimp only at hi next ⊢
    refine go_ ?_
    refine s_if (fun h => ?_) (fun h => ?_)
    · have hi2 : i < x.kids.length := by omega
      refine go_ ?_
      refine s_look (lk_ldeN (sz := 4) (fo := 0) (n := x.kids.length) (i := i) (v := .slice u.b x.kids.length u.d) (vs := (x.kids.getD i default).key.row) (s := (by repeat (first | with_reducible exact SelR.here | with_reducible apply SelR.there)))) ?_
      refine go_ ?_
      refine s_step (st_bs1 (sz := 3) (cells := (x.kids.getD i default).key.row) rfl) ?_
      rintro _ _ ⟨a3, rfl, rfl⟩
      refine go_ ?_
      refine s_step (st_appO (a := a) (len := x.items.length + i) (cap := c) (b := a3) (m := 1) (c := 1) (by repeat (first | with_reducible exact Sel.here | with_reducible apply Sel.there)) (by repeat (first | with_reducible exact SelR.here | with_reducible apply SelR.there)) (by rw [flat_one]; rfl)) ?_
      rintro _ _ ⟨a4, c4, rfl, rfl⟩
      refine s_open (SO.cg (keyR (nkeys x)) (keyR_snoc (nkeys x) (x.items.length + i) _ (by unfold keyR; rw [nkeys_k x hi2]))) ?_
      refine go_ ?_
      rw [show x.items.length + i + 1 = x.items.length + (i + 1) from rfl]
      exact s_entF (by repeat (first | exact Ent.nil | refine Ent.per (by repeat (first | with_reducible exact Sel.here | with_reducible apply Sel.there)) ?_ | refine Ent.cons (by repeat (first | with_reducible exact Sel.here | with_reducible apply Sel.there)) ?_)) (s_keep _ (next (i + 1, a4, c4) (by dsimp only; omega) (by dsimp only; omega)))
    · have : i = x.kids.length := by omega
      subst this
      rw [← nkeys_len]
      refine go_ ?_
      exact s_ret1 (rs := [.tmp 2]) Tryz.func77 rfl (by intro j; refine RVS.tmp _ rfl ?_; exact RVS.nil) (⟨a, c, rfl, rfl⟩) (by repeat (first | exact Ent.nil | refine Ent.per (by repeat (first | with_reducible exact Sel.here | with_reducible apply Sel.there)) ?_ | refine Ent.cons (by repeat (first | with_reducible exact Sel.here | with_reducible apply Sel.there)) ?_))
theorem rleast_c (x : Node) (u : Plc) (hx : x.small) (hn : 0 < (nkeys x).length) : Ctr Tryz.prog 39 [ndV x u] [Nd1 x u, Nd3 x u] (fun v Bs => v = ((nkeys x).getD 0 default).v ∧ Bs = []) := by
  have h1 := hx.i
  have h2 := hx.k
  have hl := nkeys_len x
  refine s_enter 13 [(0, _)] (fun F => [_, _, F]) Tryz.func39 fun F => ?_
  refine go_ ?_
  refine s_box fun r1 => ?_
  refine s_alloc fun r2 => ?_
  refine go_ ?_
  refine s_call (sp := (by repeat (first | exact Split.nil | apply Split.perx (by repeat (first | with_reducible exact Sel.here | with_reducible apply Sel.there)) (by infer_instance) | apply Split.cons (by repeat (first | with_reducible exact Sel.here | with_reducible apply Sel.there))))) (hs := rkeys_c x u hx) (h := ?_)
  rintro v Bs ⟨a, c, rfl, rfl⟩
  refine go_ ?_
  refine s_ieq (fun h => ?_) (fun h => ?_)
  · exact absurd h (by omega)
  refine go_ ?_
  exact s_ret1 (rs := [.cell 2 49]) Tryz.func39 rfl (by intro j; refine RVS.cell _ _ rfl (by repeat (first | with_reducible exact Sel.here | with_reducible apply Sel.there)) (by rfl) ?_; exact RVS.nil) (⟨rfl, rfl⟩) (by repeat (first | exact Ent.nil | refine Ent.per (by repeat (first | with_reducible exact Sel.here | with_reducible apply Sel.there)) ?_ | refine Ent.cons (by repeat (first | with_reducible exact Sel.here | with_reducible apply Sel.there)) ?_))
end Go.Proofs.YtgbbcpfnmkeijaaGreat
/- The reference's rows: Get. -/
namespace Go.Proofs.YtgbbcpfnmkeijaaGreat
open Go.Cam
set_option maxRecDepth 100000
def rgetI (l : List Item) (k : Key) : Nat := seekN (fun i => !decide ((l.getD i default).key = k)) l.length 0
set_option maxHeartbeats 4000000 in
theorem rget_c {A : HP} {a : Option Addr} {c : Nat} {w : Nat → Option Addr × Nat} (l : List Item) (k : Key) [Rd A 4 (.slice a l.length c) l.length (itemRow w l)] (hn : l.length < 1000000) : Ctr Tryz.prog 18 [.slice a l.length c, k.v] [A, Fam l.length (itemFam w l)]
    (fun v Bs => (l.length ≤ rgetI l k ∧ v = .tuple #[.slice none 0 0, .int .i64 10] ∧ Bs = [A]) ∨
      (rgetI l k < l.length ∧ ∃ a2 c2, v = .tuple #[.slice a2 (l.getD (rgetI l k) default).val.length c2, .int .i64 0] ∧ Bs = [A, BS (.slice a2 (l.getD (rgetI l k) default).val.length c2) (l.getD (rgetI l k) default).val])) := by
  refine s_enter 25 [(0, _), (1, _)] (fun F => [_, _, F]) Tryz.func18 fun F => ?_
  refine go_ ?_
  refine s_box fun r3 => ?_
  refine go_ ?_
  refine s_loop (fun i : Nat => [(0, .slice a l.length c), (3, .pointer (some ⟨r3, 0, none⟩)), (4, .slice none 0 0), (5, .int .i64 0), (6, .int .i64 i)]) (fun _ => [A, Fam l.length (itemFam w l), Box r3 49 k.row, F]) (fun i => i ≤ l.length ∧ rgetI l k = seekN (fun i => !decide ((l.getD i default).key = k)) (l.length - i) i) (fun i => l.length - i) 0 ⟨Nat.zero_le _, rfl⟩ (by repeat (first | exact Ent.nil | refine Ent.per (by repeat (first | with_reducible exact Sel.here | with_reducible apply Sel.there)) ?_ | refine Ent.cons (by repeat (first | with_reducible exact Sel.here | with_reducible apply Sel.there)) ?_)) ?_
  rintro i ⟨hi, hq⟩ next
  refine go_ ?_
  refine s_if (fun h => ?_) (fun h => ?_)
  · have hi2 : i < l.length := by omega
    obtain ⟨m, hm⟩ : ∃ m, l.length - i = m + 1 := ⟨l.length - i - 1, by omega⟩
    rw [hm, seekN] at hq
    refine go_ ?_
    refine s_drawN 0 [.q 0, .q 1, .q 2, .q 3, .q 4, .q 5, .q 6] ?_
    refine do_ ?_
    refine d_look rfl (lk_ldeN (sz := 4) (fo := 0) (n := l.length) (i := i) (v := .slice a l.length c) (vs := (l.getD i default).key.row) (s := (by repeat (first | with_reducible exact SelR.here | with_reducible apply SelR.there)))) ?_
    refine do_ ?_
    refine d_look rfl lk_eqs ?_
    refine do_ ?_
    cases he : decide ((l.getD i default).key = k) with
    | true =>
      rw [he] at hq
      have e0 : rgetI l k = i := hq
      rw [e0]
      refine go_ ?_
      refine s_get i (F := itemFam w l) (m := l.length) (by repeat (first | with_reducible exact Sel.here | with_reducible apply Sel.there)) hi2 ?_
      exact s_rett (rs := [.tmp 4, .tmp 5]) (vs := [_, _]) Tryz.func18 rfl (by intro j; refine RVS.tmp _ rfl ?_; refine RVS.tmp _ rfl ?_; exact RVS.nil) rfl (.inr ⟨hi2, (w i).1, (w i).2, rfl, rfl⟩) (by repeat (first | exact Ent.nil | refine Ent.per (by repeat (first | with_reducible exact Sel.here | with_reducible apply Sel.there)) ?_ | refine Ent.cons (by repeat (first | with_reducible exact Sel.here | with_reducible apply Sel.there)) ?_))
    | false =>
      rw [he] at hq
      refine go_ ?_
      exact s_entF (by repeat (first | exact Ent.nil | refine Ent.per (by repeat (first | with_reducible exact Sel.here | with_reducible apply Sel.there)) ?_ | refine Ent.cons (by repeat (first | with_reducible exact Sel.here | with_reducible apply Sel.there)) ?_)) (s_keep _ (next (i + 1) ⟨by omega, by rw [show l.length - (i + 1) = m by omega]; exact hq⟩ (by omega)))
  · have e : i = l.length := by omega
    rw [show l.length - i = 0 by omega] at hq
    have e0 : rgetI l k = l.length := by rw [hq, ← e]; rfl
    refine go_ ?_
    exact s_rett (rs := [.tmp 4, .tmp 5]) (vs := [_, _]) Tryz.func18 rfl (by intro j; refine RVS.tmp _ rfl ?_; refine RVS.tmp _ rfl ?_; exact RVS.nil) rfl (.inl ⟨by omega, rfl, rfl⟩) (by repeat (first | exact Ent.nil | refine Ent.per (by repeat (first | with_reducible exact Sel.here | with_reducible apply Sel.there)) ?_ | refine Ent.cons (by repeat (first | with_reducible exact Sel.here | with_reducible apply Sel.there)) ?_))
end Go.Proofs.YtgbbcpfnmkeijaaGreat
/- Trees that are laid down; find.walk.leaf. -/
namespace Go.Proofs.YtgbbcpfnmkeijaaGreat
open Go.Cam
set_option maxRecDepth 100000
def nd (g : Int → Option (Node × Plc)) (k : Int) : Node := match g k with | some q => q.1 | none => ⟨0, [], []⟩
def kidN (g : Int → Option (Node × Plc)) (key : Key) (k : Int) : Int := ((nd g k).kids.getD (seekX (nd g k) key) default).addr
def wayN (g : Int → Option (Node × Plc)) (key : Key) : Nat → Int → List Int
  | 0, k => [k]
  | h + 1, k => k :: wayN g key h (kidN g key k)
def leafN (g : Int → Option (Node × Plc)) (key : Key) : Nat → Int → Int
  | 0, k => k
  | h + 1, k => leafN g key h (kidN g key k)
/-- a tree of a height, laid down -/
def Tr (σ : Ct) (g : Int → Option (Node × Plc)) : Nat → Int → Prop
  | 0, k => (∃ u, Held σ g k (nd g k) u) ∧ (nd g k).level = 0
  | h + 1, k => (∃ u, Held σ g k (nd g k) u) ∧ (nd g k).level = (h + 1 : Nat) ∧ 0 < (nd g k).kids.length ∧ ∀ i, i < (nd g k).kids.length → Tr σ g h ((nd g k).kids.getD i default).addr
theorem Tr.held {σ : Ct} {g : Int → Option (Node × Plc)} : ∀ {h : Nat} {k : Int}, Tr σ g h k → ∃ u, Held σ g k (nd g k) u
  | 0, _, t => t.1
  | _ + 1, _, t => t.1
theorem Tr.lv {σ : Ct} {g : Int → Option (Node × Plc)} : ∀ {h : Nat} {k : Int}, Tr σ g h k → (nd g k).level = (h : Nat)
  | 0, _, t => t.2
  | _ + 1, _, t => t.2.1
theorem Tr.seek {σ : Ct} {g : Int → Option (Node × Plc)} {h : Nat} {k : Int} (t : Tr σ g (h + 1) k) (key : Key) : seekX (nd g k) key < (nd g k).kids.length := by
  have := seekN_le (fun i => !(key.lt ((nd g k).kids.getD i default).key)) (nd g k).kids.length 0
  have h2 := t.2.2.1
  have h3 := t.2.1
  unfold seekX; rw [if_neg (by omega)]; omega
theorem wayN_head (g : Int → Option (Node × Plc)) (key : Key) : ∀ h k, wayN g key h k = k :: (wayN g key h k).tail
  | 0, _ => rfl
  | _ + 1, _ => rfl
theorem wayN_len (g : Int → Option (Node × Plc)) (key : Key) : ∀ h k, (wayN g key h k).length = h + 1
  | 0, _ => rfl
  | h + 1, k => by rw [wayN, List.length_cons, wayN_len g key h]
set_option maxHeartbeats 8000000 in
theorem leaf_c (r p : Nat) (z : PoZ) (σ : Ct) (g : Int → Option (Node × Plc)) (k : Int) (key : Key) (h : Nat) (path : List Int) (ht : Tr σ g h k) (hp : path.length + h < 100000) : Ctr Tryz.prog 48 [.pointer (some ⟨r, 0, none⟩), .int .i64 k, key.v] [Wk r p path, Po p z σ g]
    (fun v Bs => ∃ u, v = .tuple #[ndV (nd g (leafN g key h k)) u, .int .i64 0] ∧ Bs = [Wk r p (path ++ wayN g key h k), Po p z σ g, Nd1 (nd g (leafN g key h k)) u, Nd2 (nd g (leafN g key h k)) u, Nd3 (nd g (leafN g key h k)) u]) := by
  obtain ⟨u0, hh0⟩ := ht.held
  refine s_enter 47 [(0, _), (1, _), (2, _)] (fun F => [_, _, F]) Tryz.func48 fun F => ?_
  refine go_ ?_
  refine s_box fun r5 => ?_
  refine s_alloc fun r6 => ?_
  refine go_ ?_
  refine s_call (sp := (by repeat (first | exact Split.nil | apply Split.perx (by repeat (first | with_reducible exact Sel.here | with_reducible apply Sel.there)) (by infer_instance) | apply Split.cons (by repeat (first | with_reducible exact Sel.here | with_reducible apply Sel.there))))) (hs := wat_c r p z σ g k (-1) (nd g k) u0 path hh0 (.inl (by decide)) (by omega)) (h := ?_)
  rintro v Bs ⟨u1, rfl, rfl⟩
  refine go_ ?_
  refine s_alloc fun r8 => ?_
  refine go_ ?_
  refine s_loop (fun q : Nat × Int × List Int × Plc => [(0, .pointer (some ⟨r, 0, none⟩)), (5, .pointer (some ⟨r5, 0, none⟩)), (6, .pointer (some ⟨r6, 0, none⟩)), (8, .pointer (some ⟨r8, 0, none⟩)), (9, .int .i64 0)])
    (fun q => [Box r8 88 [.int .i64 (nd g q.2.1).level, .slice q.2.2.2.a (nd g q.2.1).items.length q.2.2.2.c, .slice q.2.2.2.b (nd g q.2.1).kids.length q.2.2.2.d], Wk r p q.2.2.1, Po p z σ g, Nd1 (nd g q.2.1) q.2.2.2, Nd2 (nd g q.2.1) q.2.2.2, Nd3 (nd g q.2.1) q.2.2.2, Box r6 88 [.int .i64 0, .slice none 0 0, .slice none 0 0], Box r5 49 key.row, F])
    (fun q => Tr σ g q.1 q.2.1 ∧ q.2.2.1.length + q.1 < 100001 ∧ q.2.2.1 ++ (wayN g key q.1 q.2.1).tail = path ++ wayN g key h k ∧ leafN g key q.1 q.2.1 = leafN g key h k) (fun q => q.1) (h, k, path ++ [k], u1) ⟨ht, by simp; omega, by dsimp only; rw [List.append_assoc]; congr 1; exact (wayN_head g key h k).symm, rfl⟩ (by repeat (first | exact Ent.nil | refine Ent.per (by repeat (first | with_reducible exact Sel.here | with_reducible apply Sel.there)) ?_ | refine Ent.cons (by repeat (first | with_reducible exact Sel.here | with_reducible apply Sel.there)) ?_)) ?_
  rintro ⟨h', k', path', u'⟩ ⟨ht', hp', hw', hl'⟩ next
  dsimp only at ht' hp' hw' hl' next ⊢
  have hlv := ht'.lv
  refine go_ ?_
  refine s_if (fun h0 => ?_) (fun h0 => ?_)
  · cases h' with
    | zero => exact absurd h0 (by omega)
    | succ h1 =>
      obtain ⟨ux, hhx⟩ := ht'.held
      have hsk := ht'.seek key
      refine go_ ?_
      refine s_call (sp := (by repeat (first | exact Split.nil | apply Split.perx (by repeat (first | with_reducible exact Sel.here | with_reducible apply Sel.there)) (by infer_instance) | apply Split.cons (by repeat (first | with_reducible exact Sel.here | with_reducible apply Sel.there))))) (hs := nseek_c (nd g k') key (a := u'.a) (b := u'.b) (c := u'.c) (d := u'.d) (w := u'.w) rfl rfl hhx.hs.i hhx.hs.k) (h := ?_)
      rintro v Bs ⟨rfl, rfl⟩
      refine go_ ?_
      refine s_front (a := Box r8 88 [.int .i64 (nd g k').level, .slice u'.a (nd g k').items.length u'.c, .slice u'.b (nd g k').kids.length u'.d]) (by repeat (first | with_reducible exact Sel.here | with_reducible apply Sel.there)) ?_
      refine s_front (a := Po p z σ g) (by repeat (first | with_reducible exact Sel.here | with_reducible apply Sel.there)) ?_
      refine s_front (a := Wk r p path') (by repeat (first | with_reducible exact Sel.here | with_reducible apply Sel.there)) ?_
      refine s_drawN 2 [.q 0, .q 1, .q 2, .q 3, .q 4, .q 5, .q 6, .q 7, .q 8, .q 9, .r, .s 10, .q 11, .q 12, .q 13, .s 14, .q 15] ?_
      refine do_ ?_
      refine d_rel 1 ?_
      refine d_nrm ?_
      have ht2 := ht'.2.2.2 _ hsk
      obtain ⟨u2, hh2⟩ := ht2.held
      refine d_step rfl (st_call (sp := (by repeat (first | exact Split.nil | apply Split.perx (by repeat (first | with_reducible exact Sel.here | with_reducible apply Sel.there)) (by infer_instance) | apply Split.cons (by repeat (first | with_reducible exact Sel.here | with_reducible apply Sel.there))))) (hs := wat_c r p z σ g (kidN g key k') ((nd g k').level - 1) (nd g (kidN g key k')) u2 path' hh2 (.inr (by rw [show kidN g key k' = ((nd g k').kids.getD (seekX (nd g k') key) default).addr from rfl, ht2.lv, hlv]; omega)) (by omega))) ?_
      rintro v Bs ⟨Cs, ⟨u3, rfl, rfl⟩, rfl⟩
      refine do_ ?_
      refine d_stepU rfl (st_st (v := ndV (nd g (kidN g key k')) u3)) ?_
      rintro v Bs ⟨rfl, rfl⟩
      refine do_ ?_
      refine go_ ?_
      exact s_entF (by repeat (first | exact Ent.nil | refine Ent.per (by repeat (first | with_reducible exact Sel.here | with_reducible apply Sel.there)) ?_ | refine Ent.cons (by repeat (first | with_reducible exact Sel.here | with_reducible apply Sel.there)) ?_)) (s_keep _ (next (h1, kidN g key k', path' ++ [kidN g key k'], u3) ⟨ht2, by simp; omega, by dsimp only; rw [← hw', wayN, List.tail_cons, List.append_assoc]; congr 1; exact (wayN_head g key h1 (kidN g key k')).symm, hl'⟩ (by dsimp only; omega)))
  · cases h' with
    | succ h1 => exact absurd h0 (by omega)
    | zero =>
      rw [show leafN g key h k = k' from hl'.symm, ← hw', show (wayN g key 0 k').tail = [] from rfl, List.append_nil]
      refine go_ ?_
      exact s_rett (rs := [.cell 6 88, .tmp 7]) (vs := [_, _]) Tryz.func48 rfl (by intro j; refine RVS.cell _ _ rfl (by repeat (first | with_reducible exact Sel.here | with_reducible apply Sel.there)) (by rfl) ?_; refine RVS.tmp _ rfl ?_; exact RVS.nil) rfl (⟨u', rfl, rfl⟩) (by repeat (first | exact Ent.nil | refine Ent.per (by repeat (first | with_reducible exact Sel.here | with_reducible apply Sel.there)) ?_ | refine Ent.cons (by repeat (first | with_reducible exact Sel.here | with_reducible apply Sel.there)) ?_))
end Go.Proofs.YtgbbcpfnmkeijaaGreat
