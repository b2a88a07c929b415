/- The numbers at which the library's contracts of maps.Keys, slices.Sorted and slices.Sort stand in this program (printed by the kit's tool). -/
import Derived.Shelf.SlIterI.Nil
import Derived.Shelf.SortM.Plain
import Derived.Shelf.SortM.SortNone
import Derived.Ground.GgzProg
import Derived.Ground.SlgmProg
import Derived.Test.YtgbbcpfnmkeijaaProg
import Derived.Test.YtgbbcpfnmkeijaaFindAR
import Derived.Test.YtgbbcpfnmkeijaaFindAE
import Derived.Test.YtgbbcpfnmkeijaaFindAM
import Derived.Test.YtgbbcpfnmkeijaaCamAM
namespace Go.Proofs.Ytgbbcpfnmkeijaa
open Go.Shelf
def Try.keysA_ren : Go.Shelf.Ren := ⟨fun | 7 => 71 | 10 => 101 | n => n, fun | 23 => 109 | 26 => 3 | 3 => 106 | 28 => 143 | 0 => 0 | 27 => 142 | 33 => 121 | 4 => 4 | n => n, fun | n => n⟩
theorem Try.keysA : Go.Proofs.SlLaysZI.n7 Try.prog Try.keysA_ren := {
  mixed := by kernel_rfl
  f7 := ⟨Try.f71.name, by decide, Try.func71.trans (congrArg some (by kernel_rfl))⟩
  f10 := ⟨Try.f101.name, by decide, Try.func101.trans (congrArg some (by kernel_rfl))⟩
  t0 := Try.underlying0
  a0 := Try.isAgg0
  z0 := Try.sizeOf0
  v0 := Try.zeroValue0
  t4 := Try.underlying4
  a4 := Try.isAgg4
  z4 := Try.sizeOf4
  v4 := Try.zeroValue4
  t23 := Try.underlying109
  a23 := Try.isAgg109
  z23 := Try.sizeOf109
  v23 := Try.zeroValue109
  t26 := Try.underlying3
  a26 := Try.isAgg3
  z26 := Try.sizeOf3
  v26 := Try.zeroValue3
  t27 := Try.underlying142
  a27 := Try.isAgg142
  z27 := Try.sizeOf142
  v27 := Try.zeroValue142
  t28 := Try.underlying143
  a28 := Try.isAgg143
  z28 := Try.sizeOf143
  v28 := Try.zeroValue143
  t33 := Try.underlying121
  a33 := Try.isAgg121
  z33 := Try.sizeOf121
  v33 := Try.zeroValue121 }
def Try.sortedA_ren : Go.Shelf.Ren := ⟨fun | 6 => 70 | 8 => 99 | 9 => 100 | 11 => 121 | 13 => 123 | 12 => 122 | 23 => 137 | 24 => 138 | 14 => 128 | 15 => 129 | 16 => 130 | 17 => 131 | 18 => 132 | 19 => 133 | 20 => 134 | 21 => 135 | 22 => 136 | 25 => 141 | 26 => 142 | 27 => 143 | 28 => 144 | 29 => 145 | 30 => 111 | 31 => 146 | n => n, fun | 26 => 3 | 28 => 143 | 24 => 23 | 0 => 0 | 3 => 3 | 37 => 184 | 48 => 177 | 50 => 197 | 4 => 4 | 40 => 205 | 39 => 204 | 45 => 63 | 5 => 5 | 9 => 9 | 51 => 217 | 55 => 221 | 57 => 223 | 58 => 76 | 33 => 121 | n => n, fun | n => n⟩
theorem Try.sortedA : Go.Proofs.SlLaysZI.n6 Try.prog Try.sortedA_ren := {
  mixed := by kernel_rfl
  f6 := ⟨Try.f70.name, by decide, Try.func70.trans (congrArg some (by kernel_rfl))⟩
  f8 := ⟨Try.f99.name, by decide, Try.func99.trans (congrArg some (by kernel_rfl))⟩
  f11 := ⟨Try.f121.name, by decide, Try.func121.trans (congrArg some (by kernel_rfl))⟩
  t0 := Try.underlying0
  a0 := Try.isAgg0
  z0 := Try.sizeOf0
  v0 := Try.zeroValue0
  t24 := Try.underlying23
  a24 := Try.isAgg23
  z24 := Try.sizeOf23
  v24 := Try.zeroValue23
  t26 := Try.underlying3
  a26 := Try.isAgg3
  z26 := Try.sizeOf3
  v26 := Try.zeroValue3
  t28 := Try.underlying143
  a28 := Try.isAgg143
  z28 := Try.sizeOf143
  v28 := Try.zeroValue143
  i26 := by kernel_rfl }
def Try.sortA_ren : Go.Shelf.Ren := ⟨fun | 5 => 100 | 8 => 123 | 7 => 122 | 19 => 137 | 20 => 138 | 10 => 128 | 11 => 129 | 12 => 130 | 13 => 131 | 14 => 132 | 15 => 133 | 16 => 134 | 17 => 135 | 18 => 136 | 30 => 141 | 31 => 142 | 32 => 143 | 33 => 144 | 34 => 145 | 35 => 111 | 40 => 146 | n => n, fun | 23 => 23 | 25 => 3 | 3 => 3 | 32 => 184 | 22 => 23 | 0 => 0 | 44 => 177 | 46 => 197 | 4 => 4 | 36 => 205 | 35 => 204 | 41 => 63 | 5 => 5 | 9 => 9 | 53 => 217 | 57 => 221 | 63 => 223 | 64 => 76 | n => n, fun | n => n⟩
theorem Try.sortA : Go.Proofs.SlLaysM.n5 Try.prog Try.sortA_ren := {
  mixed := by kernel_rfl
  f5 := ⟨Try.f100.name, by decide, Try.func100.trans (congrArg some (by kernel_rfl))⟩
  f7 := ⟨Try.f122.name, by decide, Try.func122.trans (congrArg some (by kernel_rfl))⟩
  f8 := Try.func123.trans (congrArg some (by kernel_rfl))
  f10 := ⟨Try.f128.name, by decide, Try.func128.trans (congrArg some (by kernel_rfl))⟩
  f11 := ⟨Try.f129.name, by decide, Try.func129.trans (congrArg some (by kernel_rfl))⟩
  f12 := ⟨Try.f130.name, by decide, Try.func130.trans (congrArg some (by kernel_rfl))⟩
  f13 := ⟨Try.f131.name, by decide, Try.func131.trans (congrArg some (by kernel_rfl))⟩
  f14 := ⟨Try.f132.name, by decide, Try.func132.trans (congrArg some (by kernel_rfl))⟩
  f15 := ⟨Try.f133.name, by decide, Try.func133.trans (congrArg some (by kernel_rfl))⟩
  f16 := ⟨Try.f134.name, by decide, Try.func134.trans (congrArg some (by kernel_rfl))⟩
  f17 := ⟨Try.f135.name, by decide, Try.func135.trans (congrArg some (by kernel_rfl))⟩
  f18 := ⟨Try.f136.name, by decide, Try.func136.trans (congrArg some (by kernel_rfl))⟩
  f19 := Try.func137.trans (congrArg some (by kernel_rfl))
  f20 := Try.func138.trans (congrArg some (by kernel_rfl))
  f30 := ⟨Try.f141.name, by decide, Try.func141.trans (congrArg some (by kernel_rfl))⟩
  f31 := Try.func142.trans (congrArg some (by kernel_rfl))
  f32 := Try.func143.trans (congrArg some (by kernel_rfl))
  f33 := ⟨Try.f144.name, by decide, Try.func144.trans (congrArg some (by kernel_rfl))⟩
  f34 := ⟨Try.f145.name, by decide, Try.func145.trans (congrArg some (by kernel_rfl))⟩
  f35 := ⟨Try.f111.name, by decide, Try.func111.trans (congrArg some (by kernel_rfl))⟩
  f40 := ⟨Try.f146.name, by decide, Try.func146.trans (congrArg some (by kernel_rfl))⟩
  t0 := Try.underlying0
  a0 := Try.isAgg0
  z0 := Try.sizeOf0
  v0 := Try.zeroValue0
  t3 := Try.underlying3
  a3 := Try.isAgg3
  z3 := Try.sizeOf3
  v3 := Try.zeroValue3
  t4 := Try.underlying4
  a4 := Try.isAgg4
  z4 := Try.sizeOf4
  v4 := Try.zeroValue4
  t5 := Try.underlying5
  a5 := Try.isAgg5
  z5 := Try.sizeOf5
  v5 := Try.zeroValue5
  t9 := Try.underlying9
  a9 := Try.isAgg9
  z9 := Try.sizeOf9
  v9 := Try.zeroValue9
  t22 := Try.underlying23
  a22 := Try.isAgg23
  z22 := Try.sizeOf23
  v22 := Try.zeroValue23
  t23 := Try.underlying23
  a23 := Try.isAgg23
  z23 := Try.sizeOf23
  v23 := Try.zeroValue23
  t25 := Try.underlying3
  a25 := Try.isAgg3
  z25 := Try.sizeOf3
  v25 := Try.zeroValue3
  t32 := Try.underlying184
  a32 := Try.isAgg184
  z32 := Try.sizeOf184
  v32 := Try.zeroValue184
  t35 := Try.underlying204
  a35 := Try.isAgg204
  z35 := Try.sizeOf204
  v35 := Try.zeroValue204
  t36 := Try.underlying205
  a36 := Try.isAgg205
  z36 := Try.sizeOf205
  v36 := Try.zeroValue205
  t41 := Try.underlying63
  a41 := Try.isAgg63
  z41 := Try.sizeOf63
  v41 := Try.zeroValue63
  t44 := Try.underlying177
  a44 := Try.isAgg177
  z44 := Try.sizeOf177
  v44 := Try.zeroValue177
  t46 := Try.underlying197
  a46 := Try.isAgg197
  z46 := Try.sizeOf197
  v46 := Try.zeroValue197
  t53 := Try.underlying217
  a53 := Try.isAgg217
  z53 := Try.sizeOf217
  v53 := Try.zeroValue217
  t57 := Try.underlying221
  a57 := Try.isAgg221
  z57 := Try.sizeOf221
  v57 := Try.zeroValue221
  t63 := Try.underlying223
  a63 := Try.isAgg223
  z63 := Try.sizeOf223
  v63 := Try.zeroValue223
  t64 := Try.underlying76
  a64 := Try.isAgg76
  z64 := Try.sizeOf76
  v64 := Try.zeroValue76 }
end Go.Proofs.Ytgbbcpfnmkeijaa
/- The keys of a map, sorted: from the library's contracts to the walk's. -/
namespace Go.Proofs.Ytgbbcpfnmkeijaa
open Go.Cam Go.RowKit Go.Maps Go.Sort Go.Shelf
set_option maxRecDepth 100000
theorem Try.sortsA (m : Nat) : AnyZI.SortsIn Try.prog Try.sortedA_ren Fence.wide m :=
  ⟨fun blk off cap ss W hH hblk hsz => callsIn_wide.2 (AnyM.slices_Sort_int Try.sortA blk off cap ss W hH hblk hsz),
   fun p cap W => callsIn_wide.2 (AnyM.slices_Sort_int_none Try.sortA p cap W)⟩
theorem keys_c (m : Nat) : Ctr Try.prog 71 [.map (some m)] [] (fun v Bs => ∃ r, v = .func (.func 101) #[] #[.pointer (some ⟨r, 0, none⟩)] ∧ Bs = [Box r 109 [.map (some m)]]) := fun F H M s w0 w hh => by
  have h1 : Calls Try.prog 71 #[.map (some m)] w _ := (callsIn_wide (n := 5)).1 (AnyZI.keys_in Try.keysA Fence.wide 5 trivial rfl (some m) w)
  refine h1.mono fun e w' ⟨he, hw⟩ => ?_
  subst he; subst hw
  exact ⟨_, H, _, rfl, hh.push _, _, ⟨_, rfl, rfl⟩, own_new hh.fresh s⟩
/-- a map's keys, in order -/
def keysN (gm : Int → Option Value) (N : Nat) : List Int := ((List.range N).map fun (i : Nat) => (i : Int)).filter fun k => (gm k).isSome
theorem keysN_mem {gm : Int → Option Value} {N : Nat} (hk : ∀ k, gm k ≠ none → 0 ≤ k ∧ k < N) (k : Int) : k ∈ keysN gm N ↔ gm k ≠ none := by
  unfold keysN
  rw [List.mem_filter, List.mem_map]
  constructor
  · rintro ⟨_, h⟩ e; rw [e] at h; cases h
  · intro h
    obtain ⟨h1, h2⟩ := hk k h
    exact ⟨⟨k.toNat, List.mem_range.2 (by omega), by omega⟩, by cases hg : gm k with
      | none => exact absurd hg h
      | some v => rfl⟩
theorem keysN_lt (gm : Int → Option Value) (N : Nat) : (keysN gm N).Pairwise (· < ·) := by
  refine List.Pairwise.filter _ (List.pairwise_map.2 ?_)
  refine List.Pairwise.imp (R := (· < ·)) (fun h => by omega) List.pairwise_lt_range
theorem keysN_sorted {gm : Int → Option Value} {N : Nat} {es : List MapEntry} {ck : Nat} (hk : ∀ k, gm k ≠ none → 0 ≤ k ∧ k < N) (hw : WFM es ck gm) {ss : List Int} (hp : ss.Perm (es.map fun e => match e.key with | .int _ k => k | _ => 0)) :
    ss.mergeSort (fun x y => decide (x ≤ y)) = keysN gm N := by
  have hkey : ∀ e ∈ es, e.key = .int .i64 (match e.key with | .int _ k => k | _ => 0) := fun e he => by
    obtain ⟨k, h1, _⟩ := hw.key e he; rw [h1]
  have hnd : (es.map fun e => match e.key with | .int _ k => k | _ => 0).Nodup := by
    refine List.pairwise_map.2 (hw.kd.imp_of_mem fun {a b} ha hb hne e => hne ?_)
    rw [hkey a ha, hkey b hb, e]
  have hp2 : ss.Perm (keysN gm N) := by
    refine hp.trans ((List.perm_ext_iff_of_nodup hnd ((keysN_lt gm N).imp fun h => by omega)).2 fun k => ?_)
    rw [keysN_mem hk, List.mem_map]
    constructor
    · rintro ⟨e, he, rfl⟩
      obtain ⟨k, h1, h2⟩ := hw.key e he
      rw [h1]; dsimp only; rw [h2]; simp
    · intro h
      obtain ⟨v, hv⟩ : ∃ v, gm k = some v := by
        cases hg : gm k with
        | none => exact absurd hg h
        | some v => exact ⟨v, rfl⟩
      obtain ⟨e, he, h1⟩ := hw.all k v hv
      exact ⟨e, he, by rw [h1]⟩
  rw [show (fun x y : Int => decide (x ≤ y)) = leI from rfl, mergeSort_of_perm_i hp2]
  exact List.mergeSort_of_pairwise ((keysN_lt gm N).imp fun h => by simp [leI]; omega)
theorem flat_int (l : List Int) : flat l.length (pathR l) = l.map fun k => .int .i64 k := by
  unfold flat
  have : ∀ (n : Nat) (f : Nat → Value), (List.range n).flatMap (fun i => [f i]) = (List.range n).map f := fun n f => by
    induction List.range n with
    | nil => rfl
    | cons x xs ih => rw [List.flatMap_cons, ih]; rfl
  show ((List.range l.length).flatMap fun i => [Value.int .i64 (l.getD i 0)]) = _
  rw [this]
  apply List.ext_getElem?
  intro i
  by_cases h : i < l.length
  · simp [h, List.getD_eq_getElem?_getD]
  · simp [h]
theorem own_row {g e n cap : Nat} {cur : Array Value} {l : List Int} {H M : Heap} (hn : n = l.length) (hc : n ≤ cap) (hs : cur.size = cap) (ht : cur.toList.take n = l.map fun k => .int .i64 k) (h : (HP.own g (.cells cur e (0, 0))).p H M) : (SA (some e) 1 (.slice (some ⟨g, 0, none⟩) n cap) n (pathR l)).p H M := by
  subst hn
  have hf := flat_int l
  refine ⟨fun _ _ => rfl, ?_, .inr ⟨g, l.length, cap, cur, rfl, flat_len fun _ _ => rfl, by omega, hc, h, ?_⟩, _, _, rfl⟩
  · rw [hf, List.all_eq_true]
    intro u hu
    obtain ⟨k, _, rfl⟩ := List.mem_map.1 hu
    rfl
  · rw [hf, List.length_map, ht]
theorem sorted_c (m r : Nat) (gm : Int → Option Value) (N : Nat) (hN : N ≤ 1000000) (hk : ∀ k, gm k ≠ none → 0 ≤ k ∧ k < N) : Ctr Try.prog 70 [.func (.func 101) #[] #[.pointer (some ⟨r, 0, none⟩)]] [Box r 109 [.map (some m)], MG m gm]
    (fun v Bs => ∃ a c, v = .slice a (keysN gm N).length c ∧ Bs = [SO 3 1 (.slice a (keysN gm N).length c) (keysN gm N).length (pathR (keysN gm N)), MG m gm]) := fun F H M s w0 w hh => by
  have s2 : ((HP.own r (.cells #[.map (some m)] 109 (0, 0))).star (Sat [MG m gm, F])).p H M := s
  have hr := hh.m r _ (star_fst s2)
  have s3 := star_snd s2
  obtain ⟨es, ck, hm, hw⟩ := star_fst s3
  have hm2 := hh.m m _ hm
  have hlt : r < w.heap.size := by
    rcases Nat.lt_or_ge r w.heap.size with h | h
    · exact h
    · rw [Array.getElem?_eq_none h] at hr; cases hr
  have hcell : w.cell? ⟨r, 0, none⟩ = some (.map (some m)) := by
    unfold World.cell?
    simp only [hr]
    rfl
  have hwf : ∀ e ∈ es.toList, ∃ k : Int, e.key = .int .i64 k ∧ (Lit.int .i64 k).wf = true := fun e he => by
    obtain ⟨k, h1, h2⟩ := hw.key e he
    obtain ⟨h3, h4⟩ := hk k (by rw [h2]; simp)
    exact ⟨k, h1, by simp [Lit.wf, IntKind.min, IntKind.max, IntKind.signed, IntKind.bits]; omega⟩
  let R : Value → Option (DataW Unit × List MemPlace) := fun _ => some (.nil, [])
  have hu3 : Try.prog.underlying 3 = some (.int .i64) := by kernel_rfl
  have hrd : ∀ e ∈ es.toList, ∀ k, e.key = .int .i64 k → (Lit.int .i64 k).wf = true → WideElems.rd Try.prog 3 R e = some (.int .i64 k, .nil) := fun e he k h1 h2 => by
    unfold WideElems.rd
    have : keyOf Try.prog 3 e.key = some (.int .i64 k) := by
      unfold keyOf mapKey
      rw [hu3, h1]
      simp [h2]
    rw [this]; rfl
  have hnd : (es.toList.map (·.key)).Nodup := List.pairwise_map.2 hw.kd
  have hsz : es.size ≤ N := by
    have h1 : (es.toList.map fun e => match e.key with | .int _ k => k | _ => 0).Perm (keysN gm N) := by
      have := keysN_sorted hk hw (List.Perm.refl _)
      rw [← this]; exact (List.mergeSort_perm _ _).symm
    have h2 := h1.length_eq
    rw [List.length_map, Array.length_toList] at h2
    rw [h2]
    unfold keysN
    refine Nat.le_trans (List.length_filter_le _ _) ?_
    simp
  have hfit : WideElems.Fit Try.prog 3 R es ck := by
    refine ⟨?_, ⟨hw.bl, List.pairwise_map.2 hw.bd, hnd⟩, fun e he => ?_⟩
    · have : maxLen = 9223372036854775807 := rfl
      omega
    · obtain ⟨k, h1, h2⟩ := hwf e he
      exact ⟨_, hrd e he k h1 h2⟩
  have hown : w.ownsMap Try.prog 3 R m es.size (.map ((es.toList.map (WideElems.rg Try.prog 3 R)).foldr DataW.insert [])) := ⟨es, ck, hm2, hfit, Nat.le_refl _, rfl⟩
  have hperm : (intKeys (DataW.map ((es.toList.map (WideElems.rg Try.prog 3 R)).foldr DataW.insert []))).Perm (es.toList.map fun e => match e.key with | .int _ k => k | _ => 0) := by
    show List.Perm (List.map _ _) _
    refine ((Go.WideShapes.sorted_perm _).map _).trans ?_
    rw [List.map_map]
    refine List.Perm.of_eq (List.map_congr_left fun e he => ?_)
    obtain ⟨k, h1, h2⟩ := hwf e he
    show Go.intOf (WideElems.rg Try.prog 3 R e).1 = _
    rw [WideElems.rg_of (hrd e he k h1 h2), h1]; rfl
  have hDs : Maps.size (DataW.map ((es.toList.map (WideElems.rg Try.prog 3 R)).foldr DataW.insert [])) ≤ N := by
    have h1 := hperm.length_eq
    have h3 : (es.toList.map fun e => match e.key with | .int _ k => k | _ => 0).length = es.size := by rw [List.length_map, Array.length_toList]
    have h2 : (intKeys (DataW.map ((es.toList.map (WideElems.rg Try.prog 3 R)).foldr DataW.insert []))).length = ((es.toList.map (WideElems.rg Try.prog 3 R)).foldr DataW.insert []).length := List.length_map _
    show ((es.toList.map (WideElems.rg Try.prog 3 R)).foldr DataW.insert []).length ≤ N
    rw [← h2, h1, h3]; exact hsz
  have hseq := AnyZI.keys_gives (ρ := Try.keysA_ren) { Try.keysA with } Fence.wide 2 trivial rfl (by omega) r m es.size _ w hlt hcell hown
  have cS := AnyZI.sorted_in Try.sortedA Fence.wide 5 trivial trivial trivial trivial rfl (by omega) (Try.sortsA _) (enters_of Try.func100 (by kernel_rfl) rfl) 101 #[.pointer (some ⟨r, 0, none⟩)] trivial (enters_of Try.func101 (by kernel_rfl) rfl) _ _ (by have : maxLen = 9223372036854775807 := rfl; omega) (by omega) _ hseq
  change CallsIn _ _ Try.prog 70 _ _ _ at cS
  refine (callsIn_wide.1 cS).mono fun e w' ⟨v, ss, he, hS, hrow, hnil, hb⟩ => ?_
  subst he
  have hks := keysN_sorted hk hw (hS.trans hperm)
  have hlen : ss.length = (keysN gm N).length := by rw [← hks, List.length_mergeSort]
  rw [hks, hlen] at hrow
  obtain ⟨_, hrow⟩ := hrow
  have hold : ∀ c o, w.heap[c]? = some o → w'.heap[c]? = some o ∧ c < w.heap.size := fun c o h => by
    have hl : c < w.heap.size := by
      rcases Nat.lt_or_ge c w.heap.size with h2 | h2
      · exact h2
      · rw [Array.getElem?_eq_none h2] at h; cases h
    exact ⟨(hb.block c hl).trans h, hl⟩
  rcases hrow with ⟨rfl, hz⟩ | ⟨g, cap, cur, rfl, hg, hgb, h1, h2, h3, h4⟩
  · refine ⟨_, H, M, rfl, ⟨hb.os.trans hh.os, hb.tape.trans hh.tape, hb.output.trans hh.output, Nat.le_trans hh.size hb.size, fun c o h => (hold c o (hh.h c o h)).1, fun c o h => (hold c o (hh.m c o h)).1, hh.d⟩, _, ⟨none, 0, by rw [hz], rfl⟩, ?_⟩
    refine ⟨fun _ => none, M, (fun _ _ h => nomatch h), Le.refl _, fun _ => .inl rfl, .inr ⟨hz, none, by rw [hz]⟩, s3⟩
  · have hfr : Fresh H M g := by
      constructor
      · cases e : H g with
        | none => rfl
        | some o => have := (hold g o (hh.h g o e)).2; omega
      · cases e : M g with
        | none => rfl
        | some o => have := (hold g o (hh.m g o e)).2; omega
    refine ⟨_, H, upd M g (.cells cur 3 (0, 0)), rfl, ⟨hb.os.trans hh.os, hb.tape.trans hh.tape, hb.output.trans hh.output, Nat.le_trans hh.size hb.size, fun c o h => (hold c o (hh.h c o h)).1, fun c o h => ?_, fun c h => ?_⟩, _, ⟨some ⟨g, 0, none⟩, cap, rfl, rfl⟩, ?_⟩
    · by_cases e : c = g
      · subst e; rw [upd_same] at h; cases h; exact hgb
      · rw [upd_ne e] at h; exact (hold c o (hh.m c o h)).1
    · by_cases e : c = g
      · subst e; exact absurd hfr.1 h
      · rw [upd_ne e]; exact hh.d c h
    · refine star_monoL (C := SO 3 1 _ _ _) (fun H M h => .inl (own_row rfl h1 (by omega) (by rw [Nat.mul_one] at h4; exact h4) h)) (own_new hfr s3)
end Go.Proofs.Ytgbbcpfnmkeijaa
/- Small ones of the pool's laws: kind, most, Areas, Super, Free, Unref, Steps, Cached. -/
namespace Go.Proofs.Ytgbbcpfnmkeijaa
open Go.Cam
set_option maxRecDepth 100000
/-- which of so many kinds -/
def kindI (c : Int) (n : Nat) : Nat := (if c < 0 then -(c + 1) else c).toNat % n
theorem kindI_lt (c : Int) {n : Nat} (h : 0 < n) : kindI c n < n := Nat.mod_lt _ h
theorem kind_c (c : Int) (n : Nat) (hc : -9223372036854775808 ≤ c ∧ c ≤ 9223372036854775807) (hn : 0 < n) (hn2 : n < 1000000) : Ctr Try.prog 26 [.int .i64 c, .int .i64 n] [] (fun v Bs => v = .int .i64 (kindI c n : Nat) ∧ Bs = []) := by
  unfold kindI
  refine s_enter 13 [(0, _), (1, _)] (fun F => [F]) Try.func26 fun F => ?_
  refine go_ ?_
  refine s_if (fun h => ?_) (fun h => ?_)
  · rw [if_pos h]
    refine go_ ?_
    rw [wrap_id (x := 0 - (c + 1)) (by omega) (by omega)]
    refine s_look (lk_rem (q := (n : Int)) (by omega)) ?_
    rw [show (0 - (c + 1)).tmod (n : Int) = (((-(c + 1)).toNat % n : Nat) : Int) by rw [Int.tmod_eq_emod_of_nonneg (by omega), Int.natCast_emod, Int.toNat_of_nonneg (by omega)]; congr 1; omega]
    refine go_ ?_
    exact s_ret1 (rs := [.tmp 4]) Try.func26 rfl (by intro j; refine RVS.tmp _ rfl ?_; exact RVS.nil) (⟨rfl, rfl⟩) (by repeat (first | exact Ent.nil | refine Ent.per (by repeat (first | with_reducible exact Sel.here | with_reducible apply Sel.there)) ?_ | refine Ent.cons (by repeat (first | with_reducible exact Sel.here | with_reducible apply Sel.there)) ?_))
  · rw [if_neg h]
    refine go_ ?_
    refine s_look (lk_rem (q := (n : Int)) (by omega)) ?_
    rw [show c.tmod (n : Int) = ((c.toNat % n : Nat) : Int) by rw [Int.tmod_eq_emod_of_nonneg (by omega), Int.natCast_emod, Int.toNat_of_nonneg (by omega)]]
    refine go_ ?_
    exact s_ret1 (rs := [.tmp 4]) Try.func26 rfl (by intro j; refine RVS.tmp _ rfl ?_; exact RVS.nil) (⟨rfl, rfl⟩) (by repeat (first | exact Ent.nil | refine Ent.per (by repeat (first | with_reducible exact Sel.here | with_reducible apply Sel.there)) ?_ | refine Ent.cons (by repeat (first | with_reducible exact Sel.here | with_reducible apply Sel.there)) ?_))
theorem most_c (k : Int) : Ctr Try.prog 66 [.int .i64 k] [] (fun v Bs => v = .tuple #[.int .i64 (if k = 5 then 128 else if k = 6 then 236 else 0), .bool (decide (k = 5 ∨ k = 6))] ∧ Bs = []) := by
  refine s_enter 9 [(0, _)] (fun F => [F]) Try.func66 fun F => ?_
  refine go_ ?_
  refine s_ieq (fun h => ?_) (fun h => ?_)
  · rw [if_pos h, decide_eq_true (p := k = 5 ∨ k = 6) (.inl h)]
    refine go_ ?_
    exact s_rett (rs := [.tmp 2, .tmp 3]) (vs := [_, _]) Try.func66 rfl (by intro j; refine RVS.tmp _ rfl ?_; refine RVS.tmp _ rfl ?_; exact RVS.nil) rfl (⟨rfl, rfl⟩) (by repeat (first | exact Ent.nil | refine Ent.per (by repeat (first | with_reducible exact Sel.here | with_reducible apply Sel.there)) ?_ | refine Ent.cons (by repeat (first | with_reducible exact Sel.here | with_reducible apply Sel.there)) ?_))
  · rw [if_neg h]
    refine go_ ?_
    refine s_ieq (fun h2 => ?_) (fun h2 => ?_)
    · rw [if_pos h2, decide_eq_true (p := k = 5 ∨ k = 6) (.inr h2)]
      refine go_ ?_
      exact s_rett (rs := [.tmp 2, .tmp 3]) (vs := [_, _]) Try.func66 rfl (by intro j; refine RVS.tmp _ rfl ?_; refine RVS.tmp _ rfl ?_; exact RVS.nil) rfl (⟨rfl, rfl⟩) (by repeat (first | exact Ent.nil | refine Ent.per (by repeat (first | with_reducible exact Sel.here | with_reducible apply Sel.there)) ?_ | refine Ent.cons (by repeat (first | with_reducible exact Sel.here | with_reducible apply Sel.there)) ?_))
    · rw [if_neg h2, decide_eq_false (p := k = 5 ∨ k = 6) (by omega)]
      refine go_ ?_
      exact s_rett (rs := [.tmp 2, .tmp 3]) (vs := [_, _]) Try.func66 rfl (by intro j; refine RVS.tmp _ rfl ?_; refine RVS.tmp _ rfl ?_; exact RVS.nil) rfl (⟨rfl, rfl⟩) (by repeat (first | exact Ent.nil | refine Ent.per (by repeat (first | with_reducible exact Sel.here | with_reducible apply Sel.there)) ?_ | refine Ent.cons (by repeat (first | with_reducible exact Sel.here | with_reducible apply Sel.there)) ?_))
theorem rareas_c (n : Nat) (h : n < 100000) : Ctr Try.prog 31 [.int .i64 n] [] (fun v Bs => v = .tuple #[.int .i64 (areaN n : Nat), .int .i64 (firstN n : Nat)] ∧ Bs = []) := by
  refine s_enter 15 [(0, _)] (fun F => [F]) Try.func31 fun F => ?_
  refine go_ ?_
  refine s_loop (fun i : Nat => [(0, .int .i64 n), (4, .int .i64 i)]) (fun _ => [F]) (fun i => i ≤ areaN n) (fun i => areaN n - i) 0 (Nat.zero_le _) (by repeat (first | exact Ent.nil | refine Ent.per (by repeat (first | with_reducible exact Sel.here | with_reducible apply Sel.there)) ?_ | refine Ent.cons (by repeat (first | with_reducible exact Sel.here | with_reducible apply Sel.there)) ?_)) ?_
  intro i hi next
  have ha : areaN n ≤ n := by unfold areaN; omega
  refine go_ ?_
  rw [wrap_id (x := (i : Int) * 118) (by omega) (by omega)]
  refine go_ ?_
  refine s_if (fun h1 => ?_) (fun h1 => ?_)
  · have : i < areaN n := by unfold areaN; omega
    refine go_ ?_
    exact s_entF (by repeat (first | exact Ent.nil | refine Ent.per (by repeat (first | with_reducible exact Sel.here | with_reducible apply Sel.there)) ?_ | refine Ent.cons (by repeat (first | with_reducible exact Sel.here | with_reducible apply Sel.there)) ?_)) (s_keep _ (next (i + 1) (by omega) (by omega)))
  · have : i = areaN n := by unfold areaN at *; omega
    subst this
    refine go_ ?_
    rw [wrap_id (x := 2 * ((areaN n : Nat) : Int)) (by omega) (by omega), wrap_id (x := 2 + 2 * ((areaN n : Nat) : Int)) (by omega) (by omega), show 2 + 2 * ((areaN n : Nat) : Int) = ((firstN n : Nat) : Int) by unfold firstN; omega]
    exact s_rett (rs := [.tmp 2, .tmp 3]) (vs := [_, _]) Try.func31 rfl (by intro j; refine RVS.tmp _ rfl ?_; refine RVS.tmp _ rfl ?_; exact RVS.nil) rfl (⟨rfl, rfl⟩) (by repeat (first | exact Ent.nil | refine Ent.per (by repeat (first | with_reducible exact Sel.here | with_reducible apply Sel.there)) ?_ | refine Ent.cons (by repeat (first | with_reducible exact Sel.here | with_reducible apply Sel.there)) ?_))
theorem psuper_c (p b g n bc m : Nat) : Ctr Try.prog 32 [.pointer (some ⟨p, 0, none⟩)] [PoB p b g n bc m] (fun v Bs => v = .agg (supL g n).toArray ∧ Bs = [PoB p b g n bc m]) := by
  refine s_enter 7 [(0, _)] (fun F => [_, F]) Try.func32 fun F => ?_
  refine go_ ?_
  refine s_alloc fun r2 => ?_
  refine go_ ?_
  exact s_ret1 (rs := [.cell 2 82]) Try.func32 rfl (by intro j; refine RVS.cell _ _ rfl (by repeat (first | with_reducible exact Sel.here | with_reducible apply Sel.there)) (by rfl) ?_; exact RVS.nil) (⟨rfl, rfl⟩) (by repeat (first | exact Ent.nil | refine Ent.per (by repeat (first | with_reducible exact Sel.here | with_reducible apply Sel.there)) ?_ | refine Ent.cons (by repeat (first | with_reducible exact Sel.here | with_reducible apply Sel.there)) ?_))
theorem dsteps_c (b : Nat) (σ : Dr) : Ctr Try.prog 36 [.pointer (some ⟨b, 0, none⟩)] [DrA b σ] (fun v Bs => v = .int .i64 (σ.steps : Nat) ∧ Bs = [DrA b σ]) := by
  refine s_enter 7 [(0, _)] (fun F => [_, F]) Try.func36 fun F => ?_
  refine s_opn (φ := DrOk σ) (X := Dr.parts b σ) (by repeat (first | with_reducible exact Sel.here | with_reducible apply Sel.there)) fun x hx => ?_
  unfold Dr.parts
  refine s_nrm ?_
  refine go_ ?_
  refine s_cls (φ := DrOk σ) (X := Dr.parts b σ) x hx (by repeat (first | exact Split.nil | apply Split.perx (by repeat (first | with_reducible exact Sel.here | with_reducible apply Sel.there)) (by infer_instance) | apply Split.cons (by repeat (first | with_reducible exact Sel.here | with_reducible apply Sel.there)))) ?_
  exact s_ret1 (rs := [.tmp 2]) Try.func36 rfl (by intro j; refine RVS.tmp _ rfl ?_; exact RVS.nil) (⟨rfl, rfl⟩) (by repeat (first | exact Ent.nil | refine Ent.per (by repeat (first | with_reducible exact Sel.here | with_reducible apply Sel.there)) ?_ | refine Ent.cons (by repeat (first | with_reducible exact Sel.here | with_reducible apply Sel.there)) ?_))
/-- how many sectors are free -/
def Ct.freeN (σ : Ct) : Nat → Nat → Nat
  | 0, _ => 0
  | m + 1, i => (if σ.now i = 0 ∧ σ.done i = 0 then 1 else 0) + σ.freeN m (i + 1)
theorem Ct.freeN_le (σ : Ct) : ∀ m i, σ.freeN m i ≤ m
  | 0, _ => Nat.le_refl _
  | m + 1, i => by have := σ.freeN_le m (i + 1); rw [Ct.freeN]; split <;> omega
theorem cfreeN_c (b : Nat) (σ : Ct) (h1 : 32 ≤ σ.n) (h2 : σ.n ≤ 2048) : Ctr Try.prog 65 [.pointer (some ⟨b, 0, none⟩)] [CtA b σ] (fun v Bs => v = .int .i64 (σ.freeN (σ.n - firstN σ.n) (firstN σ.n) : Nat) ∧ Bs = [CtA b σ]) := by
  have hf := firstN_lt h1 h2
  refine s_enter 24 [(0, _)] (fun F => [_, F]) Try.func65 fun F => ?_
  refine go_ ?_
  refine s_opn (φ := CtOk σ) (X := Ct.parts b σ) (by repeat (first | with_reducible exact Sel.here | with_reducible apply Sel.there)) fun x hx => ?_
  unfold Ct.parts
  refine s_nrm ?_
  refine go_ ?_
  refine s_cls (φ := CtOk σ) (X := Ct.parts b σ) x hx (by repeat (first | exact Split.nil | apply Split.perx (by repeat (first | with_reducible exact Sel.here | with_reducible apply Sel.there)) (by infer_instance) | apply Split.cons (by repeat (first | with_reducible exact Sel.here | with_reducible apply Sel.there)))) ?_
  refine s_loop (fun q : Nat × Nat => [(0, .pointer (some ⟨b, 0, none⟩)), (3, .int .i64 q.2), (4, .int .i64 q.1)]) (fun _ => [CtA b σ, F]) (fun q => q.1 ≤ σ.n ∧ q.2 + σ.freeN (σ.n - q.1) q.1 = σ.freeN (σ.n - firstN σ.n) (firstN σ.n) ∧ q.2 ≤ q.1) (fun q => σ.n - q.1) (firstN σ.n, 0) ⟨by dsimp only; omega, by simp, Nat.zero_le _⟩ (by repeat (first | exact Ent.nil | refine Ent.per (by repeat (first | with_reducible exact Sel.here | with_reducible apply Sel.there)) ?_ | refine Ent.cons (by repeat (first | with_reducible exact Sel.here | with_reducible apply Sel.there)) ?_)) ?_
  rintro ⟨i, t⟩ ⟨hi, ht, hti⟩ next
  dsimp only at hi ht hti next ⊢
  refine go_ ?_
  refine s_opn (φ := CtOk σ) (X := Ct.parts b σ) (by repeat (first | with_reducible exact Sel.here | with_reducible apply Sel.there)) fun x hx => ?_
  unfold Ct.parts
  refine s_nrm ?_
  refine go_ ?_
  refine s_cls (φ := CtOk σ) (X := Ct.parts b σ) x hx (by repeat (first | exact Split.nil | apply Split.perx (by repeat (first | with_reducible exact Sel.here | with_reducible apply Sel.there)) (by infer_instance) | apply Split.cons (by repeat (first | with_reducible exact Sel.here | with_reducible apply Sel.there)))) ?_
  refine s_if (fun h => ?_) (fun h => ?_)
  · have hi2 : i < σ.n := by omega
    obtain ⟨m, hm⟩ : ∃ m, σ.n - i = m + 1 := ⟨σ.n - i - 1, by omega⟩
    rw [hm, Ct.freeN] at ht
    refine go_ ?_
    refine s_call (sp := (by repeat (first | exact Split.nil | apply Split.perx (by repeat (first | with_reducible exact Sel.here | with_reducible apply Sel.there)) (by infer_instance) | apply Split.cons (by repeat (first | with_reducible exact Sel.here | with_reducible apply Sel.there))))) (hs := cfree_c b σ i hi2) (h := ?_)
    rintro v Bs ⟨rfl, rfl⟩
    cases hd : decide (σ.now i = 0 ∧ σ.done i = 0) with
    | true =>
      rw [if_pos (of_decide_eq_true hd)] at ht
      refine go_ ?_
      exact s_entF (by repeat (first | exact Ent.nil | refine Ent.per (by repeat (first | with_reducible exact Sel.here | with_reducible apply Sel.there)) ?_ | refine Ent.cons (by repeat (first | with_reducible exact Sel.here | with_reducible apply Sel.there)) ?_)) (s_keep _ (next (i + 1, t + 1) ⟨by dsimp only; omega, by dsimp only; rw [show σ.n - (i + 1) = m by omega]; omega, by dsimp only; omega⟩ (by dsimp only; omega)))
    | false =>
      rw [if_neg (of_decide_eq_false hd)] at ht
      refine go_ ?_
      exact s_entF (by repeat (first | exact Ent.nil | refine Ent.per (by repeat (first | with_reducible exact Sel.here | with_reducible apply Sel.there)) ?_ | refine Ent.cons (by repeat (first | with_reducible exact Sel.here | with_reducible apply Sel.there)) ?_)) (s_keep _ (next (i + 1, t) ⟨by dsimp only; omega, by dsimp only; rw [show σ.n - (i + 1) = m by omega]; omega, by dsimp only; omega⟩ (by dsimp only; omega)))
  · rw [show σ.n - i = 0 by omega, Ct.freeN] at ht
    have : t = σ.freeN (σ.n - firstN σ.n) (firstN σ.n) := by omega
    subst this
    refine go_ ?_
    exact s_ret1 (rs := [.tmp 2]) Try.func65 rfl (by intro j; refine RVS.tmp _ rfl ?_; exact RVS.nil) (⟨rfl, rfl⟩) (by repeat (first | exact Ent.nil | refine Ent.per (by repeat (first | with_reducible exact Sel.here | with_reducible apply Sel.there)) ?_ | refine Ent.cons (by repeat (first | with_reducible exact Sel.here | with_reducible apply Sel.there)) ?_))
theorem pfree_c (p b g n bc m : Nat) (σ : Ct) (h1 : 32 ≤ σ.n) (h2 : σ.n ≤ 2048) : Ctr Try.prog 33 [.pointer (some ⟨p, 0, none⟩)] [PoB p b g n bc m, CtA bc σ] (fun v Bs => v = .int .i64 (σ.freeN (σ.n - firstN σ.n) (firstN σ.n) : Nat) ∧ Bs = [PoB p b g n bc m, CtA bc σ]) := by
  refine s_enter 8 [(0, _)] (fun F => [_, _, F]) Try.func33 fun F => ?_
  refine go_ ?_
  refine s_call (sp := (by repeat (first | exact Split.nil | apply Split.perx (by repeat (first | with_reducible exact Sel.here | with_reducible apply Sel.there)) (by infer_instance) | apply Split.cons (by repeat (first | with_reducible exact Sel.here | with_reducible apply Sel.there))))) (hs := cfreeN_c bc σ h1 h2) (h := ?_)
  rintro v Bs ⟨rfl, rfl⟩
  refine go_ ?_
  exact s_ret1 (rs := [.tmp 2]) Try.func33 rfl (by intro j; refine RVS.tmp _ rfl ?_; exact RVS.nil) (⟨rfl, rfl⟩) (by repeat (first | exact Ent.nil | refine Ent.per (by repeat (first | with_reducible exact Sel.here | with_reducible apply Sel.there)) ?_ | refine Ent.cons (by repeat (first | with_reducible exact Sel.here | with_reducible apply Sel.there)) ?_))
theorem cunref_c (b : Nat) (σ : Ct) (k : Nat) (hk : k < σ.n) (h0 : σ.now k ≠ 0) : Ctr Try.prog 69 [.pointer (some ⟨b, 0, none⟩), .int .i64 k] [CtA b σ] (fun v Bs => v = .tuple #[.int .i64 (σ.now k - 1 : Nat), .int .i64 0] ∧ Bs = [CtA b { σ with now := nset σ.now k (σ.now k - 1) }]) := by
  refine s_enter 26 [(0, _), (1, _)] (fun F => [_, F]) Try.func69 fun F => ?_
  refine go_ ?_
  refine s_call (sp := (by repeat (first | exact Split.nil | apply Split.perx (by repeat (first | with_reducible exact Sel.here | with_reducible apply Sel.there)) (by infer_instance) | apply Split.cons (by repeat (first | with_reducible exact Sel.here | with_reducible apply Sel.there))))) (hs := cget_c b σ k) (h := ?_)
  rintro v Bs ⟨rfl, rfl⟩
  rw [if_pos ⟨by omega, by omega⟩, Int.toNat_natCast]
  refine go_ ?_
  refine s_ieq (p := ((σ.now k : Nat) : Int)) (q := 0) (fun h => absurd h (by omega)) (fun h => ?_)
  refine go_ ?_
  refine s_opn (φ := CtOk σ) (X := Ct.parts b σ) (by repeat (first | with_reducible exact Sel.here | with_reducible apply Sel.there)) fun x hx => ?_
  unfold Ct.parts
  refine s_nrm ?_
  have hw := hx.w k
  refine go_ ?_
  rw [show ((σ.now k : Nat) : Int) - 1 = ((σ.now k - 1 : Nat) : Int) by omega]
  refine s_stepU (st_ste (i := k) (fo := 0) (m' := 1) (vs := [.int .i64 (σ.now k - 1 : Nat)]) (v := .slice x.a σ.n x.c) (by repeat (first | with_reducible exact Sel.here | with_reducible apply Sel.there))) ?_
  rintro _ _ rfl
  refine s_open (SA.cg (intR (nset σ.now k (σ.now k - 1))) fun q _ => intR_put σ.now k (σ.now k - 1) q) ?_
  refine go_ ?_
  have hv : nset σ.now k (σ.now k - 1) k = σ.now k - 1 := by unfold nset; rw [if_pos rfl]
  rw [hv]
  refine s_cls (φ := CtOk { σ with now := nset σ.now k (σ.now k - 1) }) (X := Ct.parts b { σ with now := nset σ.now k (σ.now k - 1) }) x ⟨hx.n1, hx.n2, fun q => by show nset _ _ _ _ ≤ _; unfold nset; split; omega; exact hx.w q, hx.d⟩ (by repeat (first | exact Split.nil | apply Split.perx (by repeat (first | with_reducible exact Sel.here | with_reducible apply Sel.there)) (by infer_instance) | apply Split.cons (by repeat (first | with_reducible exact Sel.here | with_reducible apply Sel.there)))) ?_
  exact s_rett (rs := [.tmp 4, .tmp 5]) (vs := [_, _]) Try.func69 rfl (by intro j; refine RVS.tmp _ rfl ?_; refine RVS.tmp _ rfl ?_; exact RVS.nil) rfl (⟨rfl, rfl⟩) (by repeat (first | exact Ent.nil | refine Ent.per (by repeat (first | with_reducible exact Sel.here | with_reducible apply Sel.there)) ?_ | refine Ent.cons (by repeat (first | with_reducible exact Sel.here | with_reducible apply Sel.there)) ?_))
theorem punref_c (p b g n bc m : Nat) (σ : Ct) (k : Nat) (hk : k < σ.n) (h0 : σ.now k ≠ 0) : Ctr Try.prog 35 [.pointer (some ⟨p, 0, none⟩), .int .i64 k] [PoB p b g n bc m, CtA bc σ] (fun v Bs => v = .tuple #[.int .i64 (σ.now k - 1 : Nat), .int .i64 0] ∧ Bs = [PoB p b g n bc m, CtA bc { σ with now := nset σ.now k (σ.now k - 1) }]) := by
  refine s_enter 14 [(0, _), (1, _)] (fun F => [_, _, F]) Try.func35 fun F => ?_
  refine go_ ?_
  refine s_call (sp := (by repeat (first | exact Split.nil | apply Split.perx (by repeat (first | with_reducible exact Sel.here | with_reducible apply Sel.there)) (by infer_instance) | apply Split.cons (by repeat (first | with_reducible exact Sel.here | with_reducible apply Sel.there))))) (hs := cunref_c bc σ k hk h0) (h := ?_)
  rintro v Bs ⟨rfl, rfl⟩
  refine go_ ?_
  exact s_rett (rs := [.tmp 4, .tmp 5]) (vs := [_, _]) Try.func35 rfl (by intro j; refine RVS.tmp _ rfl ?_; refine RVS.tmp _ rfl ?_; exact RVS.nil) rfl (⟨rfl, rfl⟩) (by repeat (first | exact Ent.nil | refine Ent.per (by repeat (first | with_reducible exact Sel.here | with_reducible apply Sel.there)) ?_ | refine Ent.cons (by repeat (first | with_reducible exact Sel.here | with_reducible apply Sel.there)) ?_))
end Go.Proofs.Ytgbbcpfnmkeijaa
/- How much a map has that has nothing. -/
namespace Go.Cam
section
variable {P : Program} {l : List (Nat × Value)} {As Bs : List HP} {d : Nat} {oty : TypeId} {pos : String} {af : Array Edge} {g : Option (Nat × Bool)}
theorem lk_lenm0 {t elem r : Nat} {x : Operand} {gm : Int → Option Value} [mt : MTY P t elem] (s : Sel (MG r gm) As Bs) (hg : ∀ k, gm k = none) (hx : ∀ j, ev (mk l j) x = .map (some r) := by intro j; rfl) :
    LookS P ⟨some d, .call ⟨.builtin .len, #[x], #[t]⟩, oty, pos, af, g⟩ l As (.int .i64 0) := .mk fun j H M q => by
  obtain ⟨es, ck, h1, h2⟩ := s.hold q
  have he : es.size = 0 := by
    rcases Nat.eq_zero_or_pos es.size with h | h
    · exact h
    · obtain ⟨k, _, h4⟩ := h2.key (es.toList[0]'(by simpa using h)) (List.getElem_mem _)
      rw [hg k] at h4; cases h4
  refine qt_exec (s := Builtin.len_ #[t] oty #[.map (some r)]) ?_ ?_
  · show (resolve (ev (mk l j)) ⟨.builtin .len, #[x], #[t]⟩ oty >>= fun d => invoke d.target d.args) = _
    have e1 : #[x].map (ev (mk l j)) = #[ev (mk l j) x] := by simp
    unfold resolve
    dsimp only
    rw [e1, hx j]
    rfl
  obtain ⟨key, hu, hk⟩ := mt.h
  unfold Builtin.len_
  simp only [List.getElem?_toArray, List.getElem?_cons_zero]
  refine hq_bind (hq_cst hu) ?_
  dsimp only
  refine hq_bind (hq_get (.inl h1)) ?_
  dsimp only
  rw [he]
  exact hq_pure
end
end Go.Cam
