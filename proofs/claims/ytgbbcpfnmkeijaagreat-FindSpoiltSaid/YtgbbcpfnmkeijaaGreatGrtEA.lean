/- FindScans. -/
import Derived.Test.YtgbbcpfnmkeijaaGreatGrtBJ
import Derived.Test.YtgbbcpfnmkeijaaGreatCamAQ
import Derived.Test.YtgbbcpfnmkeijaaGreatRows
import Derived.Shelf.SlIterI.Nil
import Derived.Shelf.SortM.Plain
import Derived.Shelf.SortM.SortNone
import Derived.Ground.GgzProg
import Derived.Ground.SlgmProg
import Derived.Test.YtgbbcpfnmkeijaaGreatProg
import Derived.Test.YtgbbcpfnmkeijaaGreatGrtAP
import Derived.Test.YtgbbcpfnmkeijaaGreatGrtAV
import Derived.Test.YtgbbcpfnmkeijaaGreatGrtBB
import Derived.Test.YtgbbcpfnmkeijaaGreatGrtW
import Derived.Test.YtgbbcpfnmkeijaaGreatGrtF
namespace Go.Proofs.YtgbbcpfnmkeijaaGreat
open Go.Cam
set_option maxRecDepth 100000
/-- what a World's value hands over -/
structure Wrld where
  l : List Item
  a : Option Addr
  c : Nat
  w : Nat → Option Addr × Nat
  cs : List Int
  b : Option Addr
  d : Nat
abbrev Wrld.v (x : Wrld) : Value := .agg #[.slice x.a x.l.length x.c, .slice x.b x.cs.length x.d]
abbrev Wrld.A (x : Wrld) : HP := SA none 4 (.slice x.a x.l.length x.c) x.l.length (itemRow x.w x.l)
abbrev Wrld.C (x : Wrld) : HP := SA none 1 (.slice x.b x.cs.length x.d) x.cs.length (pathR x.cs)
structure Wrld.ok (x : Wrld) : Prop where
  n : x.l.length < 9223372036854775808
  b : ∀ y ∈ x.l, Bys y.val
  m : x.cs.length < 9223372036854775808
  r : ∀ q, q < x.cs.length → -9223372036854775808 ≤ x.cs.getD q 0 ∧ x.cs.getD q 0 ≤ 9223372036854775807
end Go.Proofs.YtgbbcpfnmkeijaaGreat
/- What is handed in, as items, keys and worlds. -/
namespace Go.Proofs.YtgbbcpfnmkeijaaGreat
open Go.Cam
set_option maxRecDepth 100000
def keySh : Sh := .cat (.int .i64) (.cat (.int .i64) (.cat (.int .i64) .emp))
def itemSh : Sh := .cat keySh (.cat (.slice 1 (.int .u8)) .emp)
def worldSh : Sh := .cat (.slice 4 itemSh) (.cat (.slice 1 (.int .i64)) .emp)
structure Key.i64 (k : Key) : Prop where
  a : -9223372036854775808 ≤ k.obj ∧ k.obj ≤ 9223372036854775807
  b : -9223372036854775808 ≤ k.kind ∧ k.kind ≤ 9223372036854775807
  c : -9223372036854775808 ≤ k.off ∧ k.off ≤ 9223372036854775807
theorem key_of {H : Heap} {cs : List Value} (h : keySh.ok H cs) : ∃ k : Key, cs = k.row ∧ k.i64 := by
  obtain ⟨_, _, rfl, ⟨a, rfl, ha⟩, _, _, rfl, ⟨b, rfl, hb⟩, _, _, rfl, ⟨c, rfl, hc⟩, rfl⟩ := h
  exact ⟨⟨a, b, c⟩, rfl, wf_i64 ha, wf_i64 hb, wf_i64 hc⟩
theorem item_of {H : Heap} {cs : List Value} (h : itemSh.ok H cs) : ∃ x : Item × (Option Addr × Nat), cs = [.int .i64 x.1.key.obj, .int .i64 x.1.key.kind, .int .i64 x.1.key.off, .slice x.2.1 x.1.val.length x.2.2] ∧ Bys x.1.val ∧ ∀ M, (BS (.slice x.2.1 x.1.val.length x.2.2) x.1.val).p H M := by
  obtain ⟨_, _, rfl, hk, _, _, rfl, hb, rfl⟩ := h
  obtain ⟨k, rfl, _⟩ := key_of hk
  obtain ⟨a, c, l, rfl, h1, h2, h3⟩ := Sh.bytes hb
  exact ⟨(⟨k, l⟩, (a, c)), rfl, h1, h3⟩
theorem items_of {H : Heap} {cs : List Value} (h : (Sh.slice 4 itemSh).ok H cs) : ∃ a c w, ∃ l : List Item, cs = [.slice a l.length c] ∧ l.length < 9223372036854775808 ∧ (∀ x ∈ l, Bys x.val) ∧ ∀ M, (SA none 4 (.slice a l.length c) l.length (itemRow w l)).p H M ∧ (IFam w l).p H M := by
  obtain ⟨a, len, cap, row, rfl, h1, h2, h3, h4⟩ := h
  have hm : maxLen = 9223372036854775807 := rfl
  haveI : Inhabited (Item × (Option Addr × Nat)) := ⟨(default, (none, 0))⟩
  obtain ⟨xs, rfl, hxs⟩ := list_choose len fun i hi => item_of (h4 i hi)
  have hd : ∀ i, i < xs.length → (xs.map (·.1)).getD i default = (xs.getD i default).1 := fun i hi => by simp [List.getD_eq_getElem?_getD, hi]
  refine ⟨a, cap, fun i => (xs.getD i default).2, xs.map (·.1), by simp, by simp; omega, fun x hx => ?_, fun M => ⟨?_, fun i hi => ?_⟩⟩
  · obtain ⟨y, hy, rfl⟩ := List.mem_map.1 hx
    obtain ⟨i, hi, rfl⟩ := List.mem_iff_getElem.1 hy
    have := (hxs i hi).2.1
    rwa [getD_get hi] at this
  · rw [List.length_map]
    exact SA.cg _ (fun i hi => by rw [(hxs i hi).1]; unfold itemRow; rw [hd i hi]) H M (h3 M)
  · rw [List.length_map] at hi
    show (itemFam _ _ i).p H M
    unfold itemFam
    rw [hd i hi]
    exact (hxs i hi).2.2 M
theorem world_of {H : Heap} {cs : List Value} (h : worldSh.ok H cs) : ∃ x : Wrld, cs.toArray = #[.slice x.a x.l.length x.c, .slice x.b x.cs.length x.d] ∧ x.ok ∧ ∀ M, x.A.p H M ∧ (IFam x.w x.l).p H M ∧ x.C.p H M := by
  obtain ⟨_, _, rfl, hl, _, _, rfl, hc, rfl⟩ := h
  obtain ⟨a, c, w, l, rfl, h1, h2, h3⟩ := items_of hl
  obtain ⟨b, d, zs, rfl, h4, h5, h6⟩ := Sh.ints hc
  exact ⟨⟨l, a, c, w, zs, b, d⟩, rfl, ⟨h1, h2, h5, h4⟩, fun M => ⟨(h3 M).1, (h3 M).2, h6 M⟩⟩
end Go.Proofs.YtgbbcpfnmkeijaaGreat
/- What the ties of the laws of find in this seat need. -/
namespace Go.Proofs.YtgbbcpfnmkeijaaGreat
open Go.Cam
set_option maxRecDepth 100000
theorem Tryz.own : ownKnob Tryz.prog.godebug = none := by kernel_rfl
theorem Tryz.laidOut : laidOutB Tryz.prog = true := by kernel_rfl
end Go.Proofs.YtgbbcpfnmkeijaaGreat
/- The numbers at which the library's contracts of maps.Keys, slices.Sorted and slices.Sort stand in this program (printed by the kit's tool). -/
namespace Go.Proofs.YtgbbcpfnmkeijaaGreat
open Go.Shelf
def Tryz.keysA_ren : Go.Shelf.Ren := ⟨fun | 7 => 42 | 10 => 80 | n => n, fun | 23 => 81 | 26 => 3 | 3 => 90 | 28 => 103 | 0 => 0 | 27 => 102 | 33 => 118 | 4 => 4 | n => n, fun | n => n⟩
theorem Tryz.keysA : Go.Proofs.SlLaysZI.n7 Tryz.prog Tryz.keysA_ren := {
  mixed := by kernel_rfl
  f7 := ⟨Tryz.f42.name, by decide, Tryz.func42.trans (congrArg some (by kernel_rfl))⟩
  f10 := ⟨Tryz.f80.name, by decide, Tryz.func80.trans (congrArg some (by kernel_rfl))⟩
  t0 := Tryz.underlying0
  a0 := Tryz.isAgg0
  z0 := Tryz.sizeOf0
  v0 := Tryz.zeroValue0
  t4 := Tryz.underlying4
  a4 := Tryz.isAgg4
  z4 := Tryz.sizeOf4
  v4 := Tryz.zeroValue4
  t23 := Tryz.underlying81
  a23 := Tryz.isAgg81
  z23 := Tryz.sizeOf81
  v23 := Tryz.zeroValue81
  t26 := Tryz.underlying3
  a26 := Tryz.isAgg3
  z26 := Tryz.sizeOf3
  v26 := Tryz.zeroValue3
  t27 := Tryz.underlying102
  a27 := Tryz.isAgg102
  z27 := Tryz.sizeOf102
  v27 := Tryz.zeroValue102
  t28 := Tryz.underlying103
  a28 := Tryz.isAgg103
  z28 := Tryz.sizeOf103
  v28 := Tryz.zeroValue103
  t33 := Tryz.underlying118
  a33 := Tryz.isAgg118
  z33 := Tryz.sizeOf118
  v33 := Tryz.zeroValue118 }
def Tryz.sortedA_ren : Go.Shelf.Ren := ⟨fun | 6 => 41 | 8 => 78 | 9 => 79 | 11 => 109 | 13 => 111 | 12 => 110 | 23 => 130 | 24 => 131 | 14 => 121 | 15 => 122 | 16 => 123 | 17 => 124 | 18 => 125 | 19 => 126 | 20 => 127 | 21 => 128 | 22 => 129 | 25 => 136 | 26 => 137 | 27 => 138 | 28 => 139 | 29 => 140 | 30 => 114 | 31 => 142 | n => n, fun | 26 => 3 | 28 => 103 | 24 => 31 | 0 => 0 | 3 => 3 | 37 => 185 | 48 => 155 | 50 => 188 | 4 => 4 | 40 => 200 | 39 => 199 | 45 => 116 | 5 => 5 | 9 => 9 | 51 => 215 | 55 => 219 | 57 => 222 | 58 => 135 | 33 => 118 | n => n, fun | n => n⟩
theorem Tryz.sortedA : Go.Proofs.SlLaysZI.n6 Tryz.prog Tryz.sortedA_ren := {
  mixed := by kernel_rfl
  f6 := ⟨Tryz.f41.name, by decide, Tryz.func41.trans (congrArg some (by kernel_rfl))⟩
  f8 := ⟨Tryz.f78.name, by decide, Tryz.func78.trans (congrArg some (by kernel_rfl))⟩
  f11 := ⟨Tryz.f109.name, by decide, Tryz.func109.trans (congrArg some (by kernel_rfl))⟩
  t0 := Tryz.underlying0
  a0 := Tryz.isAgg0
  z0 := Tryz.sizeOf0
  v0 := Tryz.zeroValue0
  t24 := Tryz.underlying31
  a24 := Tryz.isAgg31
  z24 := Tryz.sizeOf31
  v24 := Tryz.zeroValue31
  t26 := Tryz.underlying3
  a26 := Tryz.isAgg3
  z26 := Tryz.sizeOf3
  v26 := Tryz.zeroValue3
  t28 := Tryz.underlying103
  a28 := Tryz.isAgg103
  z28 := Tryz.sizeOf103
  v28 := Tryz.zeroValue103
  i26 := by kernel_rfl }
def Tryz.sortA_ren : Go.Shelf.Ren := ⟨fun | 5 => 79 | 8 => 111 | 7 => 110 | 19 => 130 | 20 => 131 | 10 => 121 | 11 => 122 | 12 => 123 | 13 => 124 | 14 => 125 | 15 => 126 | 16 => 127 | 17 => 128 | 18 => 129 | 30 => 136 | 31 => 137 | 32 => 138 | 33 => 139 | 34 => 140 | 35 => 114 | 40 => 142 | n => n, fun | 23 => 31 | 25 => 3 | 3 => 3 | 32 => 185 | 22 => 31 | 0 => 0 | 44 => 155 | 46 => 188 | 4 => 4 | 36 => 200 | 35 => 199 | 41 => 116 | 5 => 5 | 9 => 9 | 53 => 215 | 57 => 219 | 63 => 222 | 64 => 135 | n => n, fun | n => n⟩
theorem Tryz.sortA : Go.Proofs.SlLaysM.n5 Tryz.prog Tryz.sortA_ren := {
  mixed := by kernel_rfl
  f5 := ⟨Tryz.f79.name, by decide, Tryz.func79.trans (congrArg some (by kernel_rfl))⟩
  f7 := ⟨Tryz.f110.name, by decide, Tryz.func110.trans (congrArg some (by kernel_rfl))⟩
  f8 := Tryz.func111.trans (congrArg some (by kernel_rfl))
  f10 := ⟨Tryz.f121.name, by decide, Tryz.func121.trans (congrArg some (by kernel_rfl))⟩
  f11 := ⟨Tryz.f122.name, by decide, Tryz.func122.trans (congrArg some (by kernel_rfl))⟩
  f12 := ⟨Tryz.f123.name, by decide, Tryz.func123.trans (congrArg some (by kernel_rfl))⟩
  f13 := ⟨Tryz.f124.name, by decide, Tryz.func124.trans (congrArg some (by kernel_rfl))⟩
  f14 := ⟨Tryz.f125.name, by decide, Tryz.func125.trans (congrArg some (by kernel_rfl))⟩
  f15 := ⟨Tryz.f126.name, by decide, Tryz.func126.trans (congrArg some (by kernel_rfl))⟩
  f16 := ⟨Tryz.f127.name, by decide, Tryz.func127.trans (congrArg some (by kernel_rfl))⟩
  f17 := ⟨Tryz.f128.name, by decide, Tryz.func128.trans (congrArg some (by kernel_rfl))⟩
  f18 := ⟨Tryz.f129.name, by decide, Tryz.func129.trans (congrArg some (by kernel_rfl))⟩
  f19 := Tryz.func130.trans (congrArg some (by kernel_rfl))
  f20 := Tryz.func131.trans (congrArg some (by kernel_rfl))
  f30 := ⟨Tryz.f136.name, by decide, Tryz.func136.trans (congrArg some (by kernel_rfl))⟩
  f31 := Tryz.func137.trans (congrArg some (by kernel_rfl))
  f32 := Tryz.func138.trans (congrArg some (by kernel_rfl))
  f33 := ⟨Tryz.f139.name, by decide, Tryz.func139.trans (congrArg some (by kernel_rfl))⟩
  f34 := ⟨Tryz.f140.name, by decide, Tryz.func140.trans (congrArg some (by kernel_rfl))⟩
  f35 := ⟨Tryz.f114.name, by decide, Tryz.func114.trans (congrArg some (by kernel_rfl))⟩
  f40 := ⟨Tryz.f142.name, by decide, Tryz.func142.trans (congrArg some (by kernel_rfl))⟩
  t0 := Tryz.underlying0
  a0 := Tryz.isAgg0
  z0 := Tryz.sizeOf0
  v0 := Tryz.zeroValue0
  t3 := Tryz.underlying3
  a3 := Tryz.isAgg3
  z3 := Tryz.sizeOf3
  v3 := Tryz.zeroValue3
  t4 := Tryz.underlying4
  a4 := Tryz.isAgg4
  z4 := Tryz.sizeOf4
  v4 := Tryz.zeroValue4
  t5 := Tryz.underlying5
  a5 := Tryz.isAgg5
  z5 := Tryz.sizeOf5
  v5 := Tryz.zeroValue5
  t9 := Tryz.underlying9
  a9 := Tryz.isAgg9
  z9 := Tryz.sizeOf9
  v9 := Tryz.zeroValue9
  t22 := Tryz.underlying31
  a22 := Tryz.isAgg31
  z22 := Tryz.sizeOf31
  v22 := Tryz.zeroValue31
  t23 := Tryz.underlying31
  a23 := Tryz.isAgg31
  z23 := Tryz.sizeOf31
  v23 := Tryz.zeroValue31
  t25 := Tryz.underlying3
  a25 := Tryz.isAgg3
  z25 := Tryz.sizeOf3
  v25 := Tryz.zeroValue3
  t32 := Tryz.underlying185
  a32 := Tryz.isAgg185
  z32 := Tryz.sizeOf185
  v32 := Tryz.zeroValue185
  t35 := Tryz.underlying199
  a35 := Tryz.isAgg199
  z35 := Tryz.sizeOf199
  v35 := Tryz.zeroValue199
  t36 := Tryz.underlying200
  a36 := Tryz.isAgg200
  z36 := Tryz.sizeOf200
  v36 := Tryz.zeroValue200
  t41 := Tryz.underlying116
  a41 := Tryz.isAgg116
  z41 := Tryz.sizeOf116
  v41 := Tryz.zeroValue116
  t44 := Tryz.underlying155
  a44 := Tryz.isAgg155
  z44 := Tryz.sizeOf155
  v44 := Tryz.zeroValue155
  t46 := Tryz.underlying188
  a46 := Tryz.isAgg188
  z46 := Tryz.sizeOf188
  v46 := Tryz.zeroValue188
  t53 := Tryz.underlying215
  a53 := Tryz.isAgg215
  z53 := Tryz.sizeOf215
  v53 := Tryz.zeroValue215
  t57 := Tryz.underlying219
  a57 := Tryz.isAgg219
  z57 := Tryz.sizeOf219
  v57 := Tryz.zeroValue219
  t63 := Tryz.underlying222
  a63 := Tryz.isAgg222
  z63 := Tryz.sizeOf222
  v63 := Tryz.zeroValue222
  t64 := Tryz.underlying135
  a64 := Tryz.isAgg135
  z64 := Tryz.sizeOf135
  v64 := Tryz.zeroValue135 }
end Go.Proofs.YtgbbcpfnmkeijaaGreat
/- The keys of a map, sorted: from the library's contracts to the walk's. -/
namespace Go.Proofs.YtgbbcpfnmkeijaaGreat
open Go.Cam Go.RowKit Go.Maps Go.Sort Go.Shelf
set_option maxRecDepth 100000
theorem Tryz.sortsA (m : Nat) : AnyZI.SortsIn Tryz.prog Tryz.sortedA_ren Fence.wide m :=
  ⟨fun blk off cap ss W hH hblk hsz => callsIn_wide.2 (AnyM.slices_Sort_int Tryz.sortA blk off cap ss W hH hblk hsz),
   fun p cap W => callsIn_wide.2 (AnyM.slices_Sort_int_none Tryz.sortA p cap W)⟩
theorem keys_c (m : Nat) : Ctr Tryz.prog 42 [.map (some m)] [] (fun v Bs => ∃ r, v = .func (.func 80) #[] #[.pointer (some ⟨r, 0, none⟩)] ∧ Bs = [Box r 81 [.map (some m)]]) := fun F H M s w0 w hh => by
  have h1 : Calls Tryz.prog 42 #[.map (some m)] w _ := (callsIn_wide (n := 5)).1 (AnyZI.keys_in Tryz.keysA Fence.wide 5 trivial rfl (some m) w)
  refine h1.mono fun e w' ⟨he, hw⟩ => ?_
  subst he; subst hw
  exact ⟨_, H, _, rfl, hh.push _, _, ⟨_, rfl, rfl⟩, own_new hh.fresh s⟩
/-- a map's keys, in order -/
def keysN (gm : Int → Option Value) (N : Nat) : List Int := ((List.range N).map fun (i : Nat) => (i : Int)).filter fun k => (gm k).isSome
theorem keysN_mem {gm : Int → Option Value} {N : Nat} (hk : ∀ k, gm k ≠ none → 0 ≤ k ∧ k < N) (k : Int) : k ∈ keysN gm N ↔ gm k ≠ none := by
  unfold keysN
  rw [List.mem_filter, List.mem_map]
  constructor
  · rintro ⟨_, h⟩ e; rw [e] at h; cases h
  · intro h
    obtain ⟨h1, h2⟩ := hk k h
    exact ⟨⟨k.toNat, List.mem_range.2 (by omega), by omega⟩, by cases hg : gm k with
      | none => exact absurd hg h
      | some v => rfl⟩
theorem keysN_lt (gm : Int → Option Value) (N : Nat) : (keysN gm N).Pairwise (· < ·) := by
  refine List.Pairwise.filter _ (List.pairwise_map.2 ?_)
  refine List.Pairwise.imp (R := (· < ·)) (fun h => by omega) List.pairwise_lt_range
theorem keysN_sorted {gm : Int → Option Value} {N : Nat} {es : List MapEntry} {ck : Nat} (hk : ∀ k, gm k ≠ none → 0 ≤ k ∧ k < N) (hw : WFM es ck gm) {ss : List Int} (hp : ss.Perm (es.map fun e => match e.key with | .int _ k => k | _ => 0)) :
    ss.mergeSort (fun x y => decide (x ≤ y)) = keysN gm N := by
  have hkey : ∀ e ∈ es, e.key = .int .i64 (match e.key with | .int _ k => k | _ => 0) := fun e he => by
    obtain ⟨k, h1, _⟩ := hw.key e he; rw [h1]
  have hnd : (es.map fun e => match e.key with | .int _ k => k | _ => 0).Nodup := by
    refine List.pairwise_map.2 (hw.kd.imp_of_mem fun {a b} ha hb hne e => hne ?_)
    rw [hkey a ha, hkey b hb, e]
  have hp2 : ss.Perm (keysN gm N) := by
    refine hp.trans ((List.perm_ext_iff_of_nodup hnd ((keysN_lt gm N).imp fun h => by omega)).2 fun k => ?_)
    rw [keysN_mem hk, List.mem_map]
    constructor
    · rintro ⟨e, he, rfl⟩
      obtain ⟨k, h1, h2⟩ := hw.key e he
      rw [h1]; dsimp only; rw [h2]; simp
    · intro h
      obtain ⟨v, hv⟩ : ∃ v, gm k = some v := by
        cases hg : gm k with
        | none => exact absurd hg h
        | some v => exact ⟨v, rfl⟩
      obtain ⟨e, he, h1⟩ := hw.all k v hv
      exact ⟨e, he, by rw [h1]⟩
  rw [show (fun x y : Int => decide (x ≤ y)) = leI from rfl, mergeSort_of_perm_i hp2]
  exact List.mergeSort_of_pairwise ((keysN_lt gm N).imp fun h => by simp [leI]; omega)
theorem flat_int (l : List Int) : flat l.length (pathR l) = l.map fun k => .int .i64 k := by
  unfold flat
  have : ∀ (n : Nat) (f : Nat → Value), (List.range n).flatMap (fun i => [f i]) = (List.range n).map f := fun n f => by
    induction List.range n with
    | nil => rfl
    | cons x xs ih => rw [List.flatMap_cons, ih]; rfl
  show ((List.range l.length).flatMap fun i => [Value.int .i64 (l.getD i 0)]) = _
  rw [this]
  apply List.ext_getElem?
  intro i
  by_cases h : i < l.length
  · simp [h, List.getD_eq_getElem?_getD]
  · simp [h]
theorem own_row {g e n cap : Nat} {cur : Array Value} {l : List Int} {H M : Heap} (hn : n = l.length) (hc : n ≤ cap) (hs : cur.size = cap) (ht : cur.toList.take n = l.map fun k => .int .i64 k) (h : (HP.own g (.cells cur e (0, 0))).p H M) : (SA (some e) 1 (.slice (some ⟨g, 0, none⟩) n cap) n (pathR l)).p H M := by
  subst hn
  have hf := flat_int l
  refine ⟨fun _ _ => rfl, ?_, .inr ⟨g, l.length, cap, cur, rfl, flat_len fun _ _ => rfl, by omega, hc, h, ?_⟩, _, _, rfl⟩
  · rw [hf, List.all_eq_true]
    intro u hu
    obtain ⟨k, _, rfl⟩ := List.mem_map.1 hu
    rfl
  · rw [hf, List.length_map, ht]
theorem sorted_c (m r : Nat) (gm : Int → Option Value) (N : Nat) (hN : N ≤ 1000000) (hk : ∀ k, gm k ≠ none → 0 ≤ k ∧ k < N) : Ctr Tryz.prog 41 [.func (.func 80) #[] #[.pointer (some ⟨r, 0, none⟩)]] [Box r 81 [.map (some m)], MG m gm]
    (fun v Bs => ∃ a c, v = .slice a (keysN gm N).length c ∧ Bs = [SO 3 1 (.slice a (keysN gm N).length c) (keysN gm N).length (pathR (keysN gm N)), MG m gm]) := fun F H M s w0 w hh => by
  have s2 : ((HP.own r (.cells #[.map (some m)] 81 (0, 0))).star (Sat [MG m gm, F])).p H M := s
  have hr := hh.m r _ (star_fst s2)
  have s3 := star_snd s2
  obtain ⟨es, ck, hm, hw⟩ := star_fst s3
  have hm2 := hh.m m _ hm
  have hlt : r < w.heap.size := by
    rcases Nat.lt_or_ge r w.heap.size with h | h
    · exact h
    · rw [Array.getElem?_eq_none h] at hr; cases hr
  have hcell : w.cell? ⟨r, 0, none⟩ = some (.map (some m)) := by
    unfold World.cell?
    simp only [hr]
    rfl
  have hwf : ∀ e ∈ es.toList, ∃ k : Int, e.key = .int .i64 k ∧ (Lit.int .i64 k).wf = true := fun e he => by
    obtain ⟨k, h1, h2⟩ := hw.key e he
    obtain ⟨h3, h4⟩ := hk k (by rw [h2]; simp)
    exact ⟨k, h1, by simp [Lit.wf, IntKind.min, IntKind.max, IntKind.signed, IntKind.bits]; omega⟩
  let R : Value → Option (DataW Unit × List MemPlace) := fun _ => some (.nil, [])
  have hu3 : Tryz.prog.underlying 3 = some (.int .i64) := by kernel_rfl
  have hrd : ∀ e ∈ es.toList, ∀ k, e.key = .int .i64 k → (Lit.int .i64 k).wf = true → WideElems.rd Tryz.prog 3 R e = some (.int .i64 k, .nil) := fun e he k h1 h2 => by
    unfold WideElems.rd
    have : keyOf Tryz.prog 3 e.key = some (.int .i64 k) := by
      unfold keyOf mapKey
      rw [hu3, h1]
      simp [h2]
    rw [this]; rfl
  have hnd : (es.toList.map (·.key)).Nodup := List.pairwise_map.2 hw.kd
  have hsz : es.size ≤ N := by
    have h1 : (es.toList.map fun e => match e.key with | .int _ k => k | _ => 0).Perm (keysN gm N) := by
      have := keysN_sorted hk hw (List.Perm.refl _)
      rw [← this]; exact (List.mergeSort_perm _ _).symm
    have h2 := h1.length_eq
    rw [List.length_map, Array.length_toList] at h2
    rw [h2]
    unfold keysN
    refine Nat.le_trans (List.length_filter_le _ _) ?_
    simp
  have hfit : WideElems.Fit Tryz.prog 3 R es ck := by
    refine ⟨?_, ⟨hw.bl, List.pairwise_map.2 hw.bd, hnd⟩, fun e he => ?_⟩
    · have : maxLen = 9223372036854775807 := rfl
      omega
    · obtain ⟨k, h1, h2⟩ := hwf e he
      exact ⟨_, hrd e he k h1 h2⟩
  have hown : w.ownsMap Tryz.prog 3 R m es.size (.map ((es.toList.map (WideElems.rg Tryz.prog 3 R)).foldr DataW.insert [])) := ⟨es, ck, hm2, hfit, Nat.le_refl _, rfl⟩
  have hperm : (intKeys (DataW.map ((es.toList.map (WideElems.rg Tryz.prog 3 R)).foldr DataW.insert []))).Perm (es.toList.map fun e => match e.key with | .int _ k => k | _ => 0) := by
    show List.Perm (List.map _ _) _
    refine ((Go.WideShapes.sorted_perm _).map _).trans ?_
    rw [List.map_map]
    refine List.Perm.of_eq (List.map_congr_left fun e he => ?_)
    obtain ⟨k, h1, h2⟩ := hwf e he
    show Go.intOf (WideElems.rg Tryz.prog 3 R e).1 = _
    rw [WideElems.rg_of (hrd e he k h1 h2), h1]; rfl
  have hDs : Maps.size (DataW.map ((es.toList.map (WideElems.rg Tryz.prog 3 R)).foldr DataW.insert [])) ≤ N := by
    have h1 := hperm.length_eq
    have h3 : (es.toList.map fun e => match e.key with | .int _ k => k | _ => 0).length = es.size := by rw [List.length_map, Array.length_toList]
    have h2 : (intKeys (DataW.map ((es.toList.map (WideElems.rg Tryz.prog 3 R)).foldr DataW.insert []))).length = ((es.toList.map (WideElems.rg Tryz.prog 3 R)).foldr DataW.insert []).length := List.length_map _
    show ((es.toList.map (WideElems.rg Tryz.prog 3 R)).foldr DataW.insert []).length ≤ N
    rw [← h2, h1, h3]; exact hsz
  have hseq := AnyZI.keys_gives (ρ := Tryz.keysA_ren) { Tryz.keysA with } Fence.wide 2 trivial rfl (by omega) r m es.size _ w hlt hcell hown
  have cS := AnyZI.sorted_in Tryz.sortedA Fence.wide 5 trivial trivial trivial trivial rfl (by omega) (Tryz.sortsA _) (enters_of Tryz.func79 (by kernel_rfl) rfl) 80 #[.pointer (some ⟨r, 0, none⟩)] trivial (enters_of Tryz.func80 (by kernel_rfl) rfl) _ _ (by have : maxLen = 9223372036854775807 := rfl; omega) (by omega) _ hseq
  change CallsIn _ _ Tryz.prog 41 _ _ _ at cS
  refine (callsIn_wide.1 cS).mono fun e w' ⟨v, ss, he, hS, hrow, hnil, hb⟩ => ?_
  subst he
  have hks := keysN_sorted hk hw (hS.trans hperm)
  have hlen : ss.length = (keysN gm N).length := by rw [← hks, List.length_mergeSort]
  rw [hks, hlen] at hrow
  obtain ⟨_, hrow⟩ := hrow
  have hold : ∀ c o, w.heap[c]? = some o → w'.heap[c]? = some o ∧ c < w.heap.size := fun c o h => by
    have hl : c < w.heap.size := by
      rcases Nat.lt_or_ge c w.heap.size with h2 | h2
      · exact h2
      · rw [Array.getElem?_eq_none h2] at h; cases h
    exact ⟨(hb.block c hl).trans h, hl⟩
  rcases hrow with ⟨rfl, hz⟩ | ⟨g, cap, cur, rfl, hg, hgb, h1, h2, h3, h4⟩
  · refine ⟨_, H, M, rfl, ⟨hb.os.trans hh.os, hb.tape.trans hh.tape, hb.output.trans hh.output, Nat.le_trans hh.size hb.size, fun c o h => (hold c o (hh.h c o h)).1, fun c o h => (hold c o (hh.m c o h)).1, hh.d⟩, _, ⟨none, 0, by rw [hz], rfl⟩, ?_⟩
    refine ⟨fun _ => none, M, (fun _ _ h => nomatch h), Le.refl _, fun _ => .inl rfl, .inr ⟨hz, none, by rw [hz]⟩, s3⟩
  · have hfr : Fresh H M g := by
      constructor
      · cases e : H g with
        | none => rfl
        | some o => have := (hold g o (hh.h g o e)).2; omega
      · cases e : M g with
        | none => rfl
        | some o => have := (hold g o (hh.m g o e)).2; omega
    refine ⟨_, H, upd M g (.cells cur 3 (0, 0)), rfl, ⟨hb.os.trans hh.os, hb.tape.trans hh.tape, hb.output.trans hh.output, Nat.le_trans hh.size hb.size, fun c o h => (hold c o (hh.h c o h)).1, fun c o h => ?_, fun c h => ?_⟩, _, ⟨some ⟨g, 0, none⟩, cap, rfl, rfl⟩, ?_⟩
    · by_cases e : c = g
      · subst e; rw [upd_same] at h; cases h; exact hgb
      · rw [upd_ne e] at h; exact (hold c o (hh.m c o h)).1
    · by_cases e : c = g
      · subst e; exact absurd hfr.1 h
      · rw [upd_ne e]; exact hh.d c h
    · refine star_monoL (C := SO 3 1 _ _ _) (fun H M h => .inl (own_row rfl h1 (by omega) (by rw [Nat.mul_one] at h4; exact h4) h)) (own_new hfr s3)
end Go.Proofs.YtgbbcpfnmkeijaaGreat
/- Small ones of the pool's laws: kind, most, Areas, Super, Free, Unref, Steps, Cached. -/
namespace Go.Proofs.YtgbbcpfnmkeijaaGreat
open Go.Cam
set_option maxRecDepth 100000
end Go.Proofs.YtgbbcpfnmkeijaaGreat
/- Small ones of the pool's laws: Cached; node.Write of no node; ContainsFunc. -/
namespace Go.Proofs.YtgbbcpfnmkeijaaGreat
open Go.Cam
set_option maxRecDepth 100000
theorem nwrite0_c (k g : Int) : Ctr Tryz.prog 44 [.agg #[.int .i64 0, .slice none 0 0, .slice none 0 0], .int .i64 k, .int .i64 g] [] (fun v Bs => v = .tuple #[.slice none 0 0, .int .i64 1] ∧ Bs = []) := by
  refine s_enter 72 [(0, _), (1, _), (2, _)] (fun F => [F]) Tryz.func44 fun F => ?_
  refine go_ ?_
  refine s_box fun r3 => ?_
  refine s_nilN (sz := 4) (m := 0) (row := itemRow (fun _ => (none, 0)) []) rfl ?_
  refine s_nilN (sz := 4) (m := 0) (row := kidRow []) rfl ?_
  refine go_ ?_
  refine s_call (sp := (by repeat (first | exact Split.nil | apply Split.perx (by repeat (first | with_reducible exact Sel.here | with_reducible apply Sel.there)) (by infer_instance) | apply Split.cons (by repeat (first | with_reducible exact Sel.here | with_reducible apply Sel.there))))) (hs := nmay_c ⟨0, [], []⟩ (a := none) (b := none) (n := 0) (c := 0) (m := 0) (d := 0) (w := fun _ => (none, 0)) rfl rfl (by decide) (by decide) (fun i hi => absurd hi (Nat.not_lt_zero _))) (h := ?_)
  rintro v Bs ⟨rfl, rfl⟩
  rw [show nodeOk ⟨0, [], []⟩ = false by rfl]
  refine go_ ?_
  exact s_rett (rs := [.tmp 6, .tmp 7]) (vs := [_, _]) Tryz.func44 rfl (by intro j; refine RVS.tmp _ rfl ?_; refine RVS.tmp _ rfl ?_; exact RVS.nil) rfl (⟨rfl, rfl⟩) (by repeat (first | exact Ent.nil | refine Ent.per (by repeat (first | with_reducible exact Sel.here | with_reducible apply Sel.there)) ?_ | refine Ent.cons (by repeat (first | with_reducible exact Sel.here | with_reducible apply Sel.there)) ?_))
structure OB where
  kind : Int
  l : List Nat
  a : Option Addr
  c : Nat
abbrev OB.v (o : OB) : Value := .agg #[.int .i64 o.kind, .int .i64 0, .slice none 0 0, .slice none 0 0, .slice o.a o.l.length o.c]
abbrev bmap (g : Int → Option OB) : Int → Option Value := fun k => (g k).map OB.v
section
variable {P : Program} {f : FuncId} {n : Nat} {R : Value → HP} {k : List It} {l : List (Nat × Value)} {As Bs Rs : List HP}
end
end Go.Proofs.YtgbbcpfnmkeijaaGreat
/- pool.Bytes. -/
namespace Go.Proofs.YtgbbcpfnmkeijaaGreat
open Go.Cam
set_option maxRecDepth 100000
theorem pcountN_c (p b gen n bc m : Nat) (σ : Ct) (k : Nat) (hk : k < σ.n) : Ctr Tryz.prog 43 [.pointer (some ⟨p, 0, none⟩), .int .i64 k] [PoB p b gen n bc m, CtA bc σ] (fun v Bs => v = .int .i64 (σ.now k : Nat) ∧ Bs = [PoB p b gen n bc m, CtA bc σ]) := by
  have := pcount_c p b gen n bc m σ (k : Int)
  rw [if_pos ⟨by omega, by omega⟩, Int.toNat_natCast] at this
  exact this
end Go.Proofs.YtgbbcpfnmkeijaaGreat
/- pool.Commit. -/
namespace Go.Proofs.YtgbbcpfnmkeijaaGreat
open Go.Cam
set_option maxRecDepth 100000
/-- the blocks that a commit writes -/
def putsW (σ : Ct) (g : Int → Option OB) (gn : Nat) : List Int → List (Nat × List Nat)
  | [] => []
  | k :: ks => (match g k with | some o => if σ.now k.toNat = 0 then [] else [(k.toNat, sealB ⟨5, k.toNat, o.l.length, 0, gn⟩ o.l)] | none => []) ++ putsW σ g gn ks
def Dr.puts (σ : Dr) : List (Nat × List Nat) → Dr × Bool
  | [] => (σ, true)
  | x :: ws => if (σ.write x.1 x.2).2 then (σ.write x.1 x.2).1.puts ws else ((σ.write x.1 x.2).1, false)
structure BmOk (σ : Ct) (g : Int → Option OB) : Prop where
  k : ∀ k, g k ≠ none → 0 ≤ k ∧ k < (σ.n : Nat)
  o : ∀ k o, g k = some o → o.kind = 5 ∧ o.l.length ≤ 128 ∧ Bys o.l
theorem bmap_none {g : Int → Option OB} {k : Int} : bmap g k ≠ none ↔ g k ≠ none := by
  unfold bmap
  cases g k <;> simp
end Go.Proofs.YtgbbcpfnmkeijaaGreat
/- key.Put; num.take, num.TakeText. -/
namespace Go.Proofs.YtgbbcpfnmkeijaaGreat
open Go.Cam
set_option maxRecDepth 100000
/-- a key's bytes -/
def keyP (k : Key) : List Nat := putN k.obj.toNat 4 ++ putN k.kind.toNat 1 ++ putN k.off.toNat 4
theorem keyP_len (k : Key) : (keyP k).length = 9 := by simp [keyP, putN_len]
theorem keyP_bys (k : Key) : Bys (keyP k) := by
  unfold keyP
  intro c hc
  simp only [List.mem_append] at hc
  rcases hc with (h | h) | h <;> exact putN_lt _ _ c h
theorem kput_c {a : Option Addr} {c : Nat} (l : List Nat) (k : Key) (hk : k.ok = true) (hl : l.length < 1000000 - 9) : Ctr Tryz.prog 83 [.slice a l.length c, k.v] [BS (.slice a l.length c) l]
    (fun v Bs => ∃ a' c', v = .slice a' (l ++ keyP k).length c' ∧ Bs = [BS (.slice a' (l ++ keyP k).length c') (l ++ keyP k)]) := by
  obtain ⟨h1, h2, h3, h4, h5, h6⟩ := of_decide_eq_true hk
  refine s_enter 15 [(0, _), (1, _)] (fun F => [_, F]) Tryz.func83 fun F => ?_
  refine go_ ?_
  refine s_box fun r3 => ?_
  refine go_ ?_
  obtain ⟨x, hx⟩ : ∃ x : Nat, k.obj = (x : Int) := ⟨k.obj.toNat, by omega⟩
  obtain ⟨y, hy⟩ : ∃ y : Nat, k.kind = (y : Int) := ⟨k.kind.toNat, by omega⟩
  obtain ⟨z, hz⟩ : ∃ z : Nat, k.off = (z : Int) := ⟨k.off.toNat, by omega⟩
  have e : keyP k = putN x 4 ++ putN y 1 ++ putN z 4 := by unfold keyP; rw [hx, hy, hz]; rfl
  rw [e, hx, hy, hz]
  refine s_front (a := BS (.slice a l.length c) l) (by repeat (first | with_reducible exact Sel.here | with_reducible apply Sel.there)) ?_
  refine s_drawN 1 [.q 0, .q 1, .q 2, .q 4, .q 5, .q 7, .q 8, .s 3, .s 6, .s 9, .q 10] ?_
  refine do_ ?_
  refine d_step rfl (st_call (sp := (by repeat (first | exact Split.nil | apply Split.perx (by repeat (first | with_reducible exact Sel.here | with_reducible apply Sel.there)) (by infer_instance) | apply Split.cons (by repeat (first | with_reducible exact Sel.here | with_reducible apply Sel.there))))) (hs := put_f (a := a) (c := c) l x 4 (by decide) (by decide) (by omega) (by omega))) ?_
  rintro v Bs ⟨Cs, ⟨a1, c1, rfl, rfl⟩, rfl⟩
  refine do_ ?_
  refine d_step rfl (st_call (sp := (by repeat (first | exact Split.nil | apply Split.perx (by repeat (first | with_reducible exact Sel.here | with_reducible apply Sel.there)) (by infer_instance) | apply Split.cons (by repeat (first | with_reducible exact Sel.here | with_reducible apply Sel.there))))) (hs := put_f (a := a1) (c := c1) (l ++ putN x 4) y 1 (by decide) (by decide) (by omega) (by simp [putN_len]; omega))) ?_
  rintro v Bs ⟨Cs, ⟨a2, c2, rfl, rfl⟩, rfl⟩
  refine do_ ?_
  refine d_step rfl (st_call (sp := (by repeat (first | exact Split.nil | apply Split.perx (by repeat (first | with_reducible exact Sel.here | with_reducible apply Sel.there)) (by infer_instance) | apply Split.cons (by repeat (first | with_reducible exact Sel.here | with_reducible apply Sel.there))))) (hs := put_f (a := a2) (c := c2) (l ++ putN x 4 ++ putN y 1) z 4 (by decide) (by decide) (by omega) (by simp [putN_len]; omega))) ?_
  rintro v Bs ⟨Cs, ⟨a3, c3, rfl, rfl⟩, rfl⟩
  refine do_ ?_
  refine go_ ?_
  rw [show l ++ putN x 4 ++ putN y 1 ++ putN z 4 = l ++ (putN x 4 ++ putN y 1 ++ putN z 4) by simp]
  exact s_ret1 (rs := [.tmp 4]) Tryz.func83 rfl (by intro j; refine RVS.tmp _ rfl ?_; exact RVS.nil) (⟨a3, c3, rfl, rfl⟩) (by repeat (first | exact Ent.nil | refine Ent.per (by repeat (first | with_reducible exact Sel.here | with_reducible apply Sel.there)) ?_ | refine Ent.cons (by repeat (first | with_reducible exact Sel.here | with_reducible apply Sel.there)) ?_))
end Go.Proofs.YtgbbcpfnmkeijaaGreat
