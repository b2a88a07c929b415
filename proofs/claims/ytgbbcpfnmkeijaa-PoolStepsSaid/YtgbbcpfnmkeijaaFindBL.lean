/- What is handed in, as items, keys and worlds. -/
import Derived.Test.YtgbbcpfnmkeijaaCamAN
namespace Go.Proofs.Ytgbbcpfnmkeijaa
open Go.Cam
set_option maxRecDepth 100000
def keySh : Sh := .cat (.int .i64) (.cat (.int .i64) (.cat (.int .i64) .emp))
def itemSh : Sh := .cat keySh (.cat (.slice 1 (.int .u8)) .emp)
def worldSh : Sh := .cat (.slice 4 itemSh) (.cat (.slice 1 (.int .i64)) .emp)
structure Key.i64 (k : Key) : Prop where
  a : -9223372036854775808 ≤ k.obj ∧ k.obj ≤ 9223372036854775807
  b : -9223372036854775808 ≤ k.kind ∧ k.kind ≤ 9223372036854775807
  c : -9223372036854775808 ≤ k.off ∧ k.off ≤ 9223372036854775807
theorem key_of {H : Heap} {cs : List Value} (h : keySh.ok H cs) : ∃ k : Key, cs = k.row ∧ k.i64 := by
  obtain ⟨_, _, rfl, ⟨a, rfl, ha⟩, _, _, rfl, ⟨b, rfl, hb⟩, _, _, rfl, ⟨c, rfl, hc⟩, rfl⟩ := h
  exact ⟨⟨a, b, c⟩, rfl, wf_i64 ha, wf_i64 hb, wf_i64 hc⟩
theorem item_of {H : Heap} {cs : List Value} (h : itemSh.ok H cs) : ∃ x : Item × (Option Addr × Nat), cs = [.int .i64 x.1.key.obj, .int .i64 x.1.key.kind, .int .i64 x.1.key.off, .slice x.2.1 x.1.val.length x.2.2] ∧ Bys x.1.val ∧ ∀ M, (BS (.slice x.2.1 x.1.val.length x.2.2) x.1.val).p H M := by
  obtain ⟨_, _, rfl, hk, _, _, rfl, hb, rfl⟩ := h
  obtain ⟨k, rfl, _⟩ := key_of hk
  obtain ⟨a, c, l, rfl, h1, h2, h3⟩ := Sh.bytes hb
  exact ⟨(⟨k, l⟩, (a, c)), rfl, h1, h3⟩
theorem items_of {H : Heap} {cs : List Value} (h : (Sh.slice 4 itemSh).ok H cs) : ∃ a c w, ∃ l : List Item, cs = [.slice a l.length c] ∧ l.length < 9223372036854775808 ∧ (∀ x ∈ l, Bys x.val) ∧ ∀ M, (SA none 4 (.slice a l.length c) l.length (itemRow w l)).p H M ∧ (IFam w l).p H M := by
  obtain ⟨a, len, cap, row, rfl, h1, h2, h3, h4⟩ := h
  have hm : maxLen = 9223372036854775807 := rfl
  haveI : Inhabited (Item × (Option Addr × Nat)) := ⟨(default, (none, 0))⟩
  obtain ⟨xs, rfl, hxs⟩ := list_choose len fun i hi => item_of (h4 i hi)
  have hd : ∀ i, i < xs.length → (xs.map (·.1)).getD i default = (xs.getD i default).1 := fun i hi => by simp [List.getD_eq_getElem?_getD, hi]
  refine ⟨a, cap, fun i => (xs.getD i default).2, xs.map (·.1), by simp, by simp; omega, fun x hx => ?_, fun M => ⟨?_, fun i hi => ?_⟩⟩
  · obtain ⟨y, hy, rfl⟩ := List.mem_map.1 hx
    obtain ⟨i, hi, rfl⟩ := List.mem_iff_getElem.1 hy
    have := (hxs i hi).2.1
    rwa [getD_get hi] at this
  · rw [List.length_map]
    exact SA.cg _ (fun i hi => by rw [(hxs i hi).1]; unfold itemRow; rw [hd i hi]) H M (h3 M)
  · rw [List.length_map] at hi
    show (itemFam _ _ i).p H M
    unfold itemFam
    rw [hd i hi]
    exact (hxs i hi).2.2 M
theorem world_of {H : Heap} {cs : List Value} (h : worldSh.ok H cs) : ∃ x : Wrld, cs.toArray = #[.slice x.a x.l.length x.c, .slice x.b x.cs.length x.d] ∧ x.ok ∧ ∀ M, x.A.p H M ∧ (IFam x.w x.l).p H M ∧ x.C.p H M := by
  obtain ⟨_, _, rfl, hl, _, _, rfl, hc, rfl⟩ := h
  obtain ⟨a, c, w, l, rfl, h1, h2, h3⟩ := items_of hl
  obtain ⟨b, d, zs, rfl, h4, h5, h6⟩ := Sh.ints hc
  exact ⟨⟨l, a, c, w, zs, b, d⟩, rfl, ⟨h1, h2, h5, h4⟩, fun M => ⟨(h3 M).1, (h3 M).2, h6 M⟩⟩
end Go.Proofs.Ytgbbcpfnmkeijaa
