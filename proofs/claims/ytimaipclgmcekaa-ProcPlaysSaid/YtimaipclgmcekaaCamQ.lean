/- What was handed in, as flat rows of cells: slices of structs. -/
import Derived.Test.YtimaipclgmcekaaCamP
import Derived.Deep.Slices
namespace Go.Cam
open Go.ChangeShapes Go.WideShapes Go.Deep
inductive Kd where
  | int (k : IntKind)
  | str
  | bool
def Kd.fits : Kd → Value → Prop
  | .int k, v => ∃ n, v = .int k n ∧ (Lit.int k n).wf = true
  | .str, v => ∃ s : ByteArray, v = .string s ∧ s.size ≤ maxLen
  | .bool, v => ∃ b, v = .bool b
def Fit : List Kd → List Value → Prop
  | [], [] => True
  | k :: ks, v :: vs => k.fits v ∧ Fit ks vs
  | _, _ => False
theorem Fit.append : ∀ {a b : List Kd} {x y : List Value}, Fit a x → Fit b y → Fit (a ++ b) (x ++ y)
  | [], _, [], _, _, h => h
  | _ :: _, _, _ :: _, _, h1, h2 => ⟨h1.1, h1.2.append h2⟩
  | [], _, _ :: _, _, h, _ => h.elim
  | _ :: _, _, [], _, h, _ => h.elim
theorem Fit.len : ∀ {a : List Kd} {x : List Value}, Fit a x → x.length = a.length
  | [], [], _ => rfl
  | _ :: _, _ :: _, h => by simp [h.2.len]
  | [], _ :: _, h => h.elim
  | _ :: _, [], h => h.elim
/-- a type's leaves, in the order of its cells -/
def flatF (P : Program) (rec : TypeId → Option (List Kd)) : List Field → Nat → Option (List Kd)
  | [], _ => some []
  | f :: r, off => if f.offset = off then (rec f.type).bind fun ks => if ks.length = P.cellsOf f.type then (flatF P rec r (off + P.cellsOf f.type)).map fun ks' => ks ++ ks' else none else none
def flatK (P : Program) : Nat → TypeId → Option (List Kd)
  | 0, _ => none
  | d + 1, t => match P.underlying t with
    | some (.int k) => some [.int k]
    | some .string => some [.str]
    | some .bool => some [.bool]
    | some (.struct fs) => (flatF P (flatK P d) fs.toList 0).bind fun ks => if ks.length = P.cellsOf t then some ks else none
    | _ => none
section
variable {H : Type} {enc : TypeId × Value → H} {P : Program} {w : World} {base : Nat} {spare : Nat → Bool} {held : Bool}
theorem flatF_fit {d : Nat} {n : Nat} {cs : List Value} (ih : ∀ t cs x ks, DataW.trod enc P w base spare held n t cs = some x → flatK P d t = some ks → Fit ks cs) :
    ∀ (fs : List Field) (off : Nat) (ks : List Kd), (∀ f, f ∈ fs → ∃ x, DataW.trod enc P w base spare held n f.type ((cs.drop f.offset).take (P.cellsOf f.type)) = some x) → flatF P (flatK P d) fs off = some ks → Fit ks ((cs.drop off).take ks.length)
  | [], off, ks, _, h => by
    simp only [flatF, Option.some.injEq] at h
    subst h; simp [Fit]
  | f :: r, off, ks, hf, h => by
    unfold flatF at h
    split at h
    · rename_i ho
      subst ho
      obtain ⟨k1, h1, h2⟩ := Option.bind_eq_some_iff.1 h
      split at h2
      · rename_i hl
        obtain ⟨k2, h3, rfl⟩ := Option.map_eq_some_iff.1 h2
        obtain ⟨x, hx⟩ := hf f (by simp)
        have a := ih _ _ _ _ hx h1
        have b := flatF_fit ih r _ k2 (fun g hg => hf g (by simp [hg])) h3
        have hsplit : (cs.drop f.offset).take (k1 ++ k2).length = (cs.drop f.offset).take (P.cellsOf f.type) ++ (cs.drop (f.offset + P.cellsOf f.type)).take k2.length := by
          rw [List.length_append, hl, List.take_add, List.drop_drop]
        rw [hsplit]
        exact a.append b
      · cases h2
    · cases h
theorem flatK_fit : ∀ (d : Nat) (n : Nat) (t : TypeId) (cs : List Value) (x : DataW H × List MemPlace) (ks : List Kd), DataW.trod enc P w base spare held n t cs = some x → flatK P d t = some ks → Fit ks cs
  | 0, _, _, _, _, _, _, h => by simp [flatK] at h
  | d + 1, n, t, cs, x, ks, ht, h => by
    unfold flatK at h
    split at h
    · rename_i k hu
      cases h
      obtain ⟨v, rfl, _, hw⟩ := DataW.trod_int hu ht
      exact ⟨⟨v, rfl, hw⟩, trivial⟩
    · rename_i hu
      cases h
      obtain ⟨v, rfl, _, hw⟩ := DataW.trod_string hu ht
      exact ⟨⟨v, rfl, hw⟩, trivial⟩
    · rename_i hu
      cases h
      obtain ⟨v, rfl, _⟩ := DataW.trod_bool hu ht
      exact ⟨⟨v, rfl⟩, trivial⟩
    · rename_i fs hu
      obtain ⟨k1, h1, h2⟩ := Option.bind_eq_some_iff.1 h
      split at h2
      · rename_i hl
        cases h2
        obtain ⟨xs, m, rfl, _, hlen, hxl, hf⟩ := DataW.trod_struct hu ht
        have := flatF_fit (cs := cs) (fun t cs x ks a b => flatK_fit d m t cs x ks a b) fs.toList 0 ks (fun f hfm => by
          obtain ⟨i, hi, rfl⟩ := List.getElem_of_mem hfm
          have hi' : i < fs.size := by simpa using hi
          have := hf i fs[i] (by simp [hi'])
          refine ⟨xs[i]'(by omega), ?_⟩
          rw [show fs.toList[i] = fs[i] by simp]
          rw [this]; exact List.getElem?_eq_getElem (by omega)) h1
        rw [List.drop_zero, hl, ← hlen, List.take_of_length_le (Nat.le_refl _)] at this
        exact this
      · cases h2
    · cases h
/-- a slice of structs, each a flat row of cells that are only read -/
def Rows (H0 : Heap) (v : Value) (sz len : Nat) (row : Nat → List Value) : Prop :=
  ∃ base cap, v = .slice base len cap ∧ ∀ i, i < len → ∃ b off c ty fr, base = some ⟨b, off, none⟩ ∧ H0 b = some (.cells c ty fr) ∧ off + i * sz + sz ≤ c.size ∧ c.extract (off + i * sz) (off + i * sz + sz) = (row i).toArray
theorem cell_in {W : World} {b o : Nat} {v : Value} (h : W.cell? ⟨b, o, none⟩ = some v) : ∃ c ty fr, W.heap[b]? = some (.cells c ty fr) ∧ c[o]? = some v := by
  unfold World.cell? at h
  split at h
  · rename_i c ty fr hb
    exact ⟨c, ty, fr, hb, by simpa using h⟩
  · cases h
theorem rows_of {t e : TypeId} {sz : Nat} {ks : List Kd} {v : Value} {x : DataW H} {ps : List MemPlace} (ht : P.underlying t = some (.slice e)) (hsz : P.cellsOf e = sz) (h0 : 0 < sz) (d : Nat) (hk : flatK P d e = some ks)
    (hv : ∃ a len cap, v = .slice a len cap) (h : DataW.Trod enc P w base (fun _ => true) held t v x ps) : ∃ len row, Rows (fun b => w.heap[b]?) v sz len row ∧ ∀ i, i < len → Fit ks (row i) := by
  obtain ⟨fuel, hf⟩ := h
  obtain ⟨a0, len0, cap0, rfl⟩ := hv
  rcases open_slice ht hf with ⟨hcs, hx⟩ | ⟨a, len, cap, m, n, D, Pl, hcs, _, hl, hm, hmm, hx, hi⟩
  · simp [Value.cells] at hcs
    obtain ⟨rfl, rfl, rfl⟩ := hcs
    exact ⟨0, fun _ => [], ⟨none, 0, rfl, fun i hi => by omega⟩, fun i hi => by omega⟩
  · simp [Value.cells] at hcs
    obtain ⟨rfl, rfl, rfl⟩ := hcs
    simp only [if_true] at hmm
    subst hmm
    rw [hsz] at hi
    have hch : ∀ i, ∃ cs', i < m → w.cells? base (a.add (i * sz)) sz = some cs' ∧ DataW.trod enc P w base (fun _ => true) held n e cs' = some (D i, Pl i) := fun i => by
      by_cases c : i < m
      · obtain ⟨cs', h1⟩ := hi i c; exact ⟨cs', fun _ => h1⟩
      · exact ⟨[], fun h => absurd h c⟩
    refine ⟨len0, fun i => (hch i).choose, ⟨some a, m, rfl, fun i hil => ?_⟩, fun i hil => ?_⟩
    · obtain ⟨h1, h2⟩ := (hch i).choose_spec (by omega)
      dsimp only
      generalize (hch i).choose = cs' at *
      obtain ⟨_, hlen, hat⟩ := World.cells?_some h1
      obtain ⟨cs0, hz1, _⟩ := hi 0 (by omega)
      obtain ⟨_, hlen0, hat0⟩ := World.cells?_some hz1
      have hfirst := hat0 0 h0
      rw [List.getElem?_eq_getElem (by omega)] at hfirst
      obtain ⟨b, off, spot⟩ := a
      have hspot : spot = none := by
        have := World.cell?_spot hfirst
        simpa [Addr.add] using this
      subst hspot
      have hat' : ∀ q, q < sz → w.cell? ⟨b, off + i * sz + q, none⟩ = cs'[q]? := fun q hq => by
        have := hat q hq
        rwa [addr_add, addr_add] at this
      have hf0 := hat' 0 h0
      rw [List.getElem?_eq_getElem (by omega)] at hf0
      obtain ⟨c, ty, fr, hb, _⟩ := cell_in hf0
      have hall : ∀ q, q < sz → c[off + i * sz + q]? = cs'[q]? := fun q hq => by
        have h3 := hat' q hq
        rw [List.getElem?_eq_getElem (by omega)] at h3 ⊢
        obtain ⟨c', ty', fr', hb', hc'⟩ := cell_in h3
        rw [hb] at hb'; cases hb'; exact hc'
      have hsize : off + i * sz + sz ≤ c.size := by
        have := hall (sz - 1) (by omega)
        rw [List.getElem?_eq_getElem (by omega)] at this
        have := (Array.getElem?_eq_some_iff.1 this).1
        omega
      refine ⟨b, off, c, ty, fr, rfl, hb, hsize, ?_⟩
      apply Array.ext'
      apply List.ext_getElem?
      intro q
      rw [Array.toList_extract, List.extract_eq_take_drop, List.getElem?_take]
      by_cases hq : q < sz
      · rw [if_pos (by omega), List.getElem?_drop]
        have := hall q hq
        simpa using this
      · rw [if_neg (by omega)]
        exact (List.getElem?_eq_none (by simp; omega)).symm
    · obtain ⟨h1, h2⟩ := (hch i).choose_spec (by omega)
      exact flatK_fit d n e _ _ ks h2 hk
end
end Go.Cam
