/- From what a row of the law hands over to assertions, and from a contract to what the row asks. -/
import Derived.Test.YtimaipclgmcekaaCamAA
import Derived.Test.YtimaipclgmcekaaCamZ
namespace Go.Cam
open Go.ChangeShapes Go.WideShapes Go.ChangeAt Go.RowKit Go.Deep
theorem extract_rows {c : Array Value} {off sz : Nat} {row : Nat → List Value} : ∀ {n : Nat}, (∀ i, i < n → c.extract (off + i * sz) (off + i * sz + sz) = (row i).toArray ∧ off + i * sz + sz ≤ c.size) → c.extract off (off + n * sz) = (flat n row).toArray
  | 0, _ => by simp [flat]; omega
  | n + 1, h => by
    have ih := extract_rows (n := n) fun i hi => h i (by omega)
    obtain ⟨h1, h2⟩ := h n (by omega)
    have e1 := congrArg Array.toList ih
    have e2 := congrArg Array.toList h1
    rw [Array.toList_extract, List.extract_eq_take_drop, Nat.add_sub_cancel_left] at e1 e2
    dsimp only at e1 e2
    apply Array.ext'
    rw [Array.toList_extract, List.extract_eq_take_drop, Nat.add_sub_cancel_left, flat_succ, Nat.add_mul, Nat.one_mul, List.take_add, e1, List.drop_drop, e2]
section
variable {H : Type} {enc : TypeId × Value → H} {P : Program} {w : World} {base : Nat} {held : Bool}
theorem rows_sa {t e : TypeId} {sz : Nat} {ks : List Kd} {v : Value} {x : DataW H} {ps : List MemPlace} (ht : P.underlying t = some (.slice e)) (hsz : P.cellsOf e = sz) (h0 : 0 < sz) (d : Nat) (hk : flatK P d e = some ks) (hks : ks.length = sz)
    (hv : ∃ a len cap, v = .slice a len cap) (h : DataW.Trod enc P w base (fun _ => true) true t v x ps) : ∃ a len cap row, v = .slice a len cap ∧ (∀ i, i < len → Fit ks (row i)) ∧ ∀ M, (SA none sz (.slice a len cap) len row).p (fun b => w.heap[b]?) M := by
  have hcap : ∃ a len cap, v = .slice a len cap ∧ len ≤ cap := by
    obtain ⟨fuel, hf⟩ := h
    obtain ⟨a0, len0, cap0, rfl⟩ := hv
    rcases open_slice ht hf with ⟨hcs, hx⟩ | ⟨a, len, cap, m, n, D, Pl, hcs, _, hl, hm, hmm, hx, hi⟩
    · simp [Value.cells] at hcs
      obtain ⟨rfl, rfl, rfl⟩ := hcs
      exact ⟨_, _, _, rfl, Nat.le_refl _⟩
    · simp [Value.cells] at hcs
      obtain ⟨rfl, rfl, rfl⟩ := hcs
      simp only [if_true] at hmm
      exact ⟨_, _, _, rfl, by omega⟩
  obtain ⟨len, row, ⟨bs, cap, rfl, hr⟩, hf⟩ := rows_of ht hsz h0 d hk hv h
  obtain ⟨a1, len1, cap1, e1, hle⟩ := hcap
  cases e1
  refine ⟨bs, len, cap, row, rfl, hf, fun M => ⟨bs, cap, rfl, hle, fun i hi => by rw [(hf i hi).len, hks], fun hn => ?_⟩⟩
  obtain ⟨b, off, c, ty, fr, rfl, hb, _, _⟩ := hr 0 hn
  have hall : ∀ i, i < len → c.extract (off + i * sz) (off + i * sz + sz) = (row i).toArray ∧ off + i * sz + sz ≤ c.size := fun i hi => by
    obtain ⟨b2, off2, c2, ty2, fr2, e2, hb2, h3, h4⟩ := hr i hi
    cases e2
    have : some (Obj.cells c ty fr) = some (.cells c2 ty2 fr2) := hb.symm.trans hb2
    cases this
    exact ⟨h4, h3⟩
  refine ⟨b, off, c, ty, fr, rfl, hb, ?_, extract_rows hall⟩
  obtain ⟨k, rfl⟩ : ∃ k, len = k + 1 := ⟨len - 1, by omega⟩
  have := (hall k (by omega)).2
  rw [Nat.add_mul, Nat.one_mul]; omega
end
theorem below_ctr {P : Program} {f : FuncId} {args : List Value} {As : List HP} {W : World} {V : Value} (h : Ctr P f args As (fun v Bs => v = V ∧ Bs = [])) (hA : (Sat As).p (held W) nil) :
    Calls P f args.toArray W (fun e W' => e = .returned V ∧ Below W.heap.size W W') := by
  let F : HP := .per (fun H => Le (held W) H) fun h1 h2 => h2.trans h1
  have s : (Sat (As ++ [F])).p (held W) nil := Sat.join (star_comm (per_add (M0 := nil) (A := F) (Le.refl _) hA))
  refine (h F (held W) nil s W W (Has.start W)).mono fun e W' ⟨v, H', M', he, hh, Bs, ⟨hv, hb⟩, hs⟩ => ?_
  subst he; subst hv; subst hb
  have hle : Le (held W) H' := star_fst hs
  refine ⟨rfl, hh.os, hh.tape, hh.output, hh.size, fun k hk => ?_⟩
  have : W.heap[k]? = some W.heap[k] := Array.getElem?_eq_getElem hk
  rw [this]
  exact hh.h k _ (hle k _ this)
end Go.Cam
