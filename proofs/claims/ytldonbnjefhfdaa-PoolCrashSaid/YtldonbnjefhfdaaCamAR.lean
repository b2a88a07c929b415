/- What was handed in, of any depth: structs, arrays and slices, one in the other. -/
import Derived.Test.YtldonbnjefhfdaaCamAE
import Derived.OpenShut
import Derived.Test.YtldonbnjefhfdaaCamAM
namespace Go.Cam
open Go.ChangeShapes Go.WideShapes Go.Deep
inductive Sh where
  | int (k : IntKind)
  | str
  | bool
  | emp
  | cat (a b : Sh)
  | slice (sz : Nat) (s : Sh)
def Sh.w : Sh → Nat
  | .emp => 0
  | .cat a b => a.w + b.w
  | _ => 1
def Sh.ok (H : Heap) : Sh → List Value → Prop
  | .int k, cs => ∃ n, cs = [.int k n] ∧ (Lit.int k n).wf = true
  | .str, cs => ∃ s : ByteArray, cs = [.string s] ∧ s.size ≤ maxLen
  | .bool, cs => ∃ b, cs = [.bool b]
  | .emp, cs => cs = []
  | .cat a b, cs => ∃ x y, cs = x ++ y ∧ a.ok H x ∧ b.ok H y
  | .slice sz s, cs => ∃ a len cap row, cs = [.slice a len cap] ∧ len ≤ cap ∧ cap ≤ maxLen ∧ (∀ M, (SA none sz (.slice a len cap) len row).p H M) ∧ ∀ i, i < len → s.ok H (row i)
theorem Sh.ok_len {H : Heap} : ∀ {s : Sh} {cs : List Value}, s.ok H cs → cs.length = s.w
  | .int _, _, ⟨_, h, _⟩ => by rw [h]; rfl
  | .str, _, ⟨_, h, _⟩ => by rw [h]; rfl
  | .bool, _, ⟨_, h⟩ => by rw [h]; rfl
  | .emp, _, h => by rw [show _ = [] from h]; rfl
  | .cat a b, _, ⟨x, y, h, h1, h2⟩ => by rw [h, List.length_append, Sh.ok_len h1, Sh.ok_len h2]; rfl
  | .slice _ _, _, ⟨_, _, _, _, h, _⟩ => by rw [h]; rfl
def Sh.rep (s : Sh) : Nat → Sh
  | 0 => .emp
  | n + 1 => .cat s (s.rep n)
/-- a type's shape -/
def shF (P : Program) (rec : TypeId → Option Sh) : List Field → Nat → Option Sh
  | [], _ => some .emp
  | f :: r, off => if f.offset = off then (rec f.type).bind fun s => if s.w = P.cellsOf f.type then (shF P rec r (off + P.cellsOf f.type)).map fun s' => .cat s s' else none else none
def shT (P : Program) : Nat → TypeId → Option Sh
  | 0, _ => none
  | d + 1, t => match P.underlying t with
    | some (.int k) => some (.int k)
    | some .string => some .str
    | some .bool => some .bool
    | some (.struct fs) => (shF P (shT P d) fs.toList 0).bind fun s => if s.w = P.cellsOf t then some s else none
    | some (.array n e) => (shT P d e).bind fun s => if s.w = P.cellsOf e ∧ n * s.w = P.cellsOf t then some (s.rep n) else none
    | some (.slice e) => (shT P d e).bind fun s => if s.w = P.cellsOf e ∧ 0 < s.w then some (.slice s.w s) else none
    | _ => none
section
variable {H : Type} {enc : TypeId × Value → H} {P : Program} {w : World} {base : Nat} {held : Bool}
theorem shF_ok {d : Nat} {n : Nat} {cs : List Value} (ih : ∀ t cs x s, DataW.trod enc P w base (fun _ => true) held n t cs = some x → shT P d t = some s → s.ok (fun b => w.heap[b]?) cs) :
    ∀ (fs : List Field) (off : Nat) (s : Sh), (∀ f, f ∈ fs → ∃ x, DataW.trod enc P w base (fun _ => true) held n f.type ((cs.drop f.offset).take (P.cellsOf f.type)) = some x) → shF P (shT P d) fs off = some s → s.ok (fun b => w.heap[b]?) ((cs.drop off).take s.w)
  | [], off, s, _, h => by
    simp only [shF, Option.some.injEq] at h
    subst h; simp [Sh.ok, Sh.w]
  | f :: r, off, s, hf, h => by
    unfold shF at h
    split at h
    · rename_i ho
      subst ho
      obtain ⟨k1, h1, h2⟩ := Option.bind_eq_some_iff.1 h
      split at h2
      · rename_i hl
        obtain ⟨k2, h3, rfl⟩ := Option.map_eq_some_iff.1 h2
        obtain ⟨x, hx⟩ := hf f (by simp)
        have a := ih _ _ _ _ hx h1
        have b := shF_ok ih r _ k2 (fun g hg => hf g (by simp [hg])) h3
        refine ⟨_, _, ?_, a, b⟩
        rw [Sh.w, hl, List.take_add, List.drop_drop]
      · cases h2
    · cases h
theorem rep_ok {s : Sh} {m : Nat} {Hp : Heap} : ∀ (n : Nat) (cs : List Value), cs.length = n * m → s.w = m → (∀ i, i < n → s.ok Hp ((cs.drop (i * m)).take m)) → (s.rep n).ok Hp cs
  | 0, cs, hl, _, _ => by
    rw [Nat.zero_mul] at hl
    exact List.eq_nil_of_length_eq_zero hl
  | n + 1, cs, hl, hm, h => by
    rw [Nat.add_mul, Nat.one_mul] at hl
    refine ⟨cs.take m, cs.drop m, (List.take_append_drop m cs).symm, by have := h 0 (by omega); simpa using this, rep_ok n _ (by rw [List.length_drop]; omega) hm fun i hi => ?_⟩
    have := h (i + 1) (by omega)
    rw [Nat.add_mul, Nat.one_mul, Nat.add_comm, ← List.drop_drop] at this
    exact this
theorem sl_sa {a : Addr} {len cap sz : Nat} {ch : Nat → List Value} (h0 : 0 < sz) (hc : len ≤ cap) (hi : ∀ i, i < len → w.cells? base (a.add (i * sz)) sz = some (ch i)) : ∀ M, (SA none sz (.slice (some a) len cap) len ch).p (fun b => w.heap[b]?) M := fun M => by
  have hlen : ∀ i, i < len → (ch i).length = sz := fun i hi2 => (World.cells?_some (hi i hi2)).2.1
  refine ⟨some a, cap, rfl, hc, hlen, fun hn => ?_⟩
  obtain ⟨b, off, spot⟩ := a
  have hfirst := (World.cells?_some (hi 0 hn)).2.2 0 h0
  rw [List.getElem?_eq_getElem (by rw [hlen 0 hn]; exact h0)] at hfirst
  have hspot : spot = none := by
    have := World.cell?_spot hfirst
    simpa [Addr.add] using this
  subst hspot
  have hcell : ∀ i, i < len → ∀ q, q < sz → w.cell? ⟨b, off + i * sz + q, none⟩ = (ch i)[q]? := fun i hi2 q hq => by
    have := (World.cells?_some (hi i hi2)).2.2 q hq
    rwa [addr_add, addr_add] at this
  have hf0 := hcell 0 hn 0 h0
  rw [List.getElem?_eq_getElem (by rw [hlen 0 hn]; exact h0)] at hf0
  obtain ⟨c, ty, fr, hb, _⟩ := cell_in hf0
  have hall : ∀ i, i < len → ∀ q, q < sz → c[off + i * sz + q]? = (ch i)[q]? := fun i hi2 q hq => by
    have h3 := hcell i hi2 q hq
    have hl := hlen i hi2
    rw [List.getElem?_eq_getElem (by omega)] at h3 ⊢
    obtain ⟨c', ty', fr', hb', hc'⟩ := cell_in h3
    rw [hb] at hb'; cases hb'; exact hc'
  have hsize : ∀ i, i < len → off + i * sz + sz ≤ c.size := fun i hi2 => by
    have := hall i hi2 (sz - 1) (by omega)
    have hl := hlen i hi2
    rw [List.getElem?_eq_getElem (by omega)] at this
    have := (Array.getElem?_eq_some_iff.1 this).1
    omega
  refine ⟨b, off, c, ty, fr, rfl, hb, ?_, extract_rows fun i hi2 => ⟨?_, hsize i hi2⟩⟩
  · obtain ⟨k, rfl⟩ : ∃ k, len = k + 1 := ⟨len - 1, by omega⟩
    have := hsize k (by omega)
    rw [Nat.add_mul, Nat.one_mul]; omega
  · apply Array.ext'
    apply List.ext_getElem?
    intro q
    rw [Array.toList_extract, List.extract_eq_take_drop, List.getElem?_take]
    by_cases hq : q < sz
    · rw [if_pos (by omega), List.getElem?_drop]
      have := hall i hi2 q hq
      simpa using this
    · rw [if_neg (by omega)]
      exact (List.getElem?_eq_none (by rw [hlen i hi2]; omega)).symm
theorem trod_sh : ∀ (d : Nat) (n : Nat) (t : TypeId) (cs : List Value) (x : DataW H × List MemPlace) (s : Sh), DataW.trod enc P w base (fun _ => true) held n t cs = some x → shT P d t = some s → s.ok (fun b => w.heap[b]?) cs
  | 0, _, _, _, _, _, _, h => by simp [shT] at h
  | d + 1, n, t, cs, x, s, ht, h => by
    unfold shT at h
    split at h
    · rename_i k hu
      cases h
      obtain ⟨v, rfl, _, hw⟩ := DataW.trod_int hu ht
      exact ⟨v, rfl, hw⟩
    · rename_i hu
      cases h
      obtain ⟨v, rfl, _, hw⟩ := DataW.trod_string hu ht
      exact ⟨v, rfl, hw⟩
    · rename_i hu
      cases h
      obtain ⟨v, rfl, _⟩ := DataW.trod_bool hu ht
      exact ⟨v, rfl⟩
    · rename_i fs hu
      obtain ⟨k1, h1, h2⟩ := Option.bind_eq_some_iff.1 h
      split at h2
      · rename_i hl
        cases h2
        obtain ⟨xs, m, rfl, _, hlen, hxl, hf⟩ := DataW.trod_struct hu ht
        have := shF_ok (cs := cs) (fun t cs x ks a b => trod_sh d m t cs x ks a b) fs.toList 0 s (fun f hfm => by
          obtain ⟨i, hi, rfl⟩ := List.getElem_of_mem hfm
          have hi' : i < fs.size := by simpa using hi
          have := hf i fs[i] (by simp [hi'])
          refine ⟨xs[i]'(by omega), ?_⟩
          rw [show fs.toList[i] = fs[i] by simp]
          rw [this]; exact List.getElem?_eq_getElem (by omega)) h1
        rw [List.drop_zero, hl, ← hlen, List.take_of_length_le (Nat.le_refl _)] at this
        exact this
      · cases h2
    · rename_i m e hu
      obtain ⟨k1, h1, h2⟩ := Option.bind_eq_some_iff.1 h
      split at h2
      · rename_i hl
        cases h2
        obtain ⟨xs, q, rfl, _, hlen, hxl, hf⟩ := DataW.trod_array hu ht
        refine rep_ok (m := P.cellsOf e) m cs (by rw [hlen, ← hl.2, hl.1]) hl.1 fun i hi => ?_
        have h3 := hf i hi
        rw [List.getElem?_eq_getElem (by omega)] at h3
        exact trod_sh d q e _ _ k1 h3 h1
      · cases h2
    · rename_i e hu
      obtain ⟨k1, h1, h2⟩ := Option.bind_eq_some_iff.1 h
      split at h2
      · rename_i hl
        cases h2
        rcases open_slice hu ht with ⟨rfl, _⟩ | ⟨a, len, cap, m, q, D, Pl, rfl, _, hlc, hm, hmm, _, hi⟩
        · exact ⟨none, 0, 0, fun _ => [], rfl, Nat.le_refl _, Nat.zero_le _, fun M => ⟨none, 0, rfl, Nat.le_refl _, fun i hi => absurd hi (Nat.not_lt_zero _), fun h => absurd h (Nat.not_lt_zero _)⟩, fun i hi => absurd hi (Nat.not_lt_zero _)⟩
        · simp only [if_true] at hmm
          subst hmm
          rw [← hl.1] at hi
          have hch : ∀ i, ∃ cs', i < m → w.cells? base (a.add (i * k1.w)) k1.w = some cs' ∧ DataW.trod enc P w base (fun _ => true) held q e cs' = some (D i, Pl i) := fun i => by
            by_cases c : i < m
            · obtain ⟨cs', h1⟩ := hi i c; exact ⟨cs', fun _ => h1⟩
            · exact ⟨[], fun h => absurd h c⟩
          refine ⟨some a, len, m, fun i => (hch i).choose, rfl, hlc, hm, sl_sa hl.2 hlc fun i hi2 => ((hch i).choose_spec (by omega)).1, fun i hi2 => ?_⟩
          exact trod_sh d q e _ _ k1 ((hch i).choose_spec (by omega)).2 h1
      · cases h2
    · cases h
end
theorem agg_of {v : Value} {cs : List Value} (h : v.cells.toList = cs) (hl : cs.length ≠ 1) : v = .agg cs.toArray := by
  cases v with
  | agg a => rw [← h]; rfl
  | _ => exact absurd (by rw [← h]; rfl) hl
/-- assertions that need no block of their own, of a world where all is held -/
theorem sat_per1 {A : HP} {H : Heap} (h : ∀ M, A.p H M) {Bs : List HP} {M : Heap} (q : (Sat Bs).p H M) : (Sat (A :: Bs)).p H M := ⟨fun _ => none, M, (fun _ _ h => nomatch h), Le.refl _, fun _ => .inl rfl, h _, q⟩
/-- a row out of what is known of each of its elements -/
theorem list_choose {α : Type} [Inhabited α] {φ : Nat → α → Prop} : ∀ (n : Nat), (∀ i, i < n → ∃ x, φ i x) → ∃ l : List α, l.length = n ∧ ∀ i, i < n → φ i (l.getD i default)
  | 0, _ => ⟨[], rfl, fun i h => absurd h (Nat.not_lt_zero _)⟩
  | n + 1, h => by
    obtain ⟨l, h1, h2⟩ := list_choose n fun i hi => h i (by omega)
    obtain ⟨x, hx⟩ := h n (by omega)
    refine ⟨l ++ [x], by simp [h1], fun i hi => ?_⟩
    by_cases e : i < n
    · rw [List.getD_eq_getElem?_getD, List.getElem?_append_left (by omega), ← List.getD_eq_getElem?_getD]; exact h2 i e
    · have : i = n := by omega
      subst this
      rw [List.getD_eq_getElem?_getD, List.getElem?_append_right (by omega), h1]; simpa using hx
theorem wf_i64 {n : Int} (h : (Lit.int .i64 n).wf = true) : -9223372036854775808 ≤ n ∧ n ≤ 9223372036854775807 := by
  simp [Lit.wf, IntKind.min, IntKind.max, IntKind.signed, IntKind.bits] at h; omega
theorem wf_u8 {n : Int} (h : (Lit.int .u8 n).wf = true) : 0 ≤ n ∧ n < 256 := by
  simp [Lit.wf, IntKind.min, IntKind.max, IntKind.signed, IntKind.bits] at h; omega
/-- bytes -/
theorem Sh.bytes {H : Heap} {cs : List Value} (h : (Sh.slice 1 (.int .u8)).ok H cs) : ∃ a cap l, cs = [.slice a (List.length l) cap] ∧ (∀ c ∈ l, c < 256) ∧ l.length < 9223372036854775808 ∧ ∀ M, (SA none 1 (.slice a l.length cap) l.length (fun i => [.int .u8 ((l.getD i 0 : Nat) : Int)])).p H M := by
  obtain ⟨a, len, cap, row, rfl, h1, h2, h3, h4⟩ := h
  obtain ⟨l, rfl, hl⟩ := list_choose (α := Nat) (φ := fun i b => row i = [.int .u8 (b : Int)] ∧ b < 256) len fun i hi => by
    obtain ⟨n, h5, h6⟩ := h4 i hi
    have := wf_u8 h6
    exact ⟨n.toNat, by rw [h5, Int.toNat_of_nonneg this.1], by omega⟩
  have hm : maxLen = 9223372036854775807 := rfl
  refine ⟨a, cap, l, rfl, fun c hc => ?_, by omega, fun M => SA.cg _ (fun i hi => (hl i hi).1) H M (h3 M)⟩
  obtain ⟨i, hi, e⟩ := List.mem_iff_getElem.1 hc
  have := (hl i hi).2
  rw [List.getD_eq_getElem?_getD, List.getElem?_eq_getElem hi, Option.getD_some, e] at this
  exact this
/-- integers -/
theorem Sh.ints {H : Heap} {cs : List Value} (h : (Sh.slice 1 (.int .i64)).ok H cs) : ∃ a cap l, cs = [.slice a (List.length l) cap] ∧ (∀ q, q < l.length → -9223372036854775808 ≤ l.getD q (0 : Int) ∧ l.getD q 0 ≤ 9223372036854775807) ∧ l.length < 9223372036854775808 ∧ ∀ M, (SA none 1 (.slice a l.length cap) l.length (fun i => [.int .i64 (l.getD i 0)])).p H M := by
  obtain ⟨a, len, cap, row, rfl, h1, h2, h3, h4⟩ := h
  obtain ⟨l, rfl, hl⟩ := list_choose (α := Int) (φ := fun i b => row i = [.int .i64 b] ∧ (-9223372036854775808 ≤ b ∧ b ≤ 9223372036854775807)) len fun i hi => by
    obtain ⟨n, h5, h6⟩ := h4 i hi
    exact ⟨n, h5, wf_i64 h6⟩
  have hm : maxLen = 9223372036854775807 := rfl
  exact ⟨a, cap, l, rfl, fun q hq => (hl q hq).2, by omega, fun M => SA.cg _ (fun i hi => (hl i hi).1) H M (h3 M)⟩
end Go.Cam
/- How much a map has that has nothing. -/
namespace Go.Cam
section
variable {P : Program} {l : List (Nat × Value)} {As Bs : List HP} {d : Nat} {oty : TypeId} {pos : String} {af : Array Edge} {g : Option (Nat × Bool)}
end
end Go.Cam
/- A text is made bytes. -/
namespace Go.Cam
section
variable {P : Program} {l : List (Nat × Value)} {As : List HP} {dd : Option Nat} {oty : TypeId} {pos : String} {af : Array Edge} {g : Option (Nat × Bool)}
end
end Go.Cam
/- Elements of arrays that lie in a slice; bytes turned. -/
namespace Go.Cam
section
variable {P : Program} {f : FuncId} {n : Nat} {R : Value → HP} {k : List It} {l : List (Nat × Value)} {As Bs : List HP} {all : Array Oper} {rest : List Oper} {d : Nat} {dd : Option Nat} {oty : TypeId} {pos : String} {af : Array Edge} {g : Option (Nat × Bool)}
end
end Go.Cam
/- A key is taken out of a map. -/
namespace Go.Cam
theorem WFM.erase {es : List MapEntry} {ck : Nat} {gm : Int → Option Value} (h : WFM es ck gm) {k : Int} {j : Nat} {e : MapEntry} (hj : es[j]? = some e) (hk : e.key = .int .i64 k) : WFM (es.eraseIdx j) ck (mset gm k none) where
  key x hx := by
    obtain ⟨i, hi, hx2⟩ := List.mem_eraseIdx_iff_getElem?.1 hx
    obtain ⟨k2, h1, h2⟩ := h.key x (List.mem_of_getElem? hx2)
    refine ⟨k2, h1, ?_⟩
    unfold mset
    rw [if_neg]
    · exact h2
    · intro e2
      subst e2
      have hp := h.kd
      rw [List.pairwise_iff_getElem] at hp
      have hil : i < es.length := by rcases Nat.lt_or_ge i es.length with g | g; exact g; rw [List.getElem?_eq_none g] at hx2; cases hx2
      have hjl : j < es.length := by rcases Nat.lt_or_ge j es.length with g | g; exact g; rw [List.getElem?_eq_none g] at hj; cases hj
      have e1 : es[j] = e := by rw [List.getElem?_eq_getElem hjl] at hj; exact Option.some.inj hj
      have e4 : es[i] = x := by rw [List.getElem?_eq_getElem hil] at hx2; exact Option.some.inj hx2
      rcases Nat.lt_or_gt_of_ne hi with hl | hl
      · exact hp i j hil hjl hl (by rw [e1, e4, h1, hk])
      · exact hp j i hjl hil hl (by rw [e1, e4, h1, hk])
  all k2 v2 h2 := by
    unfold mset at h2
    split at h2
    · cases h2
    · rename_i hne
      obtain ⟨e', he', hk2⟩ := h.all _ _ h2
      obtain ⟨i, hi⟩ := List.getElem?_of_mem he'
      refine ⟨e', List.mem_eraseIdx_iff_getElem?.2 ⟨i, fun e2 => ?_, hi⟩, hk2⟩
      subst e2
      rw [hj] at hi; cases hi
      rw [hk] at hk2; cases hk2; exact hne rfl
  kd := h.kd.sublist (List.eraseIdx_sublist ..)
  bd := h.bd.sublist (List.eraseIdx_sublist ..)
  bl x hx := h.bl x (List.mem_of_mem_eraseIdx hx)
section
variable {P : Program} {f : FuncId} {n : Nat} {R : Value → HP} {k : List It} {l : List (Nat × Value)} {As Bs : List HP} {all : Array Oper} {rest : List Oper} {d : Nat} {dd : Option Nat} {oty : TypeId} {pos : String} {af : Array Edge} {g : Option (Nat × Bool)}
/-- a key is taken out -/
theorem st_del {t t2 elem r : Nat} {x y : Operand} {kk : Int} {gm : Int → Option Value} [mt : MTY P t elem] (s : Sel (MG r gm) As Bs) (hx : ∀ j, ev (mk l j) x = .map (some r) := by intro j; rfl) (hy : ∀ j, ev (mk l j) y = .int .i64 kk := by intro j; rfl) :
    StepL P ⟨dd, .call ⟨.builtin .delete, #[x, y], #[t, t2]⟩, oty, pos, af, g⟩ l As (fun _ Cs => Cs = MG r (mset gm kk none) :: Bs) := .mk fun j Fs H M q => by
  have e1 : execOp (ev (mk l j)) ⟨dd, .call ⟨.builtin .delete, #[x, y], #[t, t2]⟩, oty, pos, af, g⟩ = (Builtin.delete_ #[t, t2] oty #[ev (mk l j) x, ev (mk l j) y] >>= fun v => pure (Next.value v)) := by
    show (resolve (ev (mk l j)) ⟨.builtin .delete, #[x, y], #[t, t2]⟩ oty >>= fun d => invoke d.target d.args) = _
    have : #[x, y].map (ev (mk l j)) = #[ev (mk l j) x, ev (mk l j) y] := by simp
    unfold resolve
    dsimp only
    rw [this]; rfl
  rw [e1, hx j, hy j]
  have q := (s.app Fs).sat q
  obtain ⟨key, hu, hk⟩ := mt.h
  obtain ⟨es, ck, hM, hw⟩ := star_fst q
  refine hmc_of_hm (hm_bind ?_)
  unfold Builtin.delete_
  simp only [List.getElem?_toArray, List.getElem?_cons_zero, List.getElem?_cons_succ]
  refine hm_bind (hm_cst hu ?_)
  refine hm_bind (hm_hq (hq_get (.inl hM)) ?_)
  dsimp only
  refine hm_bind (hm_cst (cst_checkKey hk) ?_)
  cases hg : gm kk with
  | none =>
    refine hm_bind (hm_cst (cst_findKey hk (hw.no hg 0)) ?_)
    dsimp only
    have e : mset gm kk none = gm := by
      funext q; unfold mset; split
      · rename_i e; rw [e, hg]
      · rfl
    rw [e]
    refine hm_bind (hm_setO (.map es ck) hM (hm_pure (hm_pure ⟨_, .inl rfl, _, rfl, ?_⟩)))
    exact MG_write q hM hw
  | some v =>
    obtain ⟨i, e', h1, h2, h3⟩ := hw.yes hg 0
    refine hm_bind (hm_cst (cst_findKey hk h3) ?_)
    dsimp only
    rw [Nat.zero_add]
    refine hm_bind (hm_setO (.map (es.eraseIdxIfInBounds i) ck) hM (hm_pure (hm_pure ⟨_, .inl rfl, _, rfl, ?_⟩)))
    refine MG_write q hM ?_
    rw [Array.toList_eraseIdxIfInBounds]
    exact hw.erase h1 h2
end
end Go.Cam
