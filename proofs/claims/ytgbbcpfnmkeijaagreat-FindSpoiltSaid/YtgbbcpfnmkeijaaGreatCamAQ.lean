/- An empty slice is written out, as a step. -/
import Derived.Test.YtgbbcpfnmkeijaaGreatCamAL
import Derived.Test.YtgbbcpfnmkeijaaGreatCamAE
import Derived.OpenShut
namespace Go.Cam
section
variable {P : Program} {l : List (Nat × Value)} {As : List HP} {dd : Option Nat} {oty : TypeId} {pos : String} {af : Array Edge} {g : Option (Nat × Bool)}
theorem st_bs0 {t el sz : Nat} {row : Nat → List Value} [SC P t el] [SZ P el sz] :
    StepL P ⟨dd, .buildSlice t 0 #[], oty, pos, af, g⟩ l As (fun v Bs => ∃ a, v = .slice a 0 0 ∧ Bs = SO el sz (.slice a 0 0) 0 row :: As) := .mk fun j Fs H M s => by
  have e1 : execOp (ev (mk l j)) ⟨dd, .buildSlice t 0 #[], oty, pos, af, g⟩ = (Instr.buildSlice t 0 #[] >>= fun v => pure (Next.value v)) := by
    unfold execOp; simp
  rw [e1]
  refine hmc_of_hm (hm_bind (hm_bs0 (sz := sz) fun r hr => hm_pure ⟨_, .inl rfl, _, ⟨_, rfl, rfl⟩, ?_⟩))
  refine star_monoL (C := SO el sz _ 0 row) (fun H M h => .inl ?_) (own_new hr s)
  exact ⟨fun i hi => by omega, by simp [flat], .inr ⟨r, 0, 0, #[], rfl, by simp [flat], by simp, Nat.le_refl _, h, by simp [flat]⟩, _, _, rfl⟩
/-- a text that is written out, as bytes: its row is marked -/
theorem st_cvb {t e : TypeId} {b m c : Nat} {x : Operand} {cs : Array Value} {ty : TypeId} {As' : List HP} [sc : SC P t e] [u8 : U8T P e] (u : Upd (.own b (.cells cs ty (0, 0))) (.own b (.cells cs ty (cs.size, cs.size + 1))) As As')
    (hx : ∀ j, ev (mk l j) x = .slice (some ⟨b, 0, none⟩) m c := by intro j; rfl) :
    StepL P ⟨dd, .convert t t x, oty, pos, af, g⟩ l As (fun v Bs => v = .slice (some ⟨b, 0, none⟩) m c ∧ Bs = As') := .mk fun j Fs H M q => by
  obtain ⟨Cs, s1, s2⟩ := (u.app Fs).sels
  obtain ⟨hb, hq⟩ := own_write (o' := .cells cs ty (cs.size, cs.size + 1)) (s1.sat q)
  refine hmc_of_hm ?_
  show hm P (convert t t (ev (mk l j) x) >>= fun v => pure (Next.value v)) H M _
  rw [hx j]
  refine hm_bind (fun w0 w hh => ?_)
  have h1 := hh.m b _ hb
  have hsh : w.shape? b = some (ty, cs.size) := by unfold World.shape?; rw [h1]
  refine ⟨.slice (some ⟨b, 0, none⟩) m c, w.freeze ⟨b, cs.size, none⟩ 1, H, upd M b (.cells cs ty (cs.size, cs.size + 1)), ?_, ?_, hm_pure ⟨_, .inl rfl, _, ⟨rfl, rfl⟩, s2.back hq⟩⟩
  · simp [convert, cst_run _ sc.h w, cst_run _ u8.h w, markStringish, hsh]
  · have := hh.modify hb (fun o => match o with | .cells c elem (lo, hi) => .cells c elem (if lo == hi then (cs.size, cs.size + 1) else (min lo cs.size, max hi (cs.size + 1))) | o => o)
    exact this
end
end Go.Cam
/- What was handed in, of any depth: structs, arrays and slices, one in the other. -/
namespace Go.Cam
open Go.ChangeShapes Go.WideShapes Go.Deep
inductive Sh where
  | int (k : IntKind)
  | str
  | bool
  | emp
  | cat (a b : Sh)
  | slice (sz : Nat) (s : Sh)
def Sh.w : Sh → Nat
  | .emp => 0
  | .cat a b => a.w + b.w
  | _ => 1
def Sh.ok (H : Heap) : Sh → List Value → Prop
  | .int k, cs => ∃ n, cs = [.int k n] ∧ (Lit.int k n).wf = true
  | .str, cs => ∃ s : ByteArray, cs = [.string s] ∧ s.size ≤ maxLen
  | .bool, cs => ∃ b, cs = [.bool b]
  | .emp, cs => cs = []
  | .cat a b, cs => ∃ x y, cs = x ++ y ∧ a.ok H x ∧ b.ok H y
  | .slice sz s, cs => ∃ a len cap row, cs = [.slice a len cap] ∧ len ≤ cap ∧ cap ≤ maxLen ∧ (∀ M, (SA none sz (.slice a len cap) len row).p H M) ∧ ∀ i, i < len → s.ok H (row i)
theorem Sh.ok_len {H : Heap} : ∀ {s : Sh} {cs : List Value}, s.ok H cs → cs.length = s.w
  | .int _, _, ⟨_, h, _⟩ => by rw [h]; rfl
  | .str, _, ⟨_, h, _⟩ => by rw [h]; rfl
  | .bool, _, ⟨_, h⟩ => by rw [h]; rfl
  | .emp, _, h => by rw [show _ = [] from h]; rfl
  | .cat a b, _, ⟨x, y, h, h1, h2⟩ => by rw [h, List.length_append, Sh.ok_len h1, Sh.ok_len h2]; rfl
  | .slice _ _, _, ⟨_, _, _, _, h, _⟩ => by rw [h]; rfl
def Sh.rep (s : Sh) : Nat → Sh
  | 0 => .emp
  | n + 1 => .cat s (s.rep n)
/-- a type's shape -/
def shF (P : Program) (rec : TypeId → Option Sh) : List Field → Nat → Option Sh
  | [], _ => some .emp
  | f :: r, off => if f.offset = off then (rec f.type).bind fun s => if s.w = P.cellsOf f.type then (shF P rec r (off + P.cellsOf f.type)).map fun s' => .cat s s' else none else none
def shT (P : Program) : Nat → TypeId → Option Sh
  | 0, _ => none
  | d + 1, t => match P.underlying t with
    | some (.int k) => some (.int k)
    | some .string => some .str
    | some .bool => some .bool
    | some (.struct fs) => (shF P (shT P d) fs.toList 0).bind fun s => if s.w = P.cellsOf t then some s else none
    | some (.array n e) => (shT P d e).bind fun s => if s.w = P.cellsOf e ∧ n * s.w = P.cellsOf t then some (s.rep n) else none
    | some (.slice e) => (shT P d e).bind fun s => if s.w = P.cellsOf e ∧ 0 < s.w then some (.slice s.w s) else none
    | _ => none
section
variable {H : Type} {enc : TypeId × Value → H} {P : Program} {w : World} {base : Nat} {held : Bool}
theorem shF_ok {d : Nat} {n : Nat} {cs : List Value} (ih : ∀ t cs x s, DataW.trod enc P w base (fun _ => true) held n t cs = some x → shT P d t = some s → s.ok (fun b => w.heap[b]?) cs) :
    ∀ (fs : List Field) (off : Nat) (s : Sh), (∀ f, f ∈ fs → ∃ x, DataW.trod enc P w base (fun _ => true) held n f.type ((cs.drop f.offset).take (P.cellsOf f.type)) = some x) → shF P (shT P d) fs off = some s → s.ok (fun b => w.heap[b]?) ((cs.drop off).take s.w)
  | [], off, s, _, h => by
    simp only [shF, Option.some.injEq] at h
    subst h; simp [Sh.ok, Sh.w]
  | f :: r, off, s, hf, h => by
    unfold shF at h
    split at h
    · rename_i ho
      subst ho
      obtain ⟨k1, h1, h2⟩ := Option.bind_eq_some_iff.1 h
      split at h2
      · rename_i hl
        obtain ⟨k2, h3, rfl⟩ := Option.map_eq_some_iff.1 h2
        obtain ⟨x, hx⟩ := hf f (by simp)
        have a := ih _ _ _ _ hx h1
        have b := shF_ok ih r _ k2 (fun g hg => hf g (by simp [hg])) h3
        refine ⟨_, _, ?_, a, b⟩
        rw [Sh.w, hl, List.take_add, List.drop_drop]
      · cases h2
    · cases h
theorem rep_ok {s : Sh} {m : Nat} {Hp : Heap} : ∀ (n : Nat) (cs : List Value), cs.length = n * m → s.w = m → (∀ i, i < n → s.ok Hp ((cs.drop (i * m)).take m)) → (s.rep n).ok Hp cs
  | 0, cs, hl, _, _ => by
    rw [Nat.zero_mul] at hl
    exact List.eq_nil_of_length_eq_zero hl
  | n + 1, cs, hl, hm, h => by
    rw [Nat.add_mul, Nat.one_mul] at hl
    refine ⟨cs.take m, cs.drop m, (List.take_append_drop m cs).symm, by have := h 0 (by omega); simpa using this, rep_ok n _ (by rw [List.length_drop]; omega) hm fun i hi => ?_⟩
    have := h (i + 1) (by omega)
    rw [Nat.add_mul, Nat.one_mul, Nat.add_comm, ← List.drop_drop] at this
    exact this
theorem sl_sa {a : Addr} {len cap sz : Nat} {ch : Nat → List Value} (h0 : 0 < sz) (hc : len ≤ cap) (hi : ∀ i, i < len → w.cells? base (a.add (i * sz)) sz = some (ch i)) : ∀ M, (SA none sz (.slice (some a) len cap) len ch).p (fun b => w.heap[b]?) M := fun M => by
  have hlen : ∀ i, i < len → (ch i).length = sz := fun i hi2 => (World.cells?_some (hi i hi2)).2.1
  refine ⟨some a, cap, rfl, hc, hlen, fun hn => ?_⟩
  obtain ⟨b, off, spot⟩ := a
  have hfirst := (World.cells?_some (hi 0 hn)).2.2 0 h0
  rw [List.getElem?_eq_getElem (by rw [hlen 0 hn]; exact h0)] at hfirst
  have hspot : spot = none := by
    have := World.cell?_spot hfirst
    simpa [Addr.add] using this
  subst hspot
  have hcell : ∀ i, i < len → ∀ q, q < sz → w.cell? ⟨b, off + i * sz + q, none⟩ = (ch i)[q]? := fun i hi2 q hq => by
    have := (World.cells?_some (hi i hi2)).2.2 q hq
    rwa [addr_add, addr_add] at this
  have hf0 := hcell 0 hn 0 h0
  rw [List.getElem?_eq_getElem (by rw [hlen 0 hn]; exact h0)] at hf0
  obtain ⟨c, ty, fr, hb, _⟩ := cell_in hf0
  have hall : ∀ i, i < len → ∀ q, q < sz → c[off + i * sz + q]? = (ch i)[q]? := fun i hi2 q hq => by
    have h3 := hcell i hi2 q hq
    have hl := hlen i hi2
    rw [List.getElem?_eq_getElem (by omega)] at h3 ⊢
    obtain ⟨c', ty', fr', hb', hc'⟩ := cell_in h3
    rw [hb] at hb'; cases hb'; exact hc'
  have hsize : ∀ i, i < len → off + i * sz + sz ≤ c.size := fun i hi2 => by
    have := hall i hi2 (sz - 1) (by omega)
    have hl := hlen i hi2
    rw [List.getElem?_eq_getElem (by omega)] at this
    have := (Array.getElem?_eq_some_iff.1 this).1
    omega
  refine ⟨b, off, c, ty, fr, rfl, hb, ?_, extract_rows fun i hi2 => ⟨?_, hsize i hi2⟩⟩
  · obtain ⟨k, rfl⟩ : ∃ k, len = k + 1 := ⟨len - 1, by omega⟩
    have := hsize k (by omega)
    rw [Nat.add_mul, Nat.one_mul]; omega
  · apply Array.ext'
    apply List.ext_getElem?
    intro q
    rw [Array.toList_extract, List.extract_eq_take_drop, List.getElem?_take]
    by_cases hq : q < sz
    · rw [if_pos (by omega), List.getElem?_drop]
      have := hall i hi2 q hq
      simpa using this
    · rw [if_neg (by omega)]
      exact (List.getElem?_eq_none (by rw [hlen i hi2]; omega)).symm
theorem trod_sh : ∀ (d : Nat) (n : Nat) (t : TypeId) (cs : List Value) (x : DataW H × List MemPlace) (s : Sh), DataW.trod enc P w base (fun _ => true) held n t cs = some x → shT P d t = some s → s.ok (fun b => w.heap[b]?) cs
  | 0, _, _, _, _, _, _, h => by simp [shT] at h
  | d + 1, n, t, cs, x, s, ht, h => by
    unfold shT at h
    split at h
    · rename_i k hu
      cases h
      obtain ⟨v, rfl, _, hw⟩ := DataW.trod_int hu ht
      exact ⟨v, rfl, hw⟩
    · rename_i hu
      cases h
      obtain ⟨v, rfl, _, hw⟩ := DataW.trod_string hu ht
      exact ⟨v, rfl, hw⟩
    · rename_i hu
      cases h
      obtain ⟨v, rfl, _⟩ := DataW.trod_bool hu ht
      exact ⟨v, rfl⟩
    · rename_i fs hu
      obtain ⟨k1, h1, h2⟩ := Option.bind_eq_some_iff.1 h
      split at h2
      · rename_i hl
        cases h2
        obtain ⟨xs, m, rfl, _, hlen, hxl, hf⟩ := DataW.trod_struct hu ht
        have := shF_ok (cs := cs) (fun t cs x ks a b => trod_sh d m t cs x ks a b) fs.toList 0 s (fun f hfm => by
          obtain ⟨i, hi, rfl⟩ := List.getElem_of_mem hfm
          have hi' : i < fs.size := by simpa using hi
          have := hf i fs[i] (by simp [hi'])
          refine ⟨xs[i]'(by omega), ?_⟩
          rw [show fs.toList[i] = fs[i] by simp]
          rw [this]; exact List.getElem?_eq_getElem (by omega)) h1
        rw [List.drop_zero, hl, ← hlen, List.take_of_length_le (Nat.le_refl _)] at this
        exact this
      · cases h2
    · rename_i m e hu
      obtain ⟨k1, h1, h2⟩ := Option.bind_eq_some_iff.1 h
      split at h2
      · rename_i hl
        cases h2
        obtain ⟨xs, q, rfl, _, hlen, hxl, hf⟩ := DataW.trod_array hu ht
        refine rep_ok (m := P.cellsOf e) m cs (by rw [hlen, ← hl.2, hl.1]) hl.1 fun i hi => ?_
        have h3 := hf i hi
        rw [List.getElem?_eq_getElem (by omega)] at h3
        exact trod_sh d q e _ _ k1 h3 h1
      · cases h2
    · rename_i e hu
      obtain ⟨k1, h1, h2⟩ := Option.bind_eq_some_iff.1 h
      split at h2
      · rename_i hl
        cases h2
        rcases open_slice hu ht with ⟨rfl, _⟩ | ⟨a, len, cap, m, q, D, Pl, rfl, _, hlc, hm, hmm, _, hi⟩
        · exact ⟨none, 0, 0, fun _ => [], rfl, Nat.le_refl _, Nat.zero_le _, fun M => ⟨none, 0, rfl, Nat.le_refl _, fun i hi => absurd hi (Nat.not_lt_zero _), fun h => absurd h (Nat.not_lt_zero _)⟩, fun i hi => absurd hi (Nat.not_lt_zero _)⟩
        · simp only [if_true] at hmm
          subst hmm
          rw [← hl.1] at hi
          have hch : ∀ i, ∃ cs', i < m → w.cells? base (a.add (i * k1.w)) k1.w = some cs' ∧ DataW.trod enc P w base (fun _ => true) held q e cs' = some (D i, Pl i) := fun i => by
            by_cases c : i < m
            · obtain ⟨cs', h1⟩ := hi i c; exact ⟨cs', fun _ => h1⟩
            · exact ⟨[], fun h => absurd h c⟩
          refine ⟨some a, len, m, fun i => (hch i).choose, rfl, hlc, hm, sl_sa hl.2 hlc fun i hi2 => ((hch i).choose_spec (by omega)).1, fun i hi2 => ?_⟩
          exact trod_sh d q e _ _ k1 ((hch i).choose_spec (by omega)).2 h1
      · cases h2
    · cases h
end
theorem agg_of {v : Value} {cs : List Value} (h : v.cells.toList = cs) (hl : cs.length ≠ 1) : v = .agg cs.toArray := by
  cases v with
  | agg a => rw [← h]; rfl
  | _ => exact absurd (by rw [← h]; rfl) hl
/-- assertions that need no block of their own, of a world where all is held -/
theorem sat_per1 {A : HP} {H : Heap} (h : ∀ M, A.p H M) {Bs : List HP} {M : Heap} (q : (Sat Bs).p H M) : (Sat (A :: Bs)).p H M := ⟨fun _ => none, M, (fun _ _ h => nomatch h), Le.refl _, fun _ => .inl rfl, h _, q⟩
/-- a row out of what is known of each of its elements -/
theorem list_choose {α : Type} [Inhabited α] {φ : Nat → α → Prop} : ∀ (n : Nat), (∀ i, i < n → ∃ x, φ i x) → ∃ l : List α, l.length = n ∧ ∀ i, i < n → φ i (l.getD i default)
  | 0, _ => ⟨[], rfl, fun i h => absurd h (Nat.not_lt_zero _)⟩
  | n + 1, h => by
    obtain ⟨l, h1, h2⟩ := list_choose n fun i hi => h i (by omega)
    obtain ⟨x, hx⟩ := h n (by omega)
    refine ⟨l ++ [x], by simp [h1], fun i hi => ?_⟩
    by_cases e : i < n
    · rw [List.getD_eq_getElem?_getD, List.getElem?_append_left (by omega), ← List.getD_eq_getElem?_getD]; exact h2 i e
    · have : i = n := by omega
      subst this
      rw [List.getD_eq_getElem?_getD, List.getElem?_append_right (by omega), h1]; simpa using hx
theorem wf_i64 {n : Int} (h : (Lit.int .i64 n).wf = true) : -9223372036854775808 ≤ n ∧ n ≤ 9223372036854775807 := by
  simp [Lit.wf, IntKind.min, IntKind.max, IntKind.signed, IntKind.bits] at h; omega
theorem wf_u8 {n : Int} (h : (Lit.int .u8 n).wf = true) : 0 ≤ n ∧ n < 256 := by
  simp [Lit.wf, IntKind.min, IntKind.max, IntKind.signed, IntKind.bits] at h; omega
/-- bytes -/
theorem Sh.bytes {H : Heap} {cs : List Value} (h : (Sh.slice 1 (.int .u8)).ok H cs) : ∃ a cap l, cs = [.slice a (List.length l) cap] ∧ (∀ c ∈ l, c < 256) ∧ l.length < 9223372036854775808 ∧ ∀ M, (SA none 1 (.slice a l.length cap) l.length (fun i => [.int .u8 ((l.getD i 0 : Nat) : Int)])).p H M := by
  obtain ⟨a, len, cap, row, rfl, h1, h2, h3, h4⟩ := h
  obtain ⟨l, rfl, hl⟩ := list_choose (α := Nat) (φ := fun i b => row i = [.int .u8 (b : Int)] ∧ b < 256) len fun i hi => by
    obtain ⟨n, h5, h6⟩ := h4 i hi
    have := wf_u8 h6
    exact ⟨n.toNat, by rw [h5, Int.toNat_of_nonneg this.1], by omega⟩
  have hm : maxLen = 9223372036854775807 := rfl
  refine ⟨a, cap, l, rfl, fun c hc => ?_, by omega, fun M => SA.cg _ (fun i hi => (hl i hi).1) H M (h3 M)⟩
  obtain ⟨i, hi, e⟩ := List.mem_iff_getElem.1 hc
  have := (hl i hi).2
  rw [List.getD_eq_getElem?_getD, List.getElem?_eq_getElem hi, Option.getD_some, e] at this
  exact this
/-- integers -/
theorem Sh.ints {H : Heap} {cs : List Value} (h : (Sh.slice 1 (.int .i64)).ok H cs) : ∃ a cap l, cs = [.slice a (List.length l) cap] ∧ (∀ q, q < l.length → -9223372036854775808 ≤ l.getD q (0 : Int) ∧ l.getD q 0 ≤ 9223372036854775807) ∧ l.length < 9223372036854775808 ∧ ∀ M, (SA none 1 (.slice a l.length cap) l.length (fun i => [.int .i64 (l.getD i 0)])).p H M := by
  obtain ⟨a, len, cap, row, rfl, h1, h2, h3, h4⟩ := h
  obtain ⟨l, rfl, hl⟩ := list_choose (α := Int) (φ := fun i b => row i = [.int .i64 b] ∧ (-9223372036854775808 ≤ b ∧ b ≤ 9223372036854775807)) len fun i hi => by
    obtain ⟨n, h5, h6⟩ := h4 i hi
    exact ⟨n, h5, wf_i64 h6⟩
  have hm : maxLen = 9223372036854775807 := rfl
  exact ⟨a, cap, l, rfl, fun q hq => (hl q hq).2, by omega, fun M => SA.cg _ (fun i hi => (hl i hi).1) H M (h3 M)⟩
end Go.Cam
/- How much a map has that has nothing. -/
namespace Go.Cam
section
variable {P : Program} {l : List (Nat × Value)} {As Bs : List HP} {d : Nat} {oty : TypeId} {pos : String} {af : Array Edge} {g : Option (Nat × Bool)}
end
end Go.Cam
/- A text is made bytes. -/
namespace Go.Cam
section
variable {P : Program} {l : List (Nat × Value)} {As : List HP} {dd : Option Nat} {oty : TypeId} {pos : String} {af : Array Edge} {g : Option (Nat × Bool)}
theorem st_s2b {t t2 e : TypeId} {x : Operand} {s : List Nat} [sc : SC P t e] [sy : STY P t2] [u8 : U8T P e] (hb : Bys s)
    (hx : ∀ j, ev (mk l j) x = .string (strB s) := by intro j; rfl) :
    StepL P ⟨dd, .convert t2 t x, oty, pos, af, g⟩ l As (fun v Bs => ∃ r cs c, v = .slice (some ⟨r, 0, none⟩) s.length c ∧ s.length ≤ c ∧ cs.size = c ∧ cs.toList.take s.length = bcl s ∧ Bs = .own r (.cells cs e (cs.size, cs.size + 1)) :: As) := .mk fun j Fs H M q => by
  refine hmc_of_hm ?_
  show hm P (convert t2 t (ev (mk l j) x) >>= fun v => pure (Next.value v)) H M _
  rw [hx j]
  refine hm_bind ?_
  unfold convert
  refine hm_bind (hm_cst sy.h ?_)
  refine hm_bind (hm_cst sc.h ?_)
  dsimp only
  refine hm_bind (hm_cst u8.h ?_)
  dsimp only
  unfold Conv.stringToBytes
  refine hm_bind (hm_choose fun cap _ hcut => ?_)
  obtain ⟨tt, rfl⟩ := hcut rfl
  have hnc : (strB s).size ≤ (Question.appendCap (strB s).size 0 e).cut tt := by simp [Question.cut]
  generalize (Question.appendCap (strB s).size 0 e).cut tt = nc at hnc
  have hsz : (strB s).size = s.length := by simp [strB, ByteArray.size]
  dsimp only
  generalize hcs : ((strB s).data.map (fun b : UInt8 => Value.int .u8 b.toNat)) ++ Array.replicate (nc - (strB s).size) (Value.int .u8 0) = cs
  have hcsz : cs.size = nc := by
    rw [← hcs, Array.size_append, Array.size_map, Array.size_replicate]
    have : (strB s).data.size = (strB s).size := rfl
    omega
  have hct : cs.toList.take s.length = bcl s := by
    rw [← hcs, Array.toList_append]
    have e1 : ((strB s).data.map (fun b : UInt8 => Value.int .u8 b.toNat)).toList = bcl s := by
      unfold strB bcl
      rw [Array.toList_map, List.map_map]
      refine List.map_congr_left fun b h => ?_
      have := hb b h
      show Value.int .u8 ((UInt8.ofNat b).toNat : Nat) = _
      rw [UInt8.toNat_ofNat', Nat.mod_eq_of_lt this]
    rw [e1, List.take_left' (by simp [bcl])]
  refine hm_bind (hm_newRow fun r hr => ?_)
  have h1 : upd M r (.cells cs e) r = some (.cells cs e (0, 0)) := upd_same _ _ _
  refine hm_bind (fun w0 w hh => ?_)
  have h2 := hh.m r _ h1
  have hsh : w.shape? r = some (e, cs.size) := by unfold World.shape?; rw [h2]
  refine ⟨(), w.freeze ⟨r, cs.size, none⟩ 1, H, upd (upd M r (.cells cs e (0, 0))) r (.cells cs e (cs.size, cs.size + 1)), ?_, ?_, hm_pure (hm_pure ⟨_, .inl rfl, _, ⟨r, cs, nc, by rw [hsz], by omega, hcsz, hct, rfl⟩, ?_⟩)⟩
  · simp [markStringish, hsh]
  · exact hh.modify h1 (fun o => match o with | .cells c elem (lo, hi) => .cells c elem (if lo == hi then (cs.size, cs.size + 1) else (min lo cs.size, max hi (cs.size + 1))) | o => o)
  · have : upd (upd M r (.cells cs e (0, 0))) r (.cells cs e (cs.size, cs.size + 1)) = upd M r (.cells cs e (cs.size, cs.size + 1)) := by
      funext q; unfold upd; split <;> rfl
    rw [this]
    exact own_new hr q
end
end Go.Cam
/- Elements of arrays that lie in a slice; bytes turned. -/
namespace Go.Cam
section
variable {P : Program} {f : FuncId} {n : Nat} {R : Value → HP} {k : List It} {l : List (Nat × Value)} {As Bs : List HP} {all : Array Oper} {rest : List Oper} {d : Nat} {dd : Option Nat} {oty : TypeId} {pos : String} {af : Array Edge} {g : Option (Nat × Bool)}
/-- an element of an array that is an element of a slice -/
theorem lk_ixe {t : TypeId} {x y : Operand} {m elem w fo sz n : Nat} {kd : IntKind} {v : Value} {i q : Nat} {row : Nat → List Value} [hu : AR P t m elem] [hs : SZ P elem w] (hx : ∀ j, ev (mk l j) x = eptr v sz i fo := by intro j; rfl)
    (hy : ∀ j, ev (mk l j) y = .int kd (q : Int) := by intro j; rfl) (s : SelR As sz v n row := by repeat (first | with_reducible exact SelR.here | with_reducible apply SelR.there)) (hi : i < n := by omega) (hq : q < m := by omega) :
    LookS P ⟨some d, .indexAddr t x y, oty, pos, af, g⟩ l As (eptr v sz i (fo + q * w)) := .mk fun j H M z => by
  obtain ⟨b, off, c, ty, fr, cap, hv, _, _, _, _, hp⟩ := (s.rd z).elem hi
  rw [hp]
  have := qt_ix (o := ⟨some d, .indexAddr t x y, oty, pos, af, g⟩) (H := H) (M := M) rfl ((hx j).trans (hp fo)) (hy j) hu.h hs.h (by omega) (by omega); simpa [Nat.add_assoc] using this
end
theorem xor_u8 (a b : Nat) {x y : Int} (hx : x = a) (hy : y = b) (ha : a < 256) (hb : b < 256) : IntKind.u8.wrap (((BitVec.ofInt IntKind.u8.bits x ^^^ BitVec.ofInt IntKind.u8.bits y).toNat : Nat) : Int) = ((a ^^^ b : Nat) : Int) := by
  subst hx hy
  have e : (BitVec.ofInt IntKind.u8.bits (a : Int) ^^^ BitVec.ofInt IntKind.u8.bits (b : Int)).toNat = a ^^^ b := by
    show (BitVec.ofInt 8 (a : Int) ^^^ BitVec.ofInt 8 (b : Int)).toNat = a ^^^ b
    rw [BitVec.toNat_xor, BitVec.ofInt_natCast, BitVec.ofInt_natCast, BitVec.toNat_ofNat, BitVec.toNat_ofNat, Nat.mod_eq_of_lt (by omega), Nat.mod_eq_of_lt (by omega)]
  rw [e, wrap_u8, Nat.mod_eq_of_lt (Nat.xor_lt_two_pow (n := 8) (by omega) (by omega))]
end Go.Cam
