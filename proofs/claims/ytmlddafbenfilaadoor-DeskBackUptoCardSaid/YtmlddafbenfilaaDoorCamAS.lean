/- What was handed in, of any depth: structs, arrays and slices, one in the other. -/
import Derived.Test.YtmlddafbenfilaaDoorCamAD
import Derived.OpenShut
import Derived.Test.YtmlddafbenfilaaDoorCamAM
import Derived.Lib.Builder
import Derived.Lib.UnsafeStr
namespace Go.Cam
open Go.ChangeShapes Go.WideShapes Go.Deep
inductive Sh where
  | int (k : IntKind)
  | str
  | bool
  | emp
  | cat (a b : Sh)
  | slice (sz : Nat) (s : Sh)
def Sh.w : Sh → Nat
  | .emp => 0
  | .cat a b => a.w + b.w
  | _ => 1
def Sh.ok (H : Heap) : Sh → List Value → Prop
  | .int k, cs => ∃ n, cs = [.int k n] ∧ (Lit.int k n).wf = true
  | .str, cs => ∃ s : ByteArray, cs = [.string s] ∧ s.size ≤ maxLen
  | .bool, cs => ∃ b, cs = [.bool b]
  | .emp, cs => cs = []
  | .cat a b, cs => ∃ x y, cs = x ++ y ∧ a.ok H x ∧ b.ok H y
  | .slice sz s, cs => ∃ a len cap row, cs = [.slice a len cap] ∧ len ≤ cap ∧ cap ≤ maxLen ∧ (∀ M, (SA none sz (.slice a len cap) len row).p H M) ∧ ∀ i, i < len → s.ok H (row i)
def Sh.rep (s : Sh) : Nat → Sh
  | 0 => .emp
  | n + 1 => .cat s (s.rep n)
/-- a type's shape -/
def shF (P : Program) (rec : TypeId → Option Sh) : List Field → Nat → Option Sh
  | [], _ => some .emp
  | f :: r, off => if f.offset = off then (rec f.type).bind fun s => if s.w = P.cellsOf f.type then (shF P rec r (off + P.cellsOf f.type)).map fun s' => .cat s s' else none else none
def shT (P : Program) : Nat → TypeId → Option Sh
  | 0, _ => none
  | d + 1, t => match P.underlying t with
    | some (.int k) => some (.int k)
    | some .string => some .str
    | some .bool => some .bool
    | some (.struct fs) => (shF P (shT P d) fs.toList 0).bind fun s => if s.w = P.cellsOf t then some s else none
    | some (.array n e) => (shT P d e).bind fun s => if s.w = P.cellsOf e ∧ n * s.w = P.cellsOf t then some (s.rep n) else none
    | some (.slice e) => (shT P d e).bind fun s => if s.w = P.cellsOf e ∧ 0 < s.w then some (.slice s.w s) else none
    | _ => none
section
variable {H : Type} {enc : TypeId × Value → H} {P : Program} {w : World} {base : Nat} {held : Bool}
theorem shF_ok {d : Nat} {n : Nat} {cs : List Value} (ih : ∀ t cs x s, DataW.trod enc P w base (fun _ => true) held n t cs = some x → shT P d t = some s → s.ok (fun b => w.heap[b]?) cs) :
    ∀ (fs : List Field) (off : Nat) (s : Sh), (∀ f, f ∈ fs → ∃ x, DataW.trod enc P w base (fun _ => true) held n f.type ((cs.drop f.offset).take (P.cellsOf f.type)) = some x) → shF P (shT P d) fs off = some s → s.ok (fun b => w.heap[b]?) ((cs.drop off).take s.w)
  | [], off, s, _, h => by
    simp only [shF, Option.some.injEq] at h
    subst h; simp [Sh.ok, Sh.w]
  | f :: r, off, s, hf, h => by
    unfold shF at h
    split at h
    · rename_i ho
      subst ho
      obtain ⟨k1, h1, h2⟩ := Option.bind_eq_some_iff.1 h
      split at h2
      · rename_i hl
        obtain ⟨k2, h3, rfl⟩ := Option.map_eq_some_iff.1 h2
        obtain ⟨x, hx⟩ := hf f (by simp)
        have a := ih _ _ _ _ hx h1
        have b := shF_ok ih r _ k2 (fun g hg => hf g (by simp [hg])) h3
        refine ⟨_, _, ?_, a, b⟩
        rw [Sh.w, hl, List.take_add, List.drop_drop]
      · cases h2
    · cases h
theorem rep_ok {s : Sh} {m : Nat} {Hp : Heap} : ∀ (n : Nat) (cs : List Value), cs.length = n * m → s.w = m → (∀ i, i < n → s.ok Hp ((cs.drop (i * m)).take m)) → (s.rep n).ok Hp cs
  | 0, cs, hl, _, _ => by
    rw [Nat.zero_mul] at hl
    exact List.eq_nil_of_length_eq_zero hl
  | n + 1, cs, hl, hm, h => by
    rw [Nat.add_mul, Nat.one_mul] at hl
    refine ⟨cs.take m, cs.drop m, (List.take_append_drop m cs).symm, by have := h 0 (by omega); simpa using this, rep_ok n _ (by rw [List.length_drop]; omega) hm fun i hi => ?_⟩
    have := h (i + 1) (by omega)
    rw [Nat.add_mul, Nat.one_mul, Nat.add_comm, ← List.drop_drop] at this
    exact this
theorem sl_sa {a : Addr} {len cap sz : Nat} {ch : Nat → List Value} (h0 : 0 < sz) (hc : len ≤ cap) (hi : ∀ i, i < len → w.cells? base (a.add (i * sz)) sz = some (ch i)) : ∀ M, (SA none sz (.slice (some a) len cap) len ch).p (fun b => w.heap[b]?) M := fun M => by
  have hlen : ∀ i, i < len → (ch i).length = sz := fun i hi2 => (World.cells?_some (hi i hi2)).2.1
  refine ⟨some a, cap, rfl, hc, hlen, fun hn => ?_⟩
  obtain ⟨b, off, spot⟩ := a
  have hfirst := (World.cells?_some (hi 0 hn)).2.2 0 h0
  rw [List.getElem?_eq_getElem (by rw [hlen 0 hn]; exact h0)] at hfirst
  have hspot : spot = none := by
    have := World.cell?_spot hfirst
    simpa [Addr.add] using this
  subst hspot
  have hcell : ∀ i, i < len → ∀ q, q < sz → w.cell? ⟨b, off + i * sz + q, none⟩ = (ch i)[q]? := fun i hi2 q hq => by
    have := (World.cells?_some (hi i hi2)).2.2 q hq
    rwa [addr_add, addr_add] at this
  have hf0 := hcell 0 hn 0 h0
  rw [List.getElem?_eq_getElem (by rw [hlen 0 hn]; exact h0)] at hf0
  obtain ⟨c, ty, fr, hb, _⟩ := cell_in hf0
  have hall : ∀ i, i < len → ∀ q, q < sz → c[off + i * sz + q]? = (ch i)[q]? := fun i hi2 q hq => by
    have h3 := hcell i hi2 q hq
    have hl := hlen i hi2
    rw [List.getElem?_eq_getElem (by omega)] at h3 ⊢
    obtain ⟨c', ty', fr', hb', hc'⟩ := cell_in h3
    rw [hb] at hb'; cases hb'; exact hc'
  have hsize : ∀ i, i < len → off + i * sz + sz ≤ c.size := fun i hi2 => by
    have := hall i hi2 (sz - 1) (by omega)
    have hl := hlen i hi2
    rw [List.getElem?_eq_getElem (by omega)] at this
    have := (Array.getElem?_eq_some_iff.1 this).1
    omega
  refine ⟨b, off, c, ty, fr, rfl, hb, ?_, extract_rows fun i hi2 => ⟨?_, hsize i hi2⟩⟩
  · obtain ⟨k, rfl⟩ : ∃ k, len = k + 1 := ⟨len - 1, by omega⟩
    have := hsize k (by omega)
    rw [Nat.add_mul, Nat.one_mul]; omega
  · apply Array.ext'
    apply List.ext_getElem?
    intro q
    rw [Array.toList_extract, List.extract_eq_take_drop, List.getElem?_take]
    by_cases hq : q < sz
    · rw [if_pos (by omega), List.getElem?_drop]
      have := hall i hi2 q hq
      simpa using this
    · rw [if_neg (by omega)]
      exact (List.getElem?_eq_none (by rw [hlen i hi2]; omega)).symm
theorem trod_sh : ∀ (d : Nat) (n : Nat) (t : TypeId) (cs : List Value) (x : DataW H × List MemPlace) (s : Sh), DataW.trod enc P w base (fun _ => true) held n t cs = some x → shT P d t = some s → s.ok (fun b => w.heap[b]?) cs
  | 0, _, _, _, _, _, _, h => by simp [shT] at h
  | d + 1, n, t, cs, x, s, ht, h => by
    unfold shT at h
    split at h
    · rename_i k hu
      cases h
      obtain ⟨v, rfl, _, hw⟩ := DataW.trod_int hu ht
      exact ⟨v, rfl, hw⟩
    · rename_i hu
      cases h
      obtain ⟨v, rfl, _, hw⟩ := DataW.trod_string hu ht
      exact ⟨v, rfl, hw⟩
    · rename_i hu
      cases h
      obtain ⟨v, rfl, _⟩ := DataW.trod_bool hu ht
      exact ⟨v, rfl⟩
    · rename_i fs hu
      obtain ⟨k1, h1, h2⟩ := Option.bind_eq_some_iff.1 h
      split at h2
      · rename_i hl
        cases h2
        obtain ⟨xs, m, rfl, _, hlen, hxl, hf⟩ := DataW.trod_struct hu ht
        have := shF_ok (cs := cs) (fun t cs x ks a b => trod_sh d m t cs x ks a b) fs.toList 0 s (fun f hfm => by
          obtain ⟨i, hi, rfl⟩ := List.getElem_of_mem hfm
          have hi' : i < fs.size := by simpa using hi
          have := hf i fs[i] (by simp [hi'])
          refine ⟨xs[i]'(by omega), ?_⟩
          rw [show fs.toList[i] = fs[i] by simp]
          rw [this]; exact List.getElem?_eq_getElem (by omega)) h1
        rw [List.drop_zero, hl, ← hlen, List.take_of_length_le (Nat.le_refl _)] at this
        exact this
      · cases h2
    · rename_i m e hu
      obtain ⟨k1, h1, h2⟩ := Option.bind_eq_some_iff.1 h
      split at h2
      · rename_i hl
        cases h2
        obtain ⟨xs, q, rfl, _, hlen, hxl, hf⟩ := DataW.trod_array hu ht
        refine rep_ok (m := P.cellsOf e) m cs (by rw [hlen, ← hl.2, hl.1]) hl.1 fun i hi => ?_
        have h3 := hf i hi
        rw [List.getElem?_eq_getElem (by omega)] at h3
        exact trod_sh d q e _ _ k1 h3 h1
      · cases h2
    · rename_i e hu
      obtain ⟨k1, h1, h2⟩ := Option.bind_eq_some_iff.1 h
      split at h2
      · rename_i hl
        cases h2
        rcases open_slice hu ht with ⟨rfl, _⟩ | ⟨a, len, cap, m, q, D, Pl, rfl, _, hlc, hm, hmm, _, hi⟩
        · exact ⟨none, 0, 0, fun _ => [], rfl, Nat.le_refl _, Nat.zero_le _, fun M => ⟨none, 0, rfl, Nat.le_refl _, fun i hi => absurd hi (Nat.not_lt_zero _), fun h => absurd h (Nat.not_lt_zero _)⟩, fun i hi => absurd hi (Nat.not_lt_zero _)⟩
        · simp only [if_true] at hmm
          subst hmm
          rw [← hl.1] at hi
          have hch : ∀ i, ∃ cs', i < m → w.cells? base (a.add (i * k1.w)) k1.w = some cs' ∧ DataW.trod enc P w base (fun _ => true) held q e cs' = some (D i, Pl i) := fun i => by
            by_cases c : i < m
            · obtain ⟨cs', h1⟩ := hi i c; exact ⟨cs', fun _ => h1⟩
            · exact ⟨[], fun h => absurd h c⟩
          refine ⟨some a, len, m, fun i => (hch i).choose, rfl, hlc, hm, sl_sa hl.2 hlc fun i hi2 => ((hch i).choose_spec (by omega)).1, fun i hi2 => ?_⟩
          exact trod_sh d q e _ _ k1 ((hch i).choose_spec (by omega)).2 h1
      · cases h2
    · cases h
end
/-- assertions that need no block of their own, of a world where all is held -/
theorem sat_per1 {A : HP} {H : Heap} (h : ∀ M, A.p H M) {Bs : List HP} {M : Heap} (q : (Sat Bs).p H M) : (Sat (A :: Bs)).p H M := ⟨fun _ => none, M, (fun _ _ h => nomatch h), Le.refl _, fun _ => .inl rfl, h _, q⟩
/-- a row out of what is known of each of its elements -/
theorem list_choose {α : Type} [Inhabited α] {φ : Nat → α → Prop} : ∀ (n : Nat), (∀ i, i < n → ∃ x, φ i x) → ∃ l : List α, l.length = n ∧ ∀ i, i < n → φ i (l.getD i default)
  | 0, _ => ⟨[], rfl, fun i h => absurd h (Nat.not_lt_zero _)⟩
  | n + 1, h => by
    obtain ⟨l, h1, h2⟩ := list_choose n fun i hi => h i (by omega)
    obtain ⟨x, hx⟩ := h n (by omega)
    refine ⟨l ++ [x], by simp [h1], fun i hi => ?_⟩
    by_cases e : i < n
    · rw [List.getD_eq_getElem?_getD, List.getElem?_append_left (by omega), ← List.getD_eq_getElem?_getD]; exact h2 i e
    · have : i = n := by omega
      subst this
      rw [List.getD_eq_getElem?_getD, List.getElem?_append_right (by omega), h1]; simpa using hx
theorem wf_i64 {n : Int} (h : (Lit.int .i64 n).wf = true) : -9223372036854775808 ≤ n ∧ n ≤ 9223372036854775807 := by
  simp [Lit.wf, IntKind.min, IntKind.max, IntKind.signed, IntKind.bits] at h; omega
theorem wf_u8 {n : Int} (h : (Lit.int .u8 n).wf = true) : 0 ≤ n ∧ n < 256 := by
  simp [Lit.wf, IntKind.min, IntKind.max, IntKind.signed, IntKind.bits] at h; omega
/-- bytes -/
theorem Sh.bytes {H : Heap} {cs : List Value} (h : (Sh.slice 1 (.int .u8)).ok H cs) : ∃ a cap l, cs = [.slice a (List.length l) cap] ∧ (∀ c ∈ l, c < 256) ∧ l.length < 9223372036854775808 ∧ ∀ M, (SA none 1 (.slice a l.length cap) l.length (fun i => [.int .u8 ((l.getD i 0 : Nat) : Int)])).p H M := by
  obtain ⟨a, len, cap, row, rfl, h1, h2, h3, h4⟩ := h
  obtain ⟨l, rfl, hl⟩ := list_choose (α := Nat) (φ := fun i b => row i = [.int .u8 (b : Int)] ∧ b < 256) len fun i hi => by
    obtain ⟨n, h5, h6⟩ := h4 i hi
    have := wf_u8 h6
    exact ⟨n.toNat, by rw [h5, Int.toNat_of_nonneg this.1], by omega⟩
  have hm : maxLen = 9223372036854775807 := rfl
  refine ⟨a, cap, l, rfl, fun c hc => ?_, by omega, fun M => SA.cg _ (fun i hi => (hl i hi).1) H M (h3 M)⟩
  obtain ⟨i, hi, e⟩ := List.mem_iff_getElem.1 hc
  have := (hl i hi).2
  rw [List.getD_eq_getElem?_getD, List.getElem?_eq_getElem hi, Option.getD_some, e] at this
  exact this
end Go.Cam
/- How much a map has that has nothing. -/
namespace Go.Cam
section
variable {P : Program} {l : List (Nat × Value)} {As Bs : List HP} {d : Nat} {oty : TypeId} {pos : String} {af : Array Edge} {g : Option (Nat × Bool)}
end
end Go.Cam
/- A text is made bytes. -/
namespace Go.Cam
section
variable {P : Program} {l : List (Nat × Value)} {As : List HP} {dd : Option Nat} {oty : TypeId} {pos : String} {af : Array Edge} {g : Option (Nat × Bool)}
theorem st_s2b {t t2 e : TypeId} {x : Operand} {s : List Nat} [sc : SC P t e] [sy : STY P t2] [u8 : U8T P e] (hb : Bys s)
    (hx : ∀ j, ev (mk l j) x = .string (strB s) := by intro j; rfl) :
    StepL P ⟨dd, .convert t2 t x, oty, pos, af, g⟩ l As (fun v Bs => ∃ r cs c, v = .slice (some ⟨r, 0, none⟩) s.length c ∧ s.length ≤ c ∧ cs.size = c ∧ cs.toList.take s.length = bcl s ∧ Bs = .own r (.cells cs e (cs.size, cs.size + 1)) :: As) := .mk fun j Fs H M q => by
  refine hmc_of_hm ?_
  show hm P (convert t2 t (ev (mk l j) x) >>= fun v => pure (Next.value v)) H M _
  rw [hx j]
  refine hm_bind ?_
  unfold convert
  refine hm_bind (hm_cst sy.h ?_)
  refine hm_bind (hm_cst sc.h ?_)
  dsimp only
  refine hm_bind (hm_cst u8.h ?_)
  dsimp only
  unfold Conv.stringToBytes
  refine hm_bind (hm_choose fun cap _ hcut => ?_)
  obtain ⟨tt, rfl⟩ := hcut rfl
  have hnc : (strB s).size ≤ (Question.appendCap (strB s).size 0 e).cut tt := by simp [Question.cut]
  generalize (Question.appendCap (strB s).size 0 e).cut tt = nc at hnc
  have hsz : (strB s).size = s.length := by simp [strB, ByteArray.size]
  dsimp only
  generalize hcs : ((strB s).data.map (fun b : UInt8 => Value.int .u8 b.toNat)) ++ Array.replicate (nc - (strB s).size) (Value.int .u8 0) = cs
  have hcsz : cs.size = nc := by
    rw [← hcs, Array.size_append, Array.size_map, Array.size_replicate]
    have : (strB s).data.size = (strB s).size := rfl
    omega
  have hct : cs.toList.take s.length = bcl s := by
    rw [← hcs, Array.toList_append]
    have e1 : ((strB s).data.map (fun b : UInt8 => Value.int .u8 b.toNat)).toList = bcl s := by
      unfold strB bcl
      rw [Array.toList_map, List.map_map]
      refine List.map_congr_left fun b h => ?_
      have := hb b h
      show Value.int .u8 ((UInt8.ofNat b).toNat : Nat) = _
      rw [UInt8.toNat_ofNat', Nat.mod_eq_of_lt this]
    rw [e1, List.take_left' (by simp [bcl])]
  refine hm_bind (hm_newRow fun r hr => ?_)
  have h1 : upd M r (.cells cs e) r = some (.cells cs e (0, 0)) := upd_same _ _ _
  refine hm_bind (fun w0 w hh => ?_)
  have h2 := hh.m r _ h1
  have hsh : w.shape? r = some (e, cs.size) := by unfold World.shape?; rw [h2]
  refine ⟨(), w.freeze ⟨r, cs.size, none⟩ 1, H, upd (upd M r (.cells cs e (0, 0))) r (.cells cs e (cs.size, cs.size + 1)), ?_, ?_, hm_pure (hm_pure ⟨_, .inl rfl, _, ⟨r, cs, nc, by rw [hsz], by omega, hcsz, hct, rfl⟩, ?_⟩)⟩
  · simp [markStringish, hsh]
  · exact hh.modify h1 (fun o => match o with | .cells c elem (lo, hi) => .cells c elem (if lo == hi then (cs.size, cs.size + 1) else (min lo cs.size, max hi (cs.size + 1))) | o => o)
  · have : upd (upd M r (.cells cs e (0, 0))) r (.cells cs e (cs.size, cs.size + 1)) = upd M r (.cells cs e (cs.size, cs.size + 1)) := by
      funext q; unfold upd; split <;> rfl
    rw [this]
    exact own_new hr q
end
end Go.Cam
/- Elements of arrays that lie in a slice; bytes turned. -/
namespace Go.Cam
section
variable {P : Program} {f : FuncId} {n : Nat} {R : Value → HP} {k : List It} {l : List (Nat × Value)} {As Bs : List HP} {all : Array Oper} {rest : List Oper} {d : Nat} {dd : Option Nat} {oty : TypeId} {pos : String} {af : Array Edge} {g : Option (Nat × Bool)}
end
end Go.Cam
/- A key is taken out of a map. -/
namespace Go.Cam
theorem WFM.erase {es : List MapEntry} {ck : Nat} {gm : Int → Option Value} (h : WFM es ck gm) {k : Int} {j : Nat} {e : MapEntry} (hj : es[j]? = some e) (hk : e.key = .int .i64 k) : WFM (es.eraseIdx j) ck (mset gm k none) where
  key x hx := by
    obtain ⟨i, hi, hx2⟩ := List.mem_eraseIdx_iff_getElem?.1 hx
    obtain ⟨k2, h1, h2⟩ := h.key x (List.mem_of_getElem? hx2)
    refine ⟨k2, h1, ?_⟩
    unfold mset
    rw [if_neg]
    · exact h2
    · intro e2
      subst e2
      have hp := h.kd
      rw [List.pairwise_iff_getElem] at hp
      have hil : i < es.length := by rcases Nat.lt_or_ge i es.length with g | g; exact g; rw [List.getElem?_eq_none g] at hx2; cases hx2
      have hjl : j < es.length := by rcases Nat.lt_or_ge j es.length with g | g; exact g; rw [List.getElem?_eq_none g] at hj; cases hj
      have e1 : es[j] = e := by rw [List.getElem?_eq_getElem hjl] at hj; exact Option.some.inj hj
      have e4 : es[i] = x := by rw [List.getElem?_eq_getElem hil] at hx2; exact Option.some.inj hx2
      rcases Nat.lt_or_gt_of_ne hi with hl | hl
      · exact hp i j hil hjl hl (by rw [e1, e4, h1, hk])
      · exact hp j i hjl hil hl (by rw [e1, e4, h1, hk])
  all k2 v2 h2 := by
    unfold mset at h2
    split at h2
    · cases h2
    · rename_i hne
      obtain ⟨e', he', hk2⟩ := h.all _ _ h2
      obtain ⟨i, hi⟩ := List.getElem?_of_mem he'
      refine ⟨e', List.mem_eraseIdx_iff_getElem?.2 ⟨i, fun e2 => ?_, hi⟩, hk2⟩
      subst e2
      rw [hj] at hi; cases hi
      rw [hk] at hk2; cases hk2; exact hne rfl
  kd := h.kd.sublist (List.eraseIdx_sublist ..)
  bd := h.bd.sublist (List.eraseIdx_sublist ..)
  bl x hx := h.bl x (List.mem_of_mem_eraseIdx hx)
section
variable {P : Program} {f : FuncId} {n : Nat} {R : Value → HP} {k : List It} {l : List (Nat × Value)} {As Bs : List HP} {all : Array Oper} {rest : List Oper} {d : Nat} {dd : Option Nat} {oty : TypeId} {pos : String} {af : Array Edge} {g : Option (Nat × Bool)}
end
end Go.Cam
/- Appending a text's bytes; a pointer made raw and back; a row of bytes made a text without a copy. -/
namespace Go.Cam
theorem strB_cells {s : List Nat} (hb : Bys s) : ((strB s).data.map (fun b : UInt8 => Value.int .u8 b.toNat)).toList = bcl s := by
  unfold strB bcl
  rw [Array.toList_map, List.map_map]
  refine List.map_congr_left fun b h => ?_
  have := hb b h
  show Value.int .u8 ((UInt8.ofNat b).toNat : Nat) = _
  rw [UInt8.toNat_ofNat', Nat.mod_eq_of_lt this]
theorem strB_size (s : List Nat) : (strB s).size = s.length := by simp [strB, ByteArray.size]
section
variable {P : Program} {H M : Heap}
/-- append of a text's bytes -/
theorem hm_appS {t t2 e : Nat} {v : Value} {xs : List Value} {y : List Nat} {i : TypeInfo} {z : Value} {K : Value → Heap → Heap → Prop} (hy : Bys y)
    (hu : cst P (underlying t) = some (.slice e)) (hu2 : cst P (underlying t2) = some .string) (hs : cst P (sizeOf e) = some 1) (hi : cst P (typeInfo e) = some i) (hby : i.bytes = 1) (hz : cst P (zeroValue e) = some z) (hzs : z.cells.size = 1)
    (hown : Own M e 1 v xs) (hroom : xs.length + y.length + 512 ≤ 140737488355328)
    (h : ∀ v' M', Own M' e 1 v' (xs ++ bcl y) → App M v M' v' → K v' H M') :
    hm P (Builtin.append_ #[t, t2] t #[v, .string (strB y)]) H M K := by
  have hlen2 : (bcl y).length = y.length := by simp [bcl]
  have hfirst : ∀ (K : Array Value → Heap → Heap → Prop), K (bcl y).toArray H M → hm P (Builtin.firstCells 1 (strB y).size (.string (strB y))) H M K := by
    intro K hk
    refine hm_pure ?_
    have e1 : (((strB y).extract 0 (strB y).size).data.map fun b : UInt8 => Value.int .u8 b.toNat) = (bcl y).toArray := by
      apply Array.ext'
      have : ((strB y).extract 0 (strB y).size) = strB y := by simp
      rw [this, strB_cells hy]
    rw [e1]; exact hk
  obtain ⟨base, len, cap, hv, hlen, hcap, hpart⟩ : ∃ base len cap, v = .slice base len cap ∧ xs.length = len ∧ len ≤ cap ∧
      ((base = none ∧ len = 0 ∧ cap = 0 ∧ xs = []) ∨ ∃ b cs, base = some ⟨b, 0, none⟩ ∧ cs.size = cap ∧ M b = some (.cells cs e (0, 0)) ∧ cs.toList.take xs.length = xs) := by
    rcases hown with ⟨rfl, rfl⟩ | ⟨b, len, cap, cs, rfl, a1, a2, a3, a4, a5⟩
    · exact ⟨none, 0, 0, rfl, by simp, Nat.le_refl _, .inl ⟨rfl, rfl, rfl, rfl⟩⟩
    · exact ⟨_, len, cap, rfl, by omega, a3, .inr ⟨b, cs, rfl, by omega, a4, a5⟩⟩
  subst hv
  rw [hlen] at hroom
  have hsz : (strB y).size = y.length := strB_size y
  unfold Builtin.append_
  simp only [List.getElem?_toArray, List.getElem?_cons_zero, List.getElem?_cons_succ]
  refine hm_bind (hm_cst hu ?_)
  dsimp only
  refine hm_bind (hm_cst hs ?_)
  refine hm_bind (hm_cst hu2 ?_)
  dsimp only
  refine hm_bind (hm_pure ?_)
  simp only [Bool.false_eq_true, if_false, Bool.not_false, if_true]
  refine hm_bind (hm_pure ?_)
  by_cases hfit : len + (strB y).size ≤ cap
  · rw [if_pos hfit]
    refine hm_bind (hfirst _ ?_)
    rcases hpart with ⟨rfl, rfl, rfl, rfl⟩ | ⟨b, cs, rfl, a2, a4, a5⟩
    · have hm0 : y.length = 0 := by omega
      have hy0 : y = [] := List.eq_nil_of_length_eq_zero hm0
      subst hy0
      refine hm_bind (hm_pure (hm_pure (h _ M ?_ ?_)))
      · exact .inl ⟨rfl, rfl⟩
      · exact fun c o _ hc => ⟨hc, by simp [ob]⟩
    · refine hm_bind ?_
      dsimp only
      rw [addr_add]
      refine hm_storeCells a4 (by simp only [Nat.zero_add, hlen2, a2]; omega) (bcl_one y) (hm_pure (h _ _ ?_ ?_))
      · refine .inr ⟨b, len + (strB y).size, cap, _, rfl, by rw [List.length_append, hlen, hlen2]; omega, by rw [setL_size]; omega, hfit, upd_same _ _ _, ?_⟩
        apply List.ext_getElem?
        intro q
        rw [List.getElem?_take]
        have hz2 : ∀ q : Nat, (setL cs (0 + len * 1) (bcl y)).toList[q]? = (setL cs (0 + len * 1) (bcl y))[q]? := fun q => Array.getElem?_toList
        rw [hz2]
        by_cases hq : q < (xs ++ bcl y).length
        · rw [if_pos hq]
          simp only [List.length_append, hlen, hlen2] at hq
          rw [setL_get _ _ _ _ (by rw [a2]; omega)]
          by_cases hq2 : q < len
          · rw [if_neg (by omega), List.getElem?_append_left (by omega)]
            have := congrArg (fun l => l[q]?) a5
            simp only [List.getElem?_take, hlen, hq2, if_true] at this
            simpa using this
          · rw [if_pos (by omega), List.getElem?_append_right (by omega), hlen, Nat.zero_add, Nat.mul_one]
        · rw [if_neg hq, List.getElem?_eq_none (by omega)]
      · intro c' o hc ho
        have hne : c' ≠ b := fun e' => hc (by rw [e']; rfl)
        exact ⟨by rw [upd_ne hne]; exact ho, fun e' => hc e'⟩
  · rw [if_neg hfit]
    refine hm_bind (hm_cst hi ?_)
    rw [if_neg (by simp [hby])]
    refine hm_bind (hm_cst hi ?_)
    have hns := nextslicecap_le (len + (strB y).size) cap (by omega)
    rw [if_neg (by rw [hby]; omega)]
    refine hm_bind (hm_choose fun newCap _ hcut => ?_)
    obtain ⟨tt, rfl⟩ := hcut rfl
    refine hm_bind (hm_cst hi ?_)
    refine hm_bind (hm_askRoom ?_)
    have hnc : len + (strB y).size ≤ (Question.appendCap (len + (strB y).size) cap e).cut tt := by simp [Question.cut]
    generalize (Question.appendCap (len + (strB y).size) cap e).cut tt = nc at hnc
    have hold : ∀ (K : Array Value → Heap → Heap → Prop), K xs.toArray H M → hm P (Builtin.firstCells 1 len (.slice base len cap)) H M K := by
      intro K hk
      rcases hpart with ⟨rfl, rfl, rfl, rfl⟩ | ⟨b, cs, rfl, a2, a4, a5⟩
      · exact hm_pure hk
      · show hm P (loadCells ⟨b, 0, none⟩ (len * 1)) H M K
        refine hm_loadCells (.inl a4) (by omega) ?_
        have : cs.extract 0 (0 + len * 1) = xs.toArray := by
          apply Array.ext'
          rw [Array.toList_extract, List.extract_eq_take_drop]
          simp only [Nat.zero_add, Nat.sub_zero, List.drop_zero, Nat.mul_one]
          rw [← hlen]; exact a5
        rw [this]; exact hk
    refine hm_bind (hold _ ?_)
    refine hm_bind (hfirst _ ?_)
    refine hm_bind (hm_cst hz ?_)
    refine hm_bind (hm_newRow fun r hr => hm_pure (h _ _ ?_ ?_))
    · refine .inr ⟨r, len + (strB y).size, nc, _, rfl, by rw [List.length_append, hlen, hlen2]; omega, ?_, hnc, upd_same _ _ _, ?_⟩
      · have hsz2 : (Builtin.zeroCells z.cells (nc - (len + (strB y).size))).size = (nc - (len + (strB y).size)) * 1 := by simp [Builtin.zeroCells, hzs]
        simp only [Array.size_append, List.size_toArray, hlen, hlen2, hsz2]
        omega
      · simp only [Array.toList_append, List.append_assoc]
        rw [← List.append_assoc]
        exact List.take_left' rfl
    · intro c' o hc ho
      exact ⟨hr.old ho, fun e' => by simp only [ob, Option.some.injEq] at e'; exact hr.ne ho e'.symm⟩
end
theorem execOp_app2 {e : Nat → Value} {dd : Option Nat} {t t2 : TypeId} {p q : Operand} {pos : String} {af : Array Edge} {g : Option (Nat × Bool)} : execOp (ev e) ⟨dd, .call ⟨.builtin .append, #[p, q], #[t, t2]⟩, t, pos, af, g⟩ = (Builtin.append_ #[t, t2] t #[ev e p, ev e q] >>= fun v => pure (Next.value v)) := by
  show (resolve (ev e) ⟨.builtin .append, #[p, q], #[t, t2]⟩ t >>= fun d => invoke d.target d.args) = _
  have : #[p, q].map (ev e) = #[ev e p, ev e q] := by simp
  unfold resolve
  dsimp only
  rw [this]; rfl
theorem byR_own {e : Nat} {v : Value} {n : Nat} {l : List Nat} {M : Heap} (h : Own M e 1 v (bcl l)) (hn : l.length = n) : SlO M e 1 v n (byR l) := by
  subst hn
  refine ⟨fun _ _ => rfl, by rw [flat_byR']; exact bcl_one l, by rw [flat_byR']; exact h, ?_⟩
  rcases h with ⟨rfl, h⟩ | ⟨b, len, cap, cs, rfl, a1, _⟩
  · have : l.length = 0 := by have := congrArg List.length h; simpa [bcl] using this
    rw [this]; exact ⟨_, _, rfl⟩
  · have : l.length = len := by simpa [bcl] using a1
    subst this; exact ⟨_, _, rfl⟩
section
variable {P : Program} {f : FuncId} {n : Nat} {R : Value → HP} {k : List It} {l : List (Nat × Value)} {As Bs : List HP} {all : Array Oper} {rest : List Oper} {d : Nat} {dd : Option Nat} {oty : TypeId} {pos : String} {af : Array Edge} {g : Option (Nat × Bool)}
/-- append(bytes, text...) -/
theorem st_appS {t t2 e : Nat} {p q : Operand} {a : Option Addr} {x y : List Nat} {m cap : Nat} [sl : SL P t e 1 1] [sy : STY P t2] (hy : Bys y) (hm : x.length = m)
    (u : Sel (SA (some e) 1 (.slice a m cap) m (byR x)) As Bs) (hroom : m + y.length + 512 ≤ 140737488355328 := by omega)
    (hp : ∀ j, ev (mk l j) p = .slice a m cap := by intro j; rfl) (hq : ∀ j, ev (mk l j) q = .string (strB y) := by intro j; rfl) :
    StepL P ⟨dd, .call ⟨.builtin .append, #[p, q], #[t, t2]⟩, t, pos, af, g⟩ l As (fun v Cs => ∃ a' cap', v = .slice a' (m + y.length) cap' ∧ Cs = SA (some e) 1 (.slice a' (m + y.length) cap') (m + y.length) (byR (x ++ y)) :: Bs) := .mk fun j Fs H M s => by
  subst hm
  have hs := (u.app Fs).sat s
  obtain ⟨M1, M2, a1, a2, dj, hA, hB⟩ := hs
  rw [execOp_app2, hp j, hq j]
  obtain ⟨i, z, hu, hs1, hi, hby, hb0, hz, hzs, hsz⟩ := sl.h
  refine hmc_of_hm (hm_bind ?_)
  obtain ⟨_, _, hown1, _⟩ := hA
  rw [flat_byR'] at hown1
  have hown := hown1.frame (M' := M) fun c o _ h => a1 c o h
  refine hm_appS hy hu sy.h hs1 hi hby hz hzs hown (by simpa [bcl] using hroom) fun v' M' ho ha => hm_pure ⟨v', .inl rfl, ?_⟩
  have ho2 : Own M' e 1 v' (bcl (x ++ y)) := by unfold bcl at ho ⊢; rw [List.map_append]; exact ho
  have hsl := byR_own ho2 (n := x.length + y.length) (by simp)
  obtain ⟨h7, h8, h9, a', cap', rfl⟩ := hsl
  refine ⟨_, ⟨a', cap', rfl, rfl⟩, fun c => if ob (.slice a' (x.length + y.length) cap') = some c then M' c else none, M2, ?_, ?_, ?_, ⟨h7, h8, h9.frame fun c o hc ho => by rw [if_pos hc]; exact ho, _, _, rfl⟩, hB⟩
  · intro c o hc; dsimp only at hc; split at hc
    · exact hc
    · cases hc
  · intro c o hc
    refine (ha c o (fun e1 => ?_) (a2 c o hc)).1
    rcases hown1 with ⟨h1, _⟩ | ⟨b, _, _, _, h1, _, _, _, h4, _⟩
    · injection h1 with h1 _ _; subst h1; simp [ob] at e1
    · cases h1
      simp only [ob, Option.some.injEq] at e1
      subst e1
      rcases dj _ with h5 | h5
      · rw [h4] at h5; cases h5
      · rw [hc] at h5; cases h5
  · intro c
    dsimp only
    cases hc : M2 c with
    | none => exact .inr rfl
    | some o =>
      refine .inl ?_
      rw [if_neg]
      refine (ha c o (fun e1 => ?_) (a2 c o hc)).2
      rcases hown1 with ⟨h1, _⟩ | ⟨b, _, _, _, h1, _, _, _, h4, _⟩
      · injection h1 with h1 _ _; subst h1; simp [ob] at e1
      · cases h1
        simp only [ob, Option.some.injEq] at e1
        subst e1
        rcases dj _ with h5 | h5
        · rw [h4] at h5; cases h5
        · rw [hc] at h5; cases h5
/-- what is owned and not empty lies in a row of its own -/
theorem SA.some {e : Nat} {v : Value} {x : List Nat} {m : Nat} {H M : Heap} (h : (SA (some e) 1 v m (byR x)).p H M) (hx : x.length = m) (h0 : x ≠ []) : ∃ b c, v = .slice (some ⟨b, 0, none⟩) m (c + 1) := by
  obtain ⟨_, _, h3, a, cap, rfl⟩ := h
  subst hx
  rw [flat_byR'] at h3
  have hl : x.length ≠ 0 := by simpa using h0
  rcases h3 with ⟨h1, h2⟩ | ⟨b, len, c, cs, h1, h2, h3, h4, _⟩
  · have := congrArg List.length h2
    simp [bcl] at this; exact absurd this h0
  · cases h1
    exact ⟨b, cap - 1, by congr 1; omega⟩
/-- a pointer to a row of cells is made raw -/
theorem lk_raw {t t2 u : TypeId} {x : Operand} {b ty : Nat} {cs : List Value} {j0 : TypeInfo} {hu : P.underlying t = Option.some (.pointer u)} {hd : P.underlying t2 = Option.some .unsafePointer} {hi : P.info? u = Option.some j0} {hz : j0.size ≠ 0} (s : Sel (Box b ty cs) As Bs) (hc : 0 < cs.length)
    (hx : ∀ j, ev (mk l j) x = .pointer (Option.some ⟨b, 0, none⟩) := by intro j; rfl) : LookS P ⟨Option.some d, .convert t t2 x, oty, pos, af, g⟩ l As (.pointer (Option.some ⟨b, 0, none⟩)) := .mk fun j H M q => by
  refine qt_exec (s := convert t t2 (ev (mk l j) x)) (by unfold execOp; rfl) fun w0 w hh => ?_
  rw [hx j]
  have hb := hh.m _ _ (s.hold q)
  exact Lib.run_to_unsafe (e := ty) (cells := cs.length) w ⟨b, 0, none⟩ hu hd hi hz (by unfold World.shape?; rw [hb]; simp) hc
theorem lk_unraw {t t2 u : TypeId} {x : Operand} {b ty : Nat} {cs : List Value} {j0 : TypeInfo} {hu : P.underlying t2 = Option.some (.pointer u)} {hd : P.underlying t = Option.some .unsafePointer} {hi : P.info? u = Option.some j0} (s : Sel (Box b ty cs) As Bs) (hl : liesAt P P.depth ty (cs.length / P.cellsOf ty) 0 u 1 = true)
    (hx : ∀ j, ev (mk l j) x = .pointer (Option.some ⟨b, 0, none⟩) := by intro j; rfl) : LookS P ⟨Option.some d, .convert t t2 x, oty, pos, af, g⟩ l As (.pointer (Option.some ⟨b, 0, none⟩)) := .mk fun j H M q => by
  refine qt_exec (s := convert t t2 (ev (mk l j) x)) (by unfold execOp; rfl) fun w0 w hh => ?_
  rw [hx j]
  have hb := hh.m _ _ (s.hold q)
  exact Lib.run_from_unsafe (e := ty) (cells := cs.length) w ⟨b, 0, none⟩ hd hu hi (by unfold World.shape?; rw [hb]; simp) hl
/-- one and the same pointer -/
theorem lk_nep {t t2 u : TypeId} {x y : Operand} {a : Addr} {j0 : TypeInfo} {hu : P.underlying t = Option.some (.pointer u)} {hi : P.info? u = Option.some j0}
    (hx : ∀ j, ev (mk l j) x = .pointer (Option.some a) := by intro j; rfl) (hy : ∀ j, ev (mk l j) y = .pointer (Option.some a) := by intro j; rfl) : LookS P ⟨Option.some d, .binOp .neq t x y t2, oty, pos, af, g⟩ l As (.bool false) := .mk fun j H M q => by
  refine qs_binw rfl (by rw [hx j, hy j]; rfl) fun w => ?_
  rw [hx j, hy j]
  exact Lib.run_neq_ptr_same w a hu hi
/-- a row's head is made a text without a copy; the row is given up -/
theorem st_us {t t2 pt e m c b : Nat} {x y : Operand} {s : List Nat} (hs : Bys s) (hm : s.length = m) (h0 : s ≠ []) (hu : P.underlying pt = Option.some (.pointer e)) (hc : P.cellsOf e = 1) (u : Sel (SA (Option.some e) 1 (.slice (Option.some ⟨b, 0, none⟩) m c) m (byR s)) As Bs) (h63 : m ≤ 9223372036854775807 := by omega)
    (hx : ∀ j, ev (mk l j) x = .pointer (Option.some ⟨b, 0, none⟩) := by intro j; rfl) (hy : ∀ j, ev (mk l j) y = .int .i64 (m : Int) := by intro j; rfl) :
    StepL P ⟨dd, .call ⟨.builtin .unsafeString, #[x, y], #[pt, t]⟩, t2, pos, af, g⟩ l As (fun v Cs => v = .string (strB s) ∧ Cs = Bs) := .mk fun j Fs H M q => by
  subst hm
  have e1 : execOp (ev (mk l j)) ⟨dd, .call ⟨.builtin .unsafeString, #[x, y], #[pt, t]⟩, t2, pos, af, g⟩ = (Builtin.unsafeString_ #[pt, t] t2 #[ev (mk l j) x, ev (mk l j) y] >>= fun v => pure (Next.value v)) := by
    show (resolve (ev (mk l j)) ⟨.builtin .unsafeString, #[x, y], #[pt, t]⟩ t2 >>= fun d => invoke d.target d.args) = _
    have : #[x, y].map (ev (mk l j)) = #[ev (mk l j) x, ev (mk l j) y] := by simp
    unfold resolve
    dsimp only
    rw [this]; rfl
  rw [e1, hx j, hy j]
  have q := (u.app Fs).sat q
  obtain ⟨M1, M2, a1, a2, dj, hA, hB⟩ := q
  obtain ⟨_, _, hown, _⟩ := hA
  rw [flat_byR'] at hown
  have hl : s.length ≠ 0 := by simpa using h0
  rcases hown with ⟨h1, h2⟩ | ⟨b', len, c', cs, h1, h2, h3, h4, h5, h6⟩
  · cases h1
  · cases h1
    have hlen : (s.map UInt8.ofNat).length = s.length := by simp
    have hM : M b = Option.some (.cells cs e (0, 0)) := a1 _ _ h5
    refine hmc_of_hm (hm_bind fun w0 w hh => ?_)
    have hb := hh.m _ _ hM
    have hM2 : M2 b = none := (dj b).resolve_left fun e2 => by rw [e2] at h5; cases h5
    have hrun := Lib.run_unsafeString_row (P := P) w pt t t2 e hu hc b cs.size (by unfold World.shape?; rw [hb]) (s.map UInt8.ofNat) (by simpa using h0) (by rw [hlen]; omega) (by rw [hlen]; omega) (fun jj xx hj => by
      have e4 : ((⟨b, 0, none⟩ : Addr).add jj) = ⟨b, jj, none⟩ := by
        unfold Addr.add; split
        · rename_i e5; subst e5; rfl
        · simp
      rw [e4]
      unfold World.cell?
      rw [hb]
      rw [List.getElem?_map] at hj
      obtain ⟨cc, h7, rfl⟩ := Option.map_eq_some_iff.1 hj
      have h8 := congrArg (fun z => z[jj]?) h6
      simp only [bcl, List.getElem?_take, List.length_map, List.getElem?_map, h7, Option.map_some] at h8
      rw [if_pos (by rcases Nat.lt_or_ge jj s.length with g | g; exact g; rw [List.getElem?_eq_none g] at h7; cases h7)] at h8
      have h9 : cc < 256 := hs cc (List.mem_of_getElem? h7)
      have : ((UInt8.ofNat cc).toNat : Int) = (cc : Int) := by rw [UInt8.toNat_ofNat', Nat.mod_eq_of_lt h9]
      show cs[jj]? = Option.some (Value.int IntKind.u8 ((UInt8.ofNat cc).toNat : Int))
      rw [this]
      simpa using h8)
    rw [hlen] at hrun
    have hstr : (⟨(s.map UInt8.ofNat).toArray⟩ : ByteArray) = strB s := rfl
    rw [hstr] at hrun
    refine ⟨_, w.freeze ⟨b, 0, none⟩ s.length, H, M2, hrun, ?_, hm_pure ⟨_, .inl rfl, _, ⟨rfl, rfl⟩, hB⟩⟩
    have e2 : ∀ b2 o, M2 b2 = Option.some o → (w.freeze ⟨b, 0, none⟩ s.length).heap[b2]? = Option.some o := fun b2 o h => by
      have hne : b2 ≠ b := fun e3 => by rw [e3, hM2] at h; cases h
      have := hh.m _ _ (a2 _ _ h)
      unfold World.freeze
      split
      · exact this
      · simp only [Array.getElem?_modify]; rw [if_neg (fun e3 => hne e3.symm)]; exact this
    have e3 : ∀ b2 o, H b2 = Option.some o → (w.freeze ⟨b, 0, none⟩ s.length).heap[b2]? = Option.some o := fun b2 o h => by
      have hne : b2 ≠ b := fun e3 => by
        subst e3
        have := hh.d _ (by rw [h]; simp : H b2 ≠ none)
        rw [hM] at this; cases this
      have := hh.h _ _ h
      unfold World.freeze
      split
      · exact this
      · simp only [Array.getElem?_modify]; rw [if_neg (fun e3 => hne e3.symm)]; exact this
    have e5 : (w.freeze ⟨b, 0, none⟩ s.length).os = w.os ∧ (w.freeze ⟨b, 0, none⟩ s.length).tape = w.tape ∧ (w.freeze ⟨b, 0, none⟩ s.length).output = w.output ∧ (w.freeze ⟨b, 0, none⟩ s.length).heap.size = w.heap.size := by
      unfold World.freeze; split
      · exact ⟨rfl, rfl, rfl, rfl⟩
      · exact ⟨rfl, rfl, rfl, by simp⟩
    exact ⟨by rw [e5.1]; exact hh.os, by rw [e5.2.1]; exact hh.tape, by rw [e5.2.2.1]; exact hh.output, by rw [e5.2.2.2]; exact hh.size, e3, e2, fun b2 h => by
      have := hh.d _ h
      cases h7 : M2 b2 with
      | none => rfl
      | some o => rw [a2 _ _ h7] at this; cases this⟩
end
end Go.Cam
