/- What was handed in, of any depth, with a bound of its weight. -/
import Derived.Test.YtmlddafbenfilaaDoorCamAO
import Derived.Lib.ItoaNum
import Derived.Lib.AtoiAll
import Derived.Test.YtmlddafbenfilaaDoorCamAC
namespace Go.Cam
open Go.ChangeShapes Go.WideShapes Go.Deep
def Sh.okB (H : Heap) (B : Nat) : Sh → List Value → Prop
  | .int k, cs => ∃ n, cs = [.int k n] ∧ (Lit.int k n).wf = true
  | .str, cs => ∃ s : ByteArray, cs = [.string s] ∧ s.size ≤ B
  | .bool, cs => ∃ b, cs = [.bool b]
  | .emp, cs => cs = []
  | .cat a b, cs => ∃ x y, cs = x ++ y ∧ a.okB H B x ∧ b.okB H B y
  | .slice sz s, cs => ∃ a len cap row, cs = [.slice a len cap] ∧ len ≤ cap ∧ cap ≤ B ∧ (∀ M, (SA none sz (.slice a len cap) len row).p H M) ∧ ∃ b : Nat → Nat, ((List.range len).map b).sum ≤ B ∧ ∀ i, i < len → s.okB H (b i) (row i)
theorem sum_ge {l : List Nat} {x : Nat} (h : x ∈ l) : x ≤ l.sum := by
  induction l with
  | nil => cases h
  | cons y l ih =>
    rw [List.sum_cons]
    rcases List.mem_cons.1 h with rfl | h
    · omega
    · have := ih h; omega
theorem range_ge {n i : Nat} (b : Nat → Nat) (hi : i < n) : b i ≤ ((List.range n).map b).sum := sum_ge (List.mem_map.2 ⟨i, List.mem_range.2 hi, rfl⟩)
theorem sum_below {α : Type} (d : α) (f : α → Nat) : ∀ (l : List α) (b : Nat → Nat), (∀ i, i < l.length → f (l.getD i d) ≤ b i) → (l.map f).sum ≤ ((List.range l.length).map b).sum
  | [], _, _ => Nat.zero_le _
  | x :: l, b, h => by
    have ih := sum_below d f l (fun i => b (i + 1)) fun i hi => h (i + 1) (by rw [List.length_cons]; omega)
    have h0 : f x ≤ b 0 := h 0 (by simp)
    rw [List.length_cons, List.range_succ_eq_map, List.map_cons, List.map_cons, List.sum_cons, List.sum_cons, List.map_map]
    exact Nat.add_le_add h0 ih
structure Wt {H : Type} (wt : DataW H → Nat) : Prop where
  str : ∀ b : List UInt8, b.length ≤ wt (.lit (.string b))
  agg : ∀ l d, d ∈ l → wt d ≤ wt (.agg l)
  sl : ∀ l r, (l.map wt).sum ≤ wt (.slice l r)
  len : ∀ l r, l.length + r.length ≤ wt (.slice l r)
section
variable {H : Type} {enc : TypeId × Value → H} {P : Program} {w : World} {base : Nat} {held : Bool}
theorem shF_okB {B : Nat} {Q : DataW H × List MemPlace → Prop} {d : Nat} {n : Nat} {cs : List Value} (ih : ∀ t cs x s, DataW.trod enc P w base (fun _ => true) held n t cs = some x → Q x → shT P d t = some s → s.okB (fun b => w.heap[b]?) B cs) :
    ∀ (fs : List Field) (off : Nat) (s : Sh), (∀ f, f ∈ fs → ∃ x, DataW.trod enc P w base (fun _ => true) held n f.type ((cs.drop f.offset).take (P.cellsOf f.type)) = some x ∧ Q x) → shF P (shT P d) fs off = some s → s.okB (fun b => w.heap[b]?) B ((cs.drop off).take s.w)
  | [], off, s, _, h => by
    simp only [shF, Option.some.injEq] at h
    subst h; simp [Sh.okB, Sh.w]
  | f :: r, off, s, hf, h => by
    unfold shF at h
    split at h
    · rename_i ho
      subst ho
      obtain ⟨k1, h1, h2⟩ := Option.bind_eq_some_iff.1 h
      split at h2
      · rename_i hl
        obtain ⟨k2, h3, rfl⟩ := Option.map_eq_some_iff.1 h2
        obtain ⟨x, hx, hqx⟩ := hf f (by simp)
        have a := ih _ _ _ _ hx hqx h1
        have b := shF_okB ih r _ k2 (fun g hg => hf g (by simp [hg])) h3
        refine ⟨_, _, ?_, a, b⟩
        rw [Sh.w, hl, List.take_add, List.drop_drop]
      · cases h2
    · cases h
theorem rep_okB {B : Nat} {s : Sh} {m : Nat} {Hp : Heap} : ∀ (n : Nat) (cs : List Value), cs.length = n * m → s.w = m → (∀ i, i < n → s.okB Hp B ((cs.drop (i * m)).take m)) → (s.rep n).okB Hp B cs
  | 0, cs, hl, _, _ => by
    rw [Nat.zero_mul] at hl
    exact List.eq_nil_of_length_eq_zero hl
  | n + 1, cs, hl, hm, h => by
    rw [Nat.add_mul, Nat.one_mul] at hl
    refine ⟨cs.take m, cs.drop m, (List.take_append_drop m cs).symm, by have := h 0 (by omega); simpa using this, rep_okB n _ (by rw [List.length_drop]; omega) hm fun i hi => ?_⟩
    have := h (i + 1) (by omega)
    rw [Nat.add_mul, Nat.one_mul, Nat.add_comm, ← List.drop_drop] at this
    exact this
theorem trod_shB {wt : DataW H → Nat} (W : Wt wt) : ∀ (d : Nat) (B : Nat) (n : Nat) (t : TypeId) (cs : List Value) (x : DataW H × List MemPlace) (s : Sh), DataW.trod enc P w base (fun _ => true) held n t cs = some x → wt x.1 ≤ B → shT P d t = some s → s.okB (fun b => w.heap[b]?) B cs
  | 0, _, _, _, _, _, _, _, _, h => by simp [shT] at h
  | d + 1, B, n, t, cs, x, s, ht, hB, h => by
    unfold shT at h
    split at h
    · rename_i k hu
      cases h
      obtain ⟨v, rfl, _, hw⟩ := DataW.trod_int hu ht
      exact ⟨v, rfl, hw⟩
    · rename_i hu
      cases h
      obtain ⟨v, rfl, rfl, hw⟩ := DataW.trod_string hu ht
      exact ⟨v, rfl, Nat.le_trans (Nat.le_trans (by rw [Array.length_toList]; exact Nat.le_refl _) (W.str _)) hB⟩
    · rename_i hu
      cases h
      obtain ⟨v, rfl, _⟩ := DataW.trod_bool hu ht
      exact ⟨v, rfl⟩
    · rename_i fs hu
      obtain ⟨k1, h1, h2⟩ := Option.bind_eq_some_iff.1 h
      split at h2
      · rename_i hl
        cases h2
        obtain ⟨xs, m, _, rfl, hlen, hxl, hf⟩ := DataW.trod_struct hu ht
        have := shF_okB (Q := fun x => wt x.1 ≤ B) (cs := cs) (fun t cs x ks a q b => trod_shB W d B m t cs x ks a q b) fs.toList 0 s (fun f hfm => by
          obtain ⟨i, hi, rfl⟩ := List.getElem_of_mem hfm
          have hi' : i < fs.size := by simpa using hi
          have := hf i fs[i] (by simp [hi'])
          refine ⟨xs[i]'(by omega), ?_⟩
          rw [show fs.toList[i] = fs[i] by simp]
          rw [this]; exact ⟨List.getElem?_eq_getElem (by omega), Nat.le_trans (W.agg _ _ (List.mem_map.2 ⟨_, List.getElem_mem _, rfl⟩)) hB⟩) h1
        rw [List.drop_zero, hl, ← hlen, List.take_of_length_le (Nat.le_refl _)] at this
        exact this
      · cases h2
    · rename_i m e hu
      obtain ⟨k1, h1, h2⟩ := Option.bind_eq_some_iff.1 h
      split at h2
      · rename_i hl
        cases h2
        obtain ⟨xs, q, _, rfl, hlen, hxl, hf⟩ := DataW.trod_array hu ht
        refine rep_okB (m := P.cellsOf e) m cs (by rw [hlen, ← hl.2, hl.1]) hl.1 fun i hi => ?_
        have h3 := hf i hi
        rw [List.getElem?_eq_getElem (by omega)] at h3
        exact trod_shB W d B q e _ _ k1 h3 (Nat.le_trans (W.agg _ _ (List.mem_map.2 ⟨_, List.getElem_mem _, rfl⟩)) hB) h1
      · cases h2
    · rename_i e hu
      obtain ⟨k1, h1, h2⟩ := Option.bind_eq_some_iff.1 h
      split at h2
      · rename_i hl
        cases h2
        rcases open_slice hu ht with ⟨rfl, _⟩ | ⟨a, len, cap, m, q, D, Pl, rfl, _, hlc, hm, hmm, hxe, hi⟩
        · exact ⟨none, 0, 0, fun _ => [], rfl, Nat.le_refl _, Nat.zero_le _, fun M => ⟨none, 0, rfl, Nat.le_refl _, fun i hi => absurd hi (Nat.not_lt_zero _), fun h => absurd h (Nat.not_lt_zero _)⟩, fun _ => 0, Nat.zero_le _, fun i hi => absurd hi (Nat.not_lt_zero _)⟩
        · simp only [if_true] at hmm
          subst hmm
          rw [← hl.1] at hi
          have hch : ∀ i, ∃ cs', i < m → w.cells? base (a.add (i * k1.w)) k1.w = some cs' ∧ DataW.trod enc P w base (fun _ => true) held q e cs' = some (D i, Pl i) := fun i => by
            by_cases c : i < m
            · obtain ⟨cs', h1⟩ := hi i c; exact ⟨cs', fun _ => h1⟩
            · exact ⟨[], fun h => absurd h c⟩
          have hD : ((List.range len).map fun i => wt (D i)).sum ≤ B := by
            refine Nat.le_trans ?_ (Nat.le_trans (W.sl _ _) (by rw [hxe] at hB; exact hB))
            rw [List.map_map]; exact Nat.le_refl _
          have hmB : m ≤ B := by
            have h9 := W.len ((List.range len).map D) ((List.range (m - len)).map fun j => D (len + j))
            rw [List.length_map, List.length_map, List.length_range, List.length_range] at h9
            rw [hxe] at hB
            have h10 : wt (DataW.slice ((List.range len).map D) ((List.range (m - len)).map fun j => D (len + j))) ≤ B := hB
            omega
          refine ⟨some a, len, m, fun i => (hch i).choose, rfl, hlc, hmB, sl_sa hl.2 hlc fun i hi2 => ((hch i).choose_spec (by omega)).1, fun i => wt (D i), hD, fun i hi2 => ?_⟩
          exact trod_shB W d _ q e _ _ k1 ((hch i).choose_spec (by omega)).2 (Nat.le_refl _) h1
      · cases h2
    · cases h
end
theorem Sh.bytesB {H : Heap} {B : Nat} {cs : List Value} (h : (Sh.slice 1 (.int .u8)).okB H B cs) : ∃ a cap l, cs = [.slice a (List.length l) cap] ∧ (∀ c ∈ l, c < 256) ∧ l.length ≤ B ∧ ∀ M, (SA none 1 (.slice a l.length cap) l.length (fun i => [.int .u8 ((l.getD i 0 : Nat) : Int)])).p H M := by
  obtain ⟨a, len, cap, row, rfl, h1, h2, h3, _, _, h4⟩ := h
  obtain ⟨l, rfl, hl⟩ := list_choose (α := Nat) (φ := fun i b => row i = [.int .u8 (b : Int)] ∧ b < 256) len fun i hi => by
    obtain ⟨n, h5, h6⟩ := h4 i hi
    have := wf_u8 h6
    exact ⟨n.toNat, by rw [h5, Int.toNat_of_nonneg this.1], by omega⟩
  refine ⟨a, cap, l, rfl, fun c hc => ?_, by omega, fun M => SA.cg _ (fun i hi => (hl i hi).1) H M (h3 M)⟩
  obtain ⟨i, hi, e⟩ := List.mem_iff_getElem.1 hc
  have := (hl i hi).2
  rw [List.getD_eq_getElem?_getD, List.getElem?_eq_getElem hi, Option.getD_some, e] at this
  exact this
end Go.Cam
/- The plain law of quoting: what is read is just what would be written. -/
namespace Go.Proofs.YtmlddafbenfilaaDoor
open Go.Cam
set_option maxRecDepth 100000
/-- a byte that stands for itself -/
def itselfN (c : Nat) : Bool := decide (97 ≤ c ∧ c ≤ 122) || decide (65 ≤ c ∧ c ≤ 90) || decide (48 ≤ c ∧ c ≤ 57) || decide (c = 47 ∨ c = 46 ∨ c = 45 ∨ c = 95)
def hexN (d : Nat) : Nat := if d < 10 then 48 + d else 87 + d
/-- what a digit to the base 16 is -/
def hexI (c : Nat) : Option Nat := if 48 ≤ c ∧ c ≤ 57 then some (c - 48) else if 97 ≤ c ∧ c ≤ 102 then some (c - 87) else none
def q1 (c : Nat) : List Nat := if itselfN c then [c] else [37, hexN (c / 16), hexN (c % 16)]
def qB (b : List Nat) : List Nat := b.flatMap q1
def quoteN (b : List Nat) : List Nat := 34 :: (qB b ++ [34])
/-- what the program reads between the quotes -/
def unP : List Nat → Option (List Nat)
  | [] => some []
  | c :: r => if itselfN c then (unP r).map (c :: ·) else if c ≠ 37 then none else
    match r with
    | h :: l :: r' => match hexI h, hexI l with
      | some a, some b => if itselfN (16 * a + b) then none else (unP r').map ((16 * a + b) :: ·)
      | _, _ => none
    | _ => none
/-- what the document reads there -/
def decR : List Nat → List Nat
  | [] => []
  | c :: r => if c = 37 then
      match r with
      | h :: l :: r' => (16 * (hexI h).getD 0 + (hexI l).getD 0) % 256 :: decR r'
      | [x] => [c, x]
      | [] => [c]
    else c :: decR r
theorem unP_cons (c : Nat) (r : List Nat) : unP (c :: r) = if itselfN c then (unP r).map (c :: ·) else if c ≠ 37 then none else
    match r with
    | h :: l :: r' => match hexI h, hexI l with
      | some a, some b => if itselfN (16 * a + b) then none else (unP r').map ((16 * a + b) :: ·)
      | _, _ => none
    | _ => none := by rw [unP.eq_def]
theorem decR_cons (c : Nat) (r : List Nat) : decR (c :: r) = if c = 37 then
      match r with
      | h :: l :: r' => (16 * (hexI h).getD 0 + (hexI l).getD 0) % 256 :: decR r'
      | [x] => [c, x]
      | [] => [c]
    else c :: decR r := by rw [decR.eq_def]
theorem hexI_lt {c a : Nat} (h : hexI c = some a) : a < 16 := by
  unfold hexI at h
  split at h
  · cases h; omega
  · split at h
    · cases h; omega
    · cases h
theorem hexI_N {c a : Nat} (h : hexI c = some a) : hexN a = c := by
  unfold hexI at h
  unfold hexN
  split at h
  · cases h; rw [if_pos (by omega)]; omega
  · split at h
    · cases h; rw [if_neg (by omega)]; omega
    · cases h
theorem hexN_I {d : Nat} (h : d < 16) : hexI (hexN d) = some d := by
  unfold hexN hexI
  split
  · rw [if_pos (by omega)]; congr 1; omega
  · rw [if_neg (by omega), if_pos (by omega)]; congr 1; omega
theorem not37 : itselfN 37 = false := by decide
theorem unP_qB : ∀ (o : List Nat), Bys o → unP (qB o) = some o
  | [], _ => rfl
  | c :: o, hb => by
    have ih := unP_qB o fun x hx => hb x (List.mem_cons_of_mem _ hx)
    have hc := hb c (List.mem_cons_self ..)
    show unP (q1 c ++ qB o) = _
    unfold q1
    cases hi : itselfN c with
    | true =>
      rw [if_pos rfl]
      show unP (c :: qB o) = _
      rw [unP_cons, if_pos hi, ih]; rfl
    | false =>
      rw [if_neg (by decide)]
      show unP (37 :: hexN (c / 16) :: hexN (c % 16) :: qB o) = _
      rw [unP_cons, if_neg (by rw [not37]; decide), if_neg (by simp)]
      dsimp only
      rw [hexN_I (by omega), hexN_I (by omega)]
      dsimp only
      rw [show 16 * (c / 16) + c % 16 = c by omega, hi, if_neg (by decide), ih]; rfl
theorem unP_spec : ∀ (n : Nat) (x o : List Nat), x.length ≤ n → unP x = some o → Bys x → qB o = x ∧ decR x = o ∧ Bys o
  | _, [], o, _, h, _ => by
    rw [unP] at h; cases h
    exact ⟨rfl, rfl, fun x hx => nomatch hx⟩
  | 0, c :: r, _, hl, _, _ => by rw [List.length_cons] at hl; omega
  | n + 1, c :: r, o, hl, h, hb => by
    rw [List.length_cons] at hl
    have hbr : Bys r := fun x hx => hb x (List.mem_cons_of_mem _ hx)
    rw [unP_cons] at h
    split at h
    · rename_i hi
      cases hu : unP r with
      | none => rw [hu] at h; cases h
      | some o' =>
        rw [hu] at h; cases h
        obtain ⟨h1, h2, h3⟩ := unP_spec n r o' (by omega) hu hbr
        have hc37 : c ≠ 37 := fun e => by rw [e, not37] at hi; cases hi
        refine ⟨?_, ?_, fun x hx => ?_⟩
        · show q1 c ++ qB o' = _
          unfold q1; rw [if_pos hi, h1]; rfl
        · rw [decR_cons, if_neg hc37, h2]
        · rcases List.mem_cons.1 hx with rfl | hx
          · exact hb _ (List.mem_cons_self ..)
          · exact h3 x hx
    · split at h
      · cases h
      · rename_i hi hc
        have hc : c = 37 := Classical.byContradiction hc
        subst hc
        match r, hl, hbr, h with
        | [], _, _, h => cases h
        | [_], _, _, h => cases h
        | p :: l :: r', hl, hbr, h =>
          dsimp only at h
          cases hp : hexI p with
          | none => rw [hp] at h; cases h
          | some a =>
            cases hq : hexI l with
            | none => rw [hp, hq] at h; cases h
            | some b =>
              rw [hp, hq] at h
              dsimp only at h
              split at h
              · cases h
              · rename_i hv
                have ha := hexI_lt hp
                have hbl := hexI_lt hq
                cases hu : unP r' with
                | none => rw [hu] at h; cases h
                | some o' =>
                  rw [hu] at h; cases h
                  rw [List.length_cons, List.length_cons] at hl
                  obtain ⟨h1, h2, h3⟩ := unP_spec n r' o' (by omega) hu fun x hx => hbr x (List.mem_cons_of_mem _ (List.mem_cons_of_mem _ hx))
                  refine ⟨?_, ?_, fun x hx => ?_⟩
                  · show q1 (16 * a + b) ++ qB o' = _
                    unfold q1
                    rw [if_neg hv, show (16 * a + b) / 16 = a by omega, show (16 * a + b) % 16 = b by omega, hexI_N hp, hexI_N hq, h1]; rfl
                  · rw [decR_cons, if_pos rfl]
                    dsimp only
                    rw [hp, hq, h2]
                    show (16 * a + b) % 256 :: o' = _
                    rw [Nat.mod_eq_of_lt (by omega)]
                  · rcases List.mem_cons.1 hx with rfl | hx
                    · omega
                    · exact h3 x hx
/-- both readings of a text -/
def unquoteP (s : List Nat) : Option (List Nat) := if s.length < 2 ∨ s.head? ≠ some 34 ∨ s.getLast? ≠ some 34 then none else unP ((s.drop 1).dropLast)
end Go.Proofs.YtmlddafbenfilaaDoor
/- The plain law of numbers: what is read of a number's text is the number. -/
namespace Go.Proofs.YtmlddafbenfilaaDoor
open Go.Cam
set_option maxRecDepth 100000
theorem u8_of {n : Nat} (h : n < 256) : (UInt8.ofNat n).toNat = n := by rw [UInt8.toNat_ofNat']; exact Nat.mod_eq_of_lt h
theorem dec_digit : ∀ (k u : Nat), u ≤ k → ∀ c ∈ Go.Lib.decDigits u, 48 ≤ c.toNat ∧ c.toNat ≤ 57
  | k, u, hk, c, hc => by
    by_cases h : u < 10
    · rw [Go.Lib.decDigits, dif_pos h, List.mem_singleton] at hc
      subst hc
      rw [u8_of (by omega)]; omega
    · rw [Go.Lib.decDigits, dif_neg h] at hc
      match k, hk with
      | k + 1, hk =>
        rcases List.mem_append.1 hc with hc | hc
        · exact dec_digit k (u / 10) (by omega) c hc
        · rw [List.mem_singleton] at hc
          subst hc
          rw [u8_of (by omega)]; omega
      | 0, hk => omega
theorem dec_ne (u : Nat) : Go.Lib.decDigits u ≠ [] := by
  rw [Go.Lib.decDigits]
  split
  · simp
  · simp
theorem parse_snoc : ∀ (l : List UInt8) (acc v : Nat) (c : UInt8), Go.Lib.parseUint10 acc l = .ok v → 48 ≤ c.toNat ∧ c.toNat ≤ 57 → v < 1844674407370955162 → v * 10 + (c.toNat - 48) < 18446744073709551616 → Go.Lib.parseUint10 acc (l ++ [c]) = .ok (v * 10 + (c.toNat - 48))
  | [], acc, v, c, h, hc, h1, h2 => by
    unfold Go.Lib.parseUint10 at h
    cases h
    show Go.Lib.parseUint10 acc [c] = _
    unfold Go.Lib.parseUint10
    rw [if_pos hc, if_neg (by omega), if_neg (by omega)]
    unfold Go.Lib.parseUint10
    rfl
  | d :: l, acc, v, c, h, hc, h1, h2 => by
    show Go.Lib.parseUint10 acc (d :: (l ++ [c])) = _
    unfold Go.Lib.parseUint10 at h ⊢
    split at h
    · rename_i hd
      rw [if_pos hd]
      split at h
      · cases h
      · rename_i h3
        rw [if_neg h3]
        split at h
        · cases h
        · rename_i h4
          rw [if_neg h4]
          exact parse_snoc l _ v c h hc h1 h2
    · cases h
theorem parse_dec : ∀ (k u : Nat), u ≤ k → u ≤ 9223372036854775808 → Go.Lib.parseUint10 0 (Go.Lib.decDigits u) = .ok u
  | k, u, hk, hu => by
    by_cases h : u < 10
    · rw [Go.Lib.decDigits, dif_pos h]
      unfold Go.Lib.parseUint10
      have e : (UInt8.ofNat (48 + u)).toNat = 48 + u := by rw [u8_of (by omega)]
      rw [e, if_pos (by omega), if_neg (by decide), if_neg (by omega)]
      unfold Go.Lib.parseUint10
      congr 1; omega
    · rw [Go.Lib.decDigits, dif_neg h]
      match k, hk with
      | k + 1, hk =>
        have ih := parse_dec k (u / 10) (by omega) (by omega)
        have e : (UInt8.ofNat (48 + u % 10)).toNat = 48 + u % 10 := by rw [u8_of (by omega)]
        rw [parse_snoc _ _ _ _ ih (by rw [e]; omega) (by omega) (by rw [e]; omega), e]
        congr 1; omega
      | 0, hk => omega
/-- the program's way -/
theorem atoi_itoa (n : Int) (h : -9223372036854775808 ≤ n ∧ n ≤ 9223372036854775807) : Go.Lib.atoiAll (Go.Lib.itoa n) = .ok n := by
  unfold Go.Lib.itoa
  split
  · rename_i hn
    unfold Go.Lib.atoiAll
    dsimp only
    rw [if_pos (.inr (by decide))]
    have e : Go.Lib.parseMag (Go.Lib.decDigits n.natAbs) = .ok n.natAbs := by
      unfold Go.Lib.parseMag
      rw [if_neg (dec_ne _), parse_dec n.natAbs n.natAbs (Nat.le_refl _) (by omega)]
    rw [e]
    dsimp only
    rw [if_neg (by intro q; exact q.1 (by decide)), if_neg (by omega), if_pos (by decide)]
    congr 1; omega
  · rename_i hn
    have hp := parse_dec n.toNat n.toNat (Nat.le_refl _) (by omega)
    have hd := dec_digit n.toNat n.toNat (Nat.le_refl _)
    have hne := dec_ne n.toNat
    generalize hl : Go.Lib.decDigits n.toNat = l at *
    match l, hne with
    | c :: r, _ =>
      have hc := hd c (List.mem_cons_self ..)
      unfold Go.Lib.atoiAll
      dsimp only
      rw [if_neg (by omega)]
      have e : Go.Lib.parseMag (c :: r) = .ok n.toNat := by
        unfold Go.Lib.parseMag
        rw [if_neg (by simp), hp]
      rw [e]
      dsimp only
      rw [if_neg (by omega), if_neg (by omega), if_neg (by omega)]
      congr 1; omega
end Go.Proofs.YtmlddafbenfilaaDoor
/- The plain law of a line: words, and what is left out at its end. -/
namespace Go.Proofs.YtmlddafbenfilaaDoor
open Go.Cam
set_option maxRecDepth 100000
/-- cut at each blank -/
def splitB : List Nat → List (List Nat)
  | [] => [[]]
  | c :: r => if c = 32 then [] :: splitB r else
    match splitB r with
    | w :: ws => (c :: w) :: ws
    | [] => [[c]]
def joinB : List (List Nat) → List Nat
  | [] => []
  | w :: ws => match ws with
    | [] => w
    | _ => w ++ 32 :: joinB ws
theorem splitB_word : ∀ (w : List Nat), 32 ∉ w → splitB w = [w]
  | [], _ => rfl
  | c :: w, h => by
    have hc : c ≠ 32 := fun e => h (by rw [e]; exact List.mem_cons_self ..)
    rw [splitB, if_neg hc, splitB_word w fun q => h (List.mem_cons_of_mem _ q)]
theorem splitB_app : ∀ (w r : List Nat), 32 ∉ w → splitB (w ++ 32 :: r) = w :: splitB r
  | [], r, _ => by rw [List.nil_append, splitB, if_pos rfl]
  | c :: w, r, h => by
    have hc : c ≠ 32 := fun e => h (by rw [e]; exact List.mem_cons_self ..)
    rw [List.cons_append, splitB, if_neg hc, splitB_app w r fun q => h (List.mem_cons_of_mem _ q)]
theorem split_join : ∀ (ws : List (List Nat)), ws ≠ [] → (∀ w ∈ ws, 32 ∉ w) → splitB (joinB ws) = ws
  | [], h, _ => absurd rfl h
  | [w], _, h => by
    show splitB w = [w]
    exact splitB_word w (h w (List.mem_cons_self ..))
  | w :: v :: ws, _, h => by
    show splitB (w ++ 32 :: joinB (v :: ws)) = _
    rw [splitB_app w _ (h w (List.mem_cons_self ..)), split_join (v :: ws) (by simp) fun x hx => h x (List.mem_cons_of_mem _ hx)]
/-- how many words are written: those at the end that are as nothing says are left out -/
def cntW (w d : List (List Nat)) : Nat → Nat
  | 0 => 0
  | 1 => 1
  | n + 2 => if w.getD (n + 1) [] = d.getD (n + 1) [] then cntW w d (n + 1) else n + 2
theorem cntW_le (w d : List (List Nat)) : ∀ n, cntW w d n ≤ n
  | 0 => Nat.le_refl _
  | 1 => Nat.le_refl _
  | n + 2 => by
    rw [cntW]; split
    · exact Nat.le_succ_of_le (cntW_le w d (n + 1))
    · exact Nat.le_refl _
theorem cntW_pos (w d : List (List Nat)) : ∀ n, 1 ≤ n → 1 ≤ cntW w d n
  | 1, _ => Nat.le_refl _
  | n + 2, _ => by
    rw [cntW]; split
    · exact cntW_pos w d (n + 1) (by omega)
    · omega
theorem cntW_same (w d : List (List Nat)) : ∀ n i, cntW w d n ≤ i → i < n → w.getD i [] = d.getD i []
  | 0, i, _, h => by omega
  | 1, i, h1, h2 => by rw [cntW] at h1; omega
  | n + 2, i, h1, h2 => by
    rw [cntW] at h1
    split at h1
    · rename_i e
      by_cases hi : i = n + 1
      · subst hi; exact e
      · exact cntW_same w d (n + 1) i h1 (by omega)
    · omega
theorem fillW {w d : List (List Nat)} (h : w.length = d.length) : w.take (cntW w d w.length) ++ d.drop (cntW w d w.length) = w := by
  have hle := cntW_le w d w.length
  refine List.ext_getElem (by rw [List.length_append, List.length_take, List.length_drop]; omega) fun i h1 h2 => ?_
  rw [List.getElem_append]
  split
  · rw [List.getElem_take]
  · rename_i hi
    rw [List.length_take, Nat.min_eq_left hle] at hi
    have hs := cntW_same w d w.length i (by omega) h2
    rw [List.getElem_drop]
    simp only [List.length_take, Nat.min_eq_left hle]
    have e1 : w.getD i [] = w[i] := by simp [List.getD_eq_getElem?_getD, h2]
    have e2 : d.getD i [] = d[i] := by simp [List.getD_eq_getElem?_getD, show i < d.length by omega]
    rw [e1, e2] at hs
    rw [hs]
    congr 1
    omega
end Go.Proofs.YtmlddafbenfilaaDoor
/- The plain law of events: a line that was written is read as the event, by both. -/
namespace Go.Proofs.YtmlddafbenfilaaDoor
open Go.Cam
set_option maxRecDepth 100000
structure Ev where
  kind : Int
  pid : Int
  fd : Int
  n : Int
  m : Int
  path : List Nat
  name : List Nat
  data : List Nat
abbrev I64 (n : Int) : Prop := -9223372036854775808 ≤ n ∧ n ≤ 9223372036854775807
structure Ev.ok (e : Ev) : Prop where
  k1 : I64 e.kind
  k2 : I64 e.pid
  k3 : I64 e.fd
  k4 : I64 e.n
  k5 : I64 e.m
  k6 : Bys e.path
  k7 : Bys e.name
  k8 : Bys e.data
def itoaN (n : Int) : List Nat := (Go.Lib.itoa n).map UInt8.toNat
def wordsN (e : Ev) : List (List Nat) := [itoaN e.kind, itoaN e.pid, itoaN e.fd, itoaN e.n, itoaN e.m, quoteN e.path, quoteN e.name, quoteN e.data]
def dW : List (List Nat) := [[48], [48], [48], [48], [48], [34, 34], [34, 34], [34, 34]]
def lineN (e : Ev) : List Nat := joinB ((wordsN e).take (cntW (wordsN e) dW 8))
theorem dW_is : wordsN ⟨0, 0, 0, 0, 0, [], [], []⟩ = dW := by
  have : itoaN 0 = [48] := by
    unfold itoaN Go.Lib.itoa
    rw [if_neg (by decide)]
    show (Go.Lib.decDigits 0).map UInt8.toNat = _
    rw [Go.Lib.decDigits, dif_pos (by decide)]; rfl
  unfold wordsN
  rw [this]; rfl
theorem itoa_no32 (n : Int) : 32 ∉ itoaN n := by
  unfold itoaN Go.Lib.itoa
  intro h
  obtain ⟨c, hc, he⟩ := List.mem_map.1 h
  split at hc
  · rcases List.mem_cons.1 hc with rfl | hc
    · exact absurd he (by decide)
    · have := dec_digit _ _ (Nat.le_refl _) c hc; omega
  · have := dec_digit _ _ (Nat.le_refl _) c hc; omega
theorem hexN_ge (d : Nat) : 48 ≤ hexN d := by unfold hexN; split <;> omega
theorem q1_no32 (c : Nat) : 32 ∉ q1 c := by
  unfold q1
  split
  · rename_i h
    intro q
    rw [List.mem_singleton] at q
    subst q
    exact absurd h (by decide)
  · intro q
    have h1 := hexN_ge (c / 16)
    have h2 := hexN_ge (c % 16)
    simp only [List.mem_cons, List.not_mem_nil, or_false] at q
    omega
theorem quote_no32 (b : List Nat) : 32 ∉ quoteN b := by
  unfold quoteN
  intro h
  rcases List.mem_cons.1 h with h | h
  · omega
  · rcases List.mem_append.1 h with h | h
    · obtain ⟨c, _, hc⟩ := List.mem_flatMap.1 h
      exact q1_no32 c hc
    · rw [List.mem_singleton] at h; omega
theorem words_no32 (e : Ev) : ∀ w ∈ wordsN e, 32 ∉ w := fun w hw => by
  unfold wordsN at hw
  simp only [List.mem_cons, List.not_mem_nil, or_false] at hw
  rcases hw with rfl | rfl | rfl | rfl | rfl | rfl | rfl | rfl
  · exact itoa_no32 _
  · exact itoa_no32 _
  · exact itoa_no32 _
  · exact itoa_no32 _
  · exact itoa_no32 _
  · exact quote_no32 _
  · exact quote_no32 _
  · exact quote_no32 _
theorem split_line (e : Ev) : splitB (lineN e) = (wordsN e).take (cntW (wordsN e) dW 8) := by
  have h1 := cntW_pos (wordsN e) dW 8 (by decide)
  refine split_join _ (fun h => ?_) fun w hw => words_no32 e w (List.mem_of_mem_take hw)
  have h2 := congrArg List.length h
  rw [List.length_take, show (wordsN e).length = 8 from rfl, List.length_nil] at h2
  omega
def atoiN (w : List Nat) : Option Int := match Go.Lib.atoiAll (w.map UInt8.ofNat) with
  | .ok v => some v
  | _ => none
theorem atoiN_itoa {n : Int} (h : I64 n) : atoiN (itoaN n) = some n := by
  unfold atoiN itoaN
  rw [List.map_map, show (UInt8.ofNat ∘ UInt8.toNat) = id by funext x; simp, List.map_id, atoi_itoa n h]
theorem unquote_quote {b : List Nat} (h : Bys b) : unquoteP (quoteN b) = some b := by
  unfold unquoteP quoteN
  rw [if_neg (by
    rintro (q | q | q)
    · rw [List.length_cons, List.length_append, List.length_singleton] at q; omega
    · exact q rfl
    · exact q (by simp [List.getLast?_cons, List.getLast?_append]))]
  rw [show ((34 :: (qB b ++ [34])).drop 1).dropLast = qB b by simp]
  exact unP_qB b h
/-- words of a line, with what was left out -/
def fillN (s : List Nat) : List (List Nat) := splitB s ++ dW.drop (splitB s).length
theorem fill_line (e : Ev) : fillN (lineN e) = wordsN e := by
  unfold fillN
  rw [split_line, List.length_take, show (wordsN e).length = 8 from rfl, Nat.min_eq_left (cntW_le _ _ 8)]
  exact fillW (w := wordsN e) (d := dW) rfl
def evW (w : List (List Nat)) : Option Ev :=
  match atoiN (w.getD 0 []), atoiN (w.getD 1 []), atoiN (w.getD 2 []), atoiN (w.getD 3 []), atoiN (w.getD 4 []), unquoteP (w.getD 5 []), unquoteP (w.getD 6 []), unquoteP (w.getD 7 []) with
  | some a, some b, some c, some d, some e, some f, some g, some h => some ⟨a, b, c, d, e, f, g, h⟩
  | _, _, _, _, _, _, _, _ => none
def evP (s : List Nat) : Option Ev := if 8 < (splitB s).length then none else evW (fillN s)
theorem evP_line (e : Ev) (h : e.ok) : evP (lineN e) = some e := by
  unfold evP
  rw [if_neg (by rw [split_line, List.length_take]; have := cntW_le (wordsN e) dW 8; omega), fill_line]
  unfold evW wordsN
  simp only [List.getD_cons_zero, List.getD_cons_succ]
  rw [atoiN_itoa h.k1, atoiN_itoa h.k2, atoiN_itoa h.k3, atoiN_itoa h.k4, atoiN_itoa h.k5, unquote_quote h.k6, unquote_quote h.k7, unquote_quote h.k8]
end Go.Proofs.YtmlddafbenfilaaDoor
/- The plain law of events: the document's reader, and that both read alike. -/
namespace Go.Proofs.YtmlddafbenfilaaDoor
open Go.Cam
set_option maxRecDepth 100000
theorem nDig_le : ∀ (k u : Nat), u < 10 ^ k → 1 ≤ k → Go.Lib.nDigits u ≤ k
  | 0, _, _, h => by omega
  | k + 1, u, h, _ => by
    by_cases hu : u < 10
    · rw [Go.Lib.nDigits_small hu]; omega
    · rw [Go.Lib.nDigits_big hu]
      rw [Nat.pow_succ] at h
      by_cases hk : k = 0
      · subst hk; omega
      · have := nDig_le k (u / 10) (by omega) (by omega)
        omega
theorem dec_len {u : Nat} (h : u ≤ 9223372036854775808) : (Go.Lib.decDigits u).length ≤ 19 := by
  rw [Go.Lib.decDigits_length]; exact nDig_le 19 u (by omega) (by decide)
end Go.Proofs.YtmlddafbenfilaaDoor
/- The plain law of events: both readers agree on every line. -/
namespace Go.Proofs.YtmlddafbenfilaaDoor
open Go.Cam
set_option maxRecDepth 100000
theorem splitB_bys : ∀ (s : List Nat), Bys s → ∀ w ∈ splitB s, Bys w
  | [], _, w, hw => by
    rw [splitB, List.mem_singleton] at hw; subst hw
    exact fun x hx => nomatch hx
  | c :: r, h, w, hw => by
    have ih := splitB_bys r fun x hx => h x (List.mem_cons_of_mem _ hx)
    have hc := h c (List.mem_cons_self ..)
    rw [splitB] at hw
    split at hw
    · rcases List.mem_cons.1 hw with rfl | hw
      · exact fun x hx => nomatch hx
      · exact ih w hw
    · cases hs : splitB r with
      | nil =>
        rw [hs] at hw
        rw [List.mem_singleton] at hw; subst hw
        intro x hx
        rw [List.mem_singleton] at hx; rw [hx]; exact hc
      | cons v ws =>
        rw [hs] at hw ih
        rcases List.mem_cons.1 hw with rfl | hw
        · intro x hx
          rcases List.mem_cons.1 hx with rfl | hx
          · exact hc
          · exact ih v (List.mem_cons_self ..) x hx
        · exact ih w (List.mem_cons_of_mem _ hw)
theorem bys_nil : Bys ([] : List Nat) := fun _ hx => nomatch hx
theorem fill_bys {s : List Nat} (h : Bys s) (i : Nat) : Bys ((fillN s).getD i []) := by
  have hall : ∀ w ∈ fillN s, Bys w := fun w hw => by
    unfold fillN at hw
    rcases List.mem_append.1 hw with hw | hw
    · exact splitB_bys s h w hw
    · have hw := List.mem_of_mem_drop hw
      have hd : ∀ w ∈ dW, Bys w := by unfold dW Bys; decide
      exact hd w hw
  rw [List.getD_eq_getElem?_getD]
  cases hq : (fillN s)[i]? with
  | none => exact bys_nil
  | some w => exact hall w (List.mem_of_getElem? hq)
theorem atoiN_in {w : List Nat} {n : Int} (h : atoiN w = some n) : I64 n := by
  unfold atoiN at h
  generalize w.map UInt8.ofNat = l at h
  unfold Go.Lib.atoiAll at h
  cases l with
  | nil => cases h
  | cons c r =>
    dsimp only at h
    generalize Go.Lib.parseMag (if c.toNat = 43 ∨ c.toNat = 45 then r else c :: r) = q at h
    rcases q with u | _ | _
    · dsimp only at h
      by_cases h1 : ¬ c.toNat = 45 ∧ 9223372036854775808 ≤ u
      · rw [if_pos h1] at h; cases h
      · rw [if_neg h1] at h
        by_cases h2 : c.toNat = 45 ∧ 9223372036854775808 < u
        · rw [if_pos h2] at h; cases h
        · rw [if_neg h2] at h
          dsimp only at h
          by_cases h3 : c.toNat = 45
          · rw [if_pos h3] at h; cases h; exact ⟨by omega, by omega⟩
          · rw [if_neg h3] at h; cases h; exact ⟨by omega, by omega⟩
    · cases h
    · cases h
theorem unquoteP_bys {s b : List Nat} (hs : Bys s) (h : unquoteP s = some b) : Bys b := by
  unfold unquoteP at h
  split at h
  · cases h
  · refine (unP_spec _ _ b (Nat.le_refl _) h fun x hx => hs x ?_).2.2
    exact List.mem_of_mem_drop (List.dropLast_subset _ hx)
theorem evP_ok {s : List Nat} (hs : Bys s) {e : Ev} (h : evP s = some e) : e.ok := by
  unfold evP at h
  split at h
  · cases h
  · unfold evW at h
    cases h0 : atoiN ((fillN s).getD 0 []) with
    | none => rw [h0] at h; cases h
    | some a =>
    cases h1 : atoiN ((fillN s).getD 1 []) with
    | none => rw [h0, h1] at h; cases h
    | some b =>
    cases h2 : atoiN ((fillN s).getD 2 []) with
    | none => rw [h0, h1, h2] at h; cases h
    | some c =>
    cases h3 : atoiN ((fillN s).getD 3 []) with
    | none => rw [h0, h1, h2, h3] at h; cases h
    | some d =>
    cases h4 : atoiN ((fillN s).getD 4 []) with
    | none => rw [h0, h1, h2, h3, h4] at h; cases h
    | some f =>
    cases h5 : unquoteP ((fillN s).getD 5 []) with
    | none => rw [h0, h1, h2, h3, h4, h5] at h; cases h
    | some p =>
    cases h6 : unquoteP ((fillN s).getD 6 []) with
    | none => rw [h0, h1, h2, h3, h4, h5, h6] at h; cases h
    | some q =>
    cases h7 : unquoteP ((fillN s).getD 7 []) with
    | none => rw [h0, h1, h2, h3, h4, h5, h6, h7] at h; cases h
    | some r =>
      rw [h0, h1, h2, h3, h4, h5, h6, h7] at h
      cases h
      exact ⟨atoiN_in h0, atoiN_in h1, atoiN_in h2, atoiN_in h3, atoiN_in h4, unquoteP_bys (fill_bys hs 5) h5, unquoteP_bys (fill_bys hs 6) h6, unquoteP_bys (fill_bys hs 7) h7⟩
end Go.Proofs.YtmlddafbenfilaaDoor
/- The plain law of scripts: what was written is read, and what was read is written. -/
namespace Go.Proofs.YtmlddafbenfilaaDoor
open Go.Cam
set_option maxRecDepth 100000
/-- a text cut at its first newline -/
def cut10 : List Nat → List Nat × Option (List Nat)
  | [] => ([], none)
  | c :: r => if c = 10 then ([], some r) else (c :: (cut10 r).1, (cut10 r).2)
theorem cut10_line : ∀ (w r : List Nat), 10 ∉ w → cut10 (w ++ 10 :: r) = (w, some r)
  | [], r, _ => by rw [List.nil_append, cut10, if_pos rfl]
  | c :: w, r, h => by
    have hc : c ≠ 10 := fun e => h (by rw [e]; exact List.mem_cons_self ..)
    rw [List.cons_append, cut10, if_neg hc, cut10_line w r fun q => h (List.mem_cons_of_mem _ q)]
/-- an event's line, if it is one -/
def evF (w : List Nat) : Option Ev := (evP w).filter fun e => decide (lineN e = w)
theorem evF_line {e : Ev} (h : e.ok) : evF (lineN e) = some e := by
  unfold evF
  rw [evP_line e h]
  show (if decide (lineN e = lineN e) = true then some e else none) = _
  rw [if_pos (decide_eq_true rfl)]
def printN (l : List Ev) : List Nat := l.flatMap fun e => lineN e ++ [10]
def parseN (ev : List Nat → Option Ev) : Nat → List Nat → List Ev → Except Nat (List Ev)
  | _, [], acc => .ok acc
  | 0, _ :: _, acc => .error (acc.length + 1)
  | f + 1, c :: s, acc => match (cut10 (c :: s)).2 with
    | none => .error (acc.length + 1)
    | some r => match ev (cut10 (c :: s)).1 with
      | none => .error (acc.length + 1)
      | some e => parseN ev f r (acc ++ [e])
theorem itoa_no10 (n : Int) : 10 ∉ itoaN n := by
  unfold itoaN Go.Lib.itoa
  intro h
  obtain ⟨c, hc, he⟩ := List.mem_map.1 h
  split at hc
  · rcases List.mem_cons.1 hc with rfl | hc
    · exact absurd he (by decide)
    · have := dec_digit _ _ (Nat.le_refl _) c hc; omega
  · have := dec_digit _ _ (Nat.le_refl _) c hc; omega
theorem quote_no10 (b : List Nat) : 10 ∉ quoteN b := by
  unfold quoteN
  intro h
  rcases List.mem_cons.1 h with h | h
  · omega
  · rcases List.mem_append.1 h with h | h
    · obtain ⟨c, _, hc⟩ := List.mem_flatMap.1 h
      unfold q1 at hc
      split at hc
      · rename_i hi
        rw [List.mem_singleton] at hc
        subst hc
        exact absurd hi (by decide)
      · have h1 := hexN_ge (c / 16)
        have h2 := hexN_ge (c % 16)
        simp only [List.mem_cons, List.not_mem_nil, or_false] at hc
        omega
    · rw [List.mem_singleton] at h; omega
theorem joinB_no10 : ∀ (ws : List (List Nat)), (∀ w ∈ ws, 10 ∉ w) → 10 ∉ joinB ws
  | [], _ => fun h => nomatch h
  | [w], h => h w (List.mem_cons_self ..)
  | w :: v :: ws, h => by
    show 10 ∉ w ++ 32 :: joinB (v :: ws)
    intro q
    rcases List.mem_append.1 q with q | q
    · exact h w (List.mem_cons_self ..) q
    · rcases List.mem_cons.1 q with q | q
      · omega
      · exact joinB_no10 (v :: ws) (fun x hx => h x (List.mem_cons_of_mem _ hx)) q
theorem line_no10 (e : Ev) : 10 ∉ lineN e := by
  refine joinB_no10 _ fun w hw => ?_
  have hw := List.mem_of_mem_take hw
  unfold wordsN at hw
  simp only [List.mem_cons, List.not_mem_nil, or_false] at hw
  rcases hw with rfl | rfl | rfl | rfl | rfl | rfl | rfl | rfl
  · exact itoa_no10 _
  · exact itoa_no10 _
  · exact itoa_no10 _
  · exact itoa_no10 _
  · exact itoa_no10 _
  · exact quote_no10 _
  · exact quote_no10 _
  · exact quote_no10 _
/-- what was written is read as it was -/
theorem parse_print : ∀ (l : List Ev) (f : Nat) (acc : List Ev), (∀ e ∈ l, e.ok) → (printN l).length ≤ f → parseN evF f (printN l) acc = .ok (acc ++ l)
  | [], f, acc, _, _ => by
    show parseN evF f [] acc = _
    rw [parseN, List.append_nil]
  | e :: l, f, acc, h, hf => by
    have e1 : printN (e :: l) = lineN e ++ 10 :: printN l := by
      show (lineN e ++ [10]) ++ printN l = _
      rw [List.append_assoc]; rfl
    rw [e1] at hf ⊢
    rw [List.length_append, List.length_cons] at hf
    have hc := cut10_line (lineN e) (printN l) (line_no10 e)
    match f, hf with
    | f + 1, hf =>
      have ih := parse_print l f (acc ++ [e]) (fun x hx => h x (List.mem_cons_of_mem _ hx)) (by omega)
      cases hs : lineN e ++ 10 :: printN l with
      | nil => exact absurd hs (by simp)
      | cons c s =>
        rw [hs] at hc
        rw [parseN, hc]
        dsimp only
        rw [evF_line (h e (List.mem_cons_self ..))]
        dsimp only
        rw [ih, List.append_assoc]; rfl
    | 0, hf => omega
end Go.Proofs.YtmlddafbenfilaaDoor
