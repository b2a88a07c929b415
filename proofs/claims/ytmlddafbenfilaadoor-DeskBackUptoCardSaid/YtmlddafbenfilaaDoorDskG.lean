/- The plain law of a line: words, and what is left out at its end. -/
import Derived.Test.YtmlddafbenfilaaDoorDskB
import Derived.Test.YtmlddafbenfilaaDoorCamAD
namespace Go.Proofs.YtmlddafbenfilaaDoor
open Go.Cam
set_option maxRecDepth 100000
/-- cut at each blank -/
def splitB : List Nat → List (List Nat)
  | [] => [[]]
  | c :: r => if c = 32 then [] :: splitB r else
    match splitB r with
    | w :: ws => (c :: w) :: ws
    | [] => [[c]]
def joinB : List (List Nat) → List Nat
  | [] => []
  | w :: ws => match ws with
    | [] => w
    | _ => w ++ 32 :: joinB ws
theorem splitB_word : ∀ (w : List Nat), 32 ∉ w → splitB w = [w]
  | [], _ => rfl
  | c :: w, h => by
    have hc : c ≠ 32 := fun e => h (by rw [e]; exact List.mem_cons_self ..)
    rw [splitB, if_neg hc, splitB_word w fun q => h (List.mem_cons_of_mem _ q)]
theorem splitB_app : ∀ (w r : List Nat), 32 ∉ w → splitB (w ++ 32 :: r) = w :: splitB r
  | [], r, _ => by rw [List.nil_append, splitB, if_pos rfl]
  | c :: w, r, h => by
    have hc : c ≠ 32 := fun e => h (by rw [e]; exact List.mem_cons_self ..)
    rw [List.cons_append, splitB, if_neg hc, splitB_app w r fun q => h (List.mem_cons_of_mem _ q)]
theorem split_join : ∀ (ws : List (List Nat)), ws ≠ [] → (∀ w ∈ ws, 32 ∉ w) → splitB (joinB ws) = ws
  | [], h, _ => absurd rfl h
  | [w], _, h => by
    show splitB w = [w]
    exact splitB_word w (h w (List.mem_cons_self ..))
  | w :: v :: ws, _, h => by
    show splitB (w ++ 32 :: joinB (v :: ws)) = _
    rw [splitB_app w _ (h w (List.mem_cons_self ..)), split_join (v :: ws) (by simp) fun x hx => h x (List.mem_cons_of_mem _ hx)]
/-- how many words are written: those at the end that are as nothing says are left out -/
def cntW (w d : List (List Nat)) : Nat → Nat
  | 0 => 0
  | 1 => 1
  | n + 2 => if w.getD (n + 1) [] = d.getD (n + 1) [] then cntW w d (n + 1) else n + 2
theorem cntW_le (w d : List (List Nat)) : ∀ n, cntW w d n ≤ n
  | 0 => Nat.le_refl _
  | 1 => Nat.le_refl _
  | n + 2 => by
    rw [cntW]; split
    · exact Nat.le_succ_of_le (cntW_le w d (n + 1))
    · exact Nat.le_refl _
theorem cntW_pos (w d : List (List Nat)) : ∀ n, 1 ≤ n → 1 ≤ cntW w d n
  | 1, _ => Nat.le_refl _
  | n + 2, _ => by
    rw [cntW]; split
    · exact cntW_pos w d (n + 1) (by omega)
    · omega
theorem cntW_same (w d : List (List Nat)) : ∀ n i, cntW w d n ≤ i → i < n → w.getD i [] = d.getD i []
  | 0, i, _, h => by omega
  | 1, i, h1, h2 => by rw [cntW] at h1; omega
  | n + 2, i, h1, h2 => by
    rw [cntW] at h1
    split at h1
    · rename_i e
      by_cases hi : i = n + 1
      · subst hi; exact e
      · exact cntW_same w d (n + 1) i h1 (by omega)
    · omega
theorem fillW {w d : List (List Nat)} (h : w.length = d.length) : w.take (cntW w d w.length) ++ d.drop (cntW w d w.length) = w := by
  have hle := cntW_le w d w.length
  refine List.ext_getElem (by rw [List.length_append, List.length_take, List.length_drop]; omega) fun i h1 h2 => ?_
  rw [List.getElem_append]
  split
  · rw [List.getElem_take]
  · rename_i hi
    rw [List.length_take, Nat.min_eq_left hle] at hi
    have hs := cntW_same w d w.length i (by omega) h2
    rw [List.getElem_drop]
    simp only [List.length_take, Nat.min_eq_left hle]
    have e1 : w.getD i [] = w[i] := by simp [List.getD_eq_getElem?_getD, h2]
    have e2 : d.getD i [] = d[i] := by simp [List.getD_eq_getElem?_getD, show i < d.length by omega]
    rw [e1, e2] at hs
    rw [hs]
    congr 1
    omega
/-- two readings of lines that are both right about lines that were written agree on all -/
theorem read_same {α : Type} {ok : α → Prop} {line : α → List Nat} {P : List Nat → Option α} {R : List Nat → α} (hP : ∀ e, ok e → P (line e) = some e) (hR : ∀ e, ok e → R (line e) = e) (s : List Nat) (hPo : ∀ e, P s = some e → ok e) (hRo : ok (R s)) :
    (P s).filter (fun e => decide (line e = s)) = if line (R s) = s then some (R s) else none := by
  by_cases h : line (R s) = s
  · rw [if_pos h]
    have h1 := hP (R s) hRo
    rw [h] at h1
    rw [h1]
    show (if decide (line (R s) = s) = true then some (R s) else none) = _
    rw [if_pos (decide_eq_true h)]
  · rw [if_neg h]
    cases hp : P s with
    | none => rfl
    | some e =>
      show (if decide (line e = s) = true then some e else none) = _
      rw [if_neg]
      intro q
      have q := of_decide_eq_true q
      have h2 := hR e (hPo e hp)
      rw [q] at h2
      rw [h2] at h
      exact h q
end Go.Proofs.YtmlddafbenfilaaDoor
/- The plain law of events: a line that was written is read as the event, by both. -/
namespace Go.Proofs.YtmlddafbenfilaaDoor
open Go.Cam
set_option maxRecDepth 100000
structure Ev where
  kind : Int
  pid : Int
  fd : Int
  n : Int
  m : Int
  path : List Nat
  name : List Nat
  data : List Nat
abbrev I64 (n : Int) : Prop := -9223372036854775808 ≤ n ∧ n ≤ 9223372036854775807
structure Ev.ok (e : Ev) : Prop where
  k1 : I64 e.kind
  k2 : I64 e.pid
  k3 : I64 e.fd
  k4 : I64 e.n
  k5 : I64 e.m
  k6 : Bys e.path
  k7 : Bys e.name
  k8 : Bys e.data
def itoaN (n : Int) : List Nat := (Go.Lib.itoa n).map UInt8.toNat
def wordsN (e : Ev) : List (List Nat) := [itoaN e.kind, itoaN e.pid, itoaN e.fd, itoaN e.n, itoaN e.m, quoteN e.path, quoteN e.name, quoteN e.data]
def dW : List (List Nat) := [[48], [48], [48], [48], [48], [34, 34], [34, 34], [34, 34]]
def lineN (e : Ev) : List Nat := joinB ((wordsN e).take (cntW (wordsN e) dW 8))
theorem dW_is : wordsN ⟨0, 0, 0, 0, 0, [], [], []⟩ = dW := by
  have : itoaN 0 = [48] := by
    unfold itoaN Go.Lib.itoa
    rw [if_neg (by decide)]
    show (Go.Lib.decDigits 0).map UInt8.toNat = _
    rw [Go.Lib.decDigits, dif_pos (by decide)]; rfl
  unfold wordsN
  rw [this]; rfl
theorem itoa_no32 (n : Int) : 32 ∉ itoaN n := by
  unfold itoaN Go.Lib.itoa
  intro h
  obtain ⟨c, hc, he⟩ := List.mem_map.1 h
  split at hc
  · rcases List.mem_cons.1 hc with rfl | hc
    · exact absurd he (by decide)
    · have := dec_digit _ _ (Nat.le_refl _) c hc; omega
  · have := dec_digit _ _ (Nat.le_refl _) c hc; omega
theorem hexN_ge (d : Nat) : 48 ≤ hexN d := by unfold hexN; split <;> omega
theorem q1_no32 (c : Nat) : 32 ∉ q1 c := by
  unfold q1
  split
  · rename_i h
    intro q
    rw [List.mem_singleton] at q
    subst q
    exact absurd h (by decide)
  · intro q
    have h1 := hexN_ge (c / 16)
    have h2 := hexN_ge (c % 16)
    simp only [List.mem_cons, List.not_mem_nil, or_false] at q
    omega
theorem quote_no32 (b : List Nat) : 32 ∉ quoteN b := by
  unfold quoteN
  intro h
  rcases List.mem_cons.1 h with h | h
  · omega
  · rcases List.mem_append.1 h with h | h
    · obtain ⟨c, _, hc⟩ := List.mem_flatMap.1 h
      exact q1_no32 c hc
    · rw [List.mem_singleton] at h; omega
theorem words_no32 (e : Ev) : ∀ w ∈ wordsN e, 32 ∉ w := fun w hw => by
  unfold wordsN at hw
  simp only [List.mem_cons, List.not_mem_nil, or_false] at hw
  rcases hw with rfl | rfl | rfl | rfl | rfl | rfl | rfl | rfl
  · exact itoa_no32 _
  · exact itoa_no32 _
  · exact itoa_no32 _
  · exact itoa_no32 _
  · exact itoa_no32 _
  · exact quote_no32 _
  · exact quote_no32 _
  · exact quote_no32 _
theorem split_line (e : Ev) : splitB (lineN e) = (wordsN e).take (cntW (wordsN e) dW 8) := by
  have h1 := cntW_pos (wordsN e) dW 8 (by decide)
  refine split_join _ (fun h => ?_) fun w hw => words_no32 e w (List.mem_of_mem_take hw)
  have h2 := congrArg List.length h
  rw [List.length_take, show (wordsN e).length = 8 from rfl, List.length_nil] at h2
  omega
def atoiN (w : List Nat) : Option Int := match Go.Lib.atoiAll (w.map UInt8.ofNat) with
  | .ok v => some v
  | _ => none
theorem atoiN_itoa {n : Int} (h : I64 n) : atoiN (itoaN n) = some n := by
  unfold atoiN itoaN
  rw [List.map_map, show (UInt8.ofNat ∘ UInt8.toNat) = id by funext x; simp, List.map_id, atoi_itoa n h]
theorem unquote_quote {b : List Nat} (h : Bys b) : unquoteP (quoteN b) = some b := by
  unfold unquoteP quoteN
  rw [if_neg (by
    rintro (q | q | q)
    · rw [List.length_cons, List.length_append, List.length_singleton] at q; omega
    · exact q rfl
    · exact q (by simp [List.getLast?_cons, List.getLast?_append]))]
  rw [show ((34 :: (qB b ++ [34])).drop 1).dropLast = qB b by simp]
  exact unP_qB b h
/-- words of a line, with what was left out -/
def fillN (s : List Nat) : List (List Nat) := splitB s ++ dW.drop (splitB s).length
theorem fill_line (e : Ev) : fillN (lineN e) = wordsN e := by
  unfold fillN
  rw [split_line, List.length_take, show (wordsN e).length = 8 from rfl, Nat.min_eq_left (cntW_le _ _ 8)]
  exact fillW (w := wordsN e) (d := dW) rfl
def evW (w : List (List Nat)) : Option Ev :=
  match atoiN (w.getD 0 []), atoiN (w.getD 1 []), atoiN (w.getD 2 []), atoiN (w.getD 3 []), atoiN (w.getD 4 []), unquoteP (w.getD 5 []), unquoteP (w.getD 6 []), unquoteP (w.getD 7 []) with
  | some a, some b, some c, some d, some e, some f, some g, some h => some ⟨a, b, c, d, e, f, g, h⟩
  | _, _, _, _, _, _, _, _ => none
def evP (s : List Nat) : Option Ev := if 8 < (splitB s).length then none else evW (fillN s)
theorem evP_line (e : Ev) (h : e.ok) : evP (lineN e) = some e := by
  unfold evP
  rw [if_neg (by rw [split_line, List.length_take]; have := cntW_le (wordsN e) dW 8; omega), fill_line]
  unfold evW wordsN
  simp only [List.getD_cons_zero, List.getD_cons_succ]
  rw [atoiN_itoa h.k1, atoiN_itoa h.k2, atoiN_itoa h.k3, atoiN_itoa h.k4, atoiN_itoa h.k5, unquote_quote h.k6, unquote_quote h.k7, unquote_quote h.k8]
end Go.Proofs.YtmlddafbenfilaaDoor
/- The plain law of events: the document's reader, and that both read alike. -/
namespace Go.Proofs.YtmlddafbenfilaaDoor
open Go.Cam
set_option maxRecDepth 100000
abbrev w64 (x : Int) : Int := IntKind.i64.wrap x
theorem w64_in (x : Int) : I64 (w64 x) := by
  show -9223372036854775808 ≤ IntKind.i64.wrap x ∧ IntKind.i64.wrap x ≤ 9223372036854775807
  simp only [IntKind.wrap, IntKind.signed, IntKind.bits]
  simp
  omega
def numW (n : Int) (c : Nat) : Int := if 48 ≤ c ∧ c ≤ 57 then w64 (w64 (10 * n) - ((c : Int) - 48)) else n
def numR (l : List Nat) : Int := if l.head? = some 45 then (l.take 21).foldl numW 0 else w64 (0 - (l.take 21).foldl numW 0)
theorem numW_dec : ∀ (k u : Nat), u ≤ k → u ≤ 9223372036854775808 → ((Go.Lib.decDigits u).map UInt8.toNat).foldl numW 0 = -(u : Int)
  | k, u, hk, hu => by
    by_cases h : u < 10
    · rw [Go.Lib.decDigits, dif_pos h]
      have e : (UInt8.ofNat (48 + u)).toNat = 48 + u := by rw [u8_of (by omega)]
      show numW 0 (UInt8.ofNat (48 + u)).toNat = _
      rw [e]
      unfold numW w64
      rw [if_pos (by omega), wrap_id (x := 10 * 0) (by omega) (by omega), wrap_id (by omega) (by omega)]; omega
    · rw [Go.Lib.decDigits, dif_neg h]
      match k, hk with
      | k + 1, hk =>
        have ih := numW_dec k (u / 10) (by omega) (by omega)
        have e : (UInt8.ofNat (48 + u % 10)).toNat = 48 + u % 10 := by rw [u8_of (by omega)]
        rw [List.map_append, List.foldl_append, ih]
        show numW _ (UInt8.ofNat (48 + u % 10)).toNat = _
        rw [e]
        unfold numW w64
        rw [if_pos (by omega), wrap_id (x := 10 * -((u / 10 : Nat) : Int)) (by omega) (by omega), wrap_id (by omega) (by omega)]; omega
      | 0, hk => omega
theorem nDig_le : ∀ (k u : Nat), u < 10 ^ k → 1 ≤ k → Go.Lib.nDigits u ≤ k
  | 0, _, _, h => by omega
  | k + 1, u, h, _ => by
    by_cases hu : u < 10
    · rw [Go.Lib.nDigits_small hu]; omega
    · rw [Go.Lib.nDigits_big hu]
      rw [Nat.pow_succ] at h
      by_cases hk : k = 0
      · subst hk; omega
      · have := nDig_le k (u / 10) (by omega) (by omega)
        omega
theorem dec_len {u : Nat} (h : u ≤ 9223372036854775808) : (Go.Lib.decDigits u).length ≤ 19 := by
  rw [Go.Lib.decDigits_length]; exact nDig_le 19 u (by omega) (by decide)
theorem numR_itoa {n : Int} (h : I64 n) : numR (itoaN n) = n := by
  unfold itoaN Go.Lib.itoa numR
  obtain ⟨h1, h2⟩ := h
  split
  · rename_i hn
    have hl := dec_len (u := n.natAbs) (by omega)
    rw [List.map_cons, List.head?_cons, if_pos (show some (UInt8.toNat 45) = some 45 from rfl), List.take_of_length_le (by rw [List.length_cons, List.length_map]; omega), List.foldl_cons]
    rw [show numW 0 (UInt8.toNat 45) = 0 by unfold numW; rw [if_neg (by decide)], numW_dec n.natAbs n.natAbs (Nat.le_refl _) (by omega)]
    omega
  · rename_i hn
    have hl := dec_len (u := n.toNat) (by omega)
    have hd := dec_digit n.toNat n.toNat (Nat.le_refl _)
    have hne := dec_ne n.toNat
    rw [List.take_of_length_le (by rw [List.length_map]; omega), numW_dec n.toNat n.toNat (Nat.le_refl _) (by omega), if_neg]
    · unfold w64; rw [wrap_id (by omega) (by omega)]; omega
    · cases hq : Go.Lib.decDigits n.toNat with
      | nil => exact absurd hq hne
      | cons c r =>
        rw [List.map_cons, List.head?_cons]
        intro e
        have e : c.toNat = 45 := Option.some.inj e
        have := hd c (by rw [hq]; exact List.mem_cons_self ..)
        omega
/-- the document's reader of a line -/
def fillR (s : List Nat) (i : Nat) : List Nat := (splitB s).getD i [48]
def evR (s : List Nat) : Ev := ⟨numR (fillR s 0), numR (fillR s 1), numR (fillR s 2), numR (fillR s 3), numR (fillR s 4), (unquoteR (fillR s 5)).getD [], (unquoteR (fillR s 6)).getD [], (unquoteR (fillR s 7)).getD []⟩
theorem fillR_line (e : Ev) (i : Nat) (hi : i < 8) : fillR (lineN e) i = (wordsN e).getD i [] ∨ (fillR (lineN e) i = [48] ∧ (wordsN e).getD i [] = dW.getD i []) := by
  unfold fillR
  rw [split_line]
  by_cases h : i < cntW (wordsN e) dW 8
  · refine .inl ?_
    have h8 : i < (wordsN e).length := hi
    simp [List.getD_eq_getElem?_getD, h, h8]
  · refine .inr ⟨?_, cntW_same _ _ 8 i (by omega) hi⟩
    simp [List.getD_eq_getElem?_getD, List.getElem?_take, h]
theorem unR_zero : (unquoteR [48]).getD [] = [] := by
  unfold unquoteR
  rw [if_pos (by decide)]; rfl
theorem num_word {e : Ev} {i : Nat} {n : Int} (hi : i < 8) (hw : (wordsN e).getD i [] = itoaN n) (h : I64 n) (hd : dW.getD i [] = [48]) : numR (fillR (lineN e) i) = n := by
  rcases fillR_line e i hi with q | ⟨q, r⟩
  · rw [q, hw, numR_itoa h]
  · rw [q]
    rw [hw, hd] at r
    rw [← r, numR_itoa h]
theorem unq_word {e : Ev} {i : Nat} {b : List Nat} (hi : i < 8) (hw : (wordsN e).getD i [] = quoteN b) (h : Bys b) (hd : dW.getD i [] = [34, 34]) : (unquoteR (fillR (lineN e) i)).getD [] = b := by
  have hq : Bys (quoteN b) → unquoteR (quoteN b) = some b := fun hb => by rw [← unquote_same _ hb, unquote_quote h]
  have hqb : Bys (quoteN b) := by
    unfold quoteN
    intro c hc
    rcases List.mem_cons.1 hc with rfl | hc
    · decide
    · rcases List.mem_append.1 hc with hc | hc
      · obtain ⟨d, hd, hc⟩ := List.mem_flatMap.1 hc
        have hdb := h d hd
        unfold q1 at hc
        split at hc
        · rw [List.mem_singleton] at hc; rw [hc]; exact hdb
        · simp only [List.mem_cons, List.not_mem_nil, or_false] at hc
          have e1 : hexN (d / 16) < 256 := by unfold hexN; split <;> omega
          have e2 : hexN (d % 16) < 256 := by unfold hexN; split <;> omega
          rcases hc with rfl | rfl | rfl
          · decide
          · exact e1
          · exact e2
      · rw [List.mem_singleton] at hc; rw [hc]; decide
  rcases fillR_line e i hi with q | ⟨q, r⟩
  · rw [q, hw, hq hqb]; rfl
  · rw [q, unR_zero]
    rw [hw, hd] at r
    have h2 := unquote_quote h
    rw [r] at h2
    have h3 : unquoteP [34, 34] = some [] := by
      unfold unquoteP
      rw [if_neg (by decide)]; rfl
    rw [h3] at h2
    exact (Option.some.inj h2)
theorem evR_line (e : Ev) (h : e.ok) : evR (lineN e) = e := by
  unfold evR
  rw [num_word (i := 0) (by decide) rfl h.k1 rfl, num_word (i := 1) (by decide) rfl h.k2 rfl, num_word (i := 2) (by decide) rfl h.k3 rfl, num_word (i := 3) (by decide) rfl h.k4 rfl, num_word (i := 4) (by decide) rfl h.k5 rfl,
    unq_word (i := 5) (by decide) rfl h.k6 rfl, unq_word (i := 6) (by decide) rfl h.k7 rfl, unq_word (i := 7) (by decide) rfl h.k8 rfl]
end Go.Proofs.YtmlddafbenfilaaDoor
/- The plain law of events: both readers agree on every line. -/
namespace Go.Proofs.YtmlddafbenfilaaDoor
open Go.Cam
set_option maxRecDepth 100000
theorem splitB_bys : ∀ (s : List Nat), Bys s → ∀ w ∈ splitB s, Bys w
  | [], _, w, hw => by
    rw [splitB, List.mem_singleton] at hw; subst hw
    exact fun x hx => nomatch hx
  | c :: r, h, w, hw => by
    have ih := splitB_bys r fun x hx => h x (List.mem_cons_of_mem _ hx)
    have hc := h c (List.mem_cons_self ..)
    rw [splitB] at hw
    split at hw
    · rcases List.mem_cons.1 hw with rfl | hw
      · exact fun x hx => nomatch hx
      · exact ih w hw
    · cases hs : splitB r with
      | nil =>
        rw [hs] at hw
        rw [List.mem_singleton] at hw; subst hw
        intro x hx
        rw [List.mem_singleton] at hx; rw [hx]; exact hc
      | cons v ws =>
        rw [hs] at hw ih
        rcases List.mem_cons.1 hw with rfl | hw
        · intro x hx
          rcases List.mem_cons.1 hx with rfl | hx
          · exact hc
          · exact ih v (List.mem_cons_self ..) x hx
        · exact ih w (List.mem_cons_of_mem _ hw)
theorem bys_nil : Bys ([] : List Nat) := fun _ hx => nomatch hx
theorem fill_bys {s : List Nat} (h : Bys s) (i : Nat) : Bys ((fillN s).getD i []) := by
  have hall : ∀ w ∈ fillN s, Bys w := fun w hw => by
    unfold fillN at hw
    rcases List.mem_append.1 hw with hw | hw
    · exact splitB_bys s h w hw
    · have hw := List.mem_of_mem_drop hw
      have hd : ∀ w ∈ dW, Bys w := by unfold dW Bys; decide
      exact hd w hw
  rw [List.getD_eq_getElem?_getD]
  cases hq : (fillN s)[i]? with
  | none => exact bys_nil
  | some w => exact hall w (List.mem_of_getElem? hq)
theorem fillR_bys {s : List Nat} (h : Bys s) (i : Nat) : Bys (fillR s i) := by
  unfold fillR
  rw [List.getD_eq_getElem?_getD]
  cases hq : (splitB s)[i]? with
  | none => show Bys [48]; unfold Bys; decide
  | some w => exact splitB_bys s h w (List.mem_of_getElem? hq)
theorem atoiN_in {w : List Nat} {n : Int} (h : atoiN w = some n) : I64 n := by
  unfold atoiN at h
  generalize w.map UInt8.ofNat = l at h
  unfold Go.Lib.atoiAll at h
  cases l with
  | nil => cases h
  | cons c r =>
    dsimp only at h
    generalize Go.Lib.parseMag (if c.toNat = 43 ∨ c.toNat = 45 then r else c :: r) = q at h
    rcases q with u | _ | _
    · dsimp only at h
      by_cases h1 : ¬ c.toNat = 45 ∧ 9223372036854775808 ≤ u
      · rw [if_pos h1] at h; cases h
      · rw [if_neg h1] at h
        by_cases h2 : c.toNat = 45 ∧ 9223372036854775808 < u
        · rw [if_pos h2] at h; cases h
        · rw [if_neg h2] at h
          dsimp only at h
          by_cases h3 : c.toNat = 45
          · rw [if_pos h3] at h; cases h; exact ⟨by omega, by omega⟩
          · rw [if_neg h3] at h; cases h; exact ⟨by omega, by omega⟩
    · cases h
    · cases h
theorem unquoteP_bys {s b : List Nat} (hs : Bys s) (h : unquoteP s = some b) : Bys b := by
  unfold unquoteP at h
  split at h
  · cases h
  · refine (unP_spec _ _ b (Nat.le_refl _) h fun x hx => hs x ?_).2.2
    exact List.mem_of_mem_drop (List.dropLast_subset _ hx)
theorem evP_ok {s : List Nat} (hs : Bys s) {e : Ev} (h : evP s = some e) : e.ok := by
  unfold evP at h
  split at h
  · cases h
  · unfold evW at h
    cases h0 : atoiN ((fillN s).getD 0 []) with
    | none => rw [h0] at h; cases h
    | some a =>
    cases h1 : atoiN ((fillN s).getD 1 []) with
    | none => rw [h0, h1] at h; cases h
    | some b =>
    cases h2 : atoiN ((fillN s).getD 2 []) with
    | none => rw [h0, h1, h2] at h; cases h
    | some c =>
    cases h3 : atoiN ((fillN s).getD 3 []) with
    | none => rw [h0, h1, h2, h3] at h; cases h
    | some d =>
    cases h4 : atoiN ((fillN s).getD 4 []) with
    | none => rw [h0, h1, h2, h3, h4] at h; cases h
    | some f =>
    cases h5 : unquoteP ((fillN s).getD 5 []) with
    | none => rw [h0, h1, h2, h3, h4, h5] at h; cases h
    | some p =>
    cases h6 : unquoteP ((fillN s).getD 6 []) with
    | none => rw [h0, h1, h2, h3, h4, h5, h6] at h; cases h
    | some q =>
    cases h7 : unquoteP ((fillN s).getD 7 []) with
    | none => rw [h0, h1, h2, h3, h4, h5, h6, h7] at h; cases h
    | some r =>
      rw [h0, h1, h2, h3, h4, h5, h6, h7] at h
      cases h
      exact ⟨atoiN_in h0, atoiN_in h1, atoiN_in h2, atoiN_in h3, atoiN_in h4, unquoteP_bys (fill_bys hs 5) h5, unquoteP_bys (fill_bys hs 6) h6, unquoteP_bys (fill_bys hs 7) h7⟩
theorem foldW_in : ∀ (l : List Nat) (n : Int), I64 n → I64 (l.foldl numW n)
  | [], _, h => h
  | c :: l, n, h => by
    rw [List.foldl_cons]
    refine foldW_in l _ ?_
    unfold numW
    split
    · exact w64_in _
    · exact h
theorem numR_in (l : List Nat) : I64 (numR l) := by
  unfold numR
  split
  · exact foldW_in _ _ ⟨by decide, by decide⟩
  · exact w64_in _
theorem unR_bys {s : List Nat} (hs : Bys s) : Bys ((unquoteR s).getD []) := by
  rw [← unquote_same s hs]
  cases h : unquoteP s with
  | none => exact bys_nil
  | some b => exact unquoteP_bys hs h
theorem evR_ok {s : List Nat} (hs : Bys s) : (evR s).ok :=
  ⟨numR_in _, numR_in _, numR_in _, numR_in _, numR_in _, unR_bys (fillR_bys hs 5), unR_bys (fillR_bys hs 6), unR_bys (fillR_bys hs 7)⟩
/-- both readers of a line agree -/
theorem event_same (s : List Nat) (hs : Bys s) : (evP s).filter (fun e => decide (lineN e = s)) = if lineN (evR s) = s then some (evR s) else none :=
  read_same (ok := Ev.ok) evP_line evR_line s (fun _ h => evP_ok hs h) (evR_ok hs)
end Go.Proofs.YtmlddafbenfilaaDoor
/- The plain law of scripts: what was written is read, and what was read is written. -/
namespace Go.Proofs.YtmlddafbenfilaaDoor
open Go.Cam
set_option maxRecDepth 100000
/-- a text cut at its first newline -/
def cut10 : List Nat → List Nat × Option (List Nat)
  | [] => ([], none)
  | c :: r => if c = 10 then ([], some r) else (c :: (cut10 r).1, (cut10 r).2)
theorem cut10_line : ∀ (w r : List Nat), 10 ∉ w → cut10 (w ++ 10 :: r) = (w, some r)
  | [], r, _ => by rw [List.nil_append, cut10, if_pos rfl]
  | c :: w, r, h => by
    have hc : c ≠ 10 := fun e => h (by rw [e]; exact List.mem_cons_self ..)
    rw [List.cons_append, cut10, if_neg hc, cut10_line w r fun q => h (List.mem_cons_of_mem _ q)]
theorem cut10_back : ∀ (s w r : List Nat), cut10 s = (w, some r) → s = w ++ 10 :: r
  | [], w, r, h => by rw [cut10] at h; cases h
  | c :: s, w, r, h => by
    rw [cut10] at h
    split at h
    · rename_i e
      cases h; rw [e]; rfl
    · cases hq : cut10 s with
      | mk a b =>
        rw [hq] at h
        cases h
        rw [cut10_back s a r hq]; rfl
/-- an event's line, if it is one -/
def evF (w : List Nat) : Option Ev := (evP w).filter fun e => decide (lineN e = w)
theorem evF_line {e : Ev} (h : e.ok) : evF (lineN e) = some e := by
  unfold evF
  rw [evP_line e h]
  show (if decide (lineN e = lineN e) = true then some e else none) = _
  rw [if_pos (decide_eq_true rfl)]
theorem evF_some {w : List Nat} {e : Ev} (h : evF w = some e) : lineN e = w := by
  unfold evF at h
  have := (Option.filter_eq_some_iff.1 h).2
  exact of_decide_eq_true this
def printN (l : List Ev) : List Nat := l.flatMap fun e => lineN e ++ [10]
def parseN (ev : List Nat → Option Ev) : Nat → List Nat → List Ev → Except Nat (List Ev)
  | _, [], acc => .ok acc
  | 0, _ :: _, acc => .error (acc.length + 1)
  | f + 1, c :: s, acc => match (cut10 (c :: s)).2 with
    | none => .error (acc.length + 1)
    | some r => match ev (cut10 (c :: s)).1 with
      | none => .error (acc.length + 1)
      | some e => parseN ev f r (acc ++ [e])
theorem itoa_no10 (n : Int) : 10 ∉ itoaN n := by
  unfold itoaN Go.Lib.itoa
  intro h
  obtain ⟨c, hc, he⟩ := List.mem_map.1 h
  split at hc
  · rcases List.mem_cons.1 hc with rfl | hc
    · exact absurd he (by decide)
    · have := dec_digit _ _ (Nat.le_refl _) c hc; omega
  · have := dec_digit _ _ (Nat.le_refl _) c hc; omega
theorem quote_no10 (b : List Nat) : 10 ∉ quoteN b := by
  unfold quoteN
  intro h
  rcases List.mem_cons.1 h with h | h
  · omega
  · rcases List.mem_append.1 h with h | h
    · obtain ⟨c, _, hc⟩ := List.mem_flatMap.1 h
      unfold q1 at hc
      split at hc
      · rename_i hi
        rw [List.mem_singleton] at hc
        subst hc
        exact absurd hi (by decide)
      · have h1 := hexN_ge (c / 16)
        have h2 := hexN_ge (c % 16)
        simp only [List.mem_cons, List.not_mem_nil, or_false] at hc
        omega
    · rw [List.mem_singleton] at h; omega
theorem joinB_no10 : ∀ (ws : List (List Nat)), (∀ w ∈ ws, 10 ∉ w) → 10 ∉ joinB ws
  | [], _ => fun h => nomatch h
  | [w], h => h w (List.mem_cons_self ..)
  | w :: v :: ws, h => by
    show 10 ∉ w ++ 32 :: joinB (v :: ws)
    intro q
    rcases List.mem_append.1 q with q | q
    · exact h w (List.mem_cons_self ..) q
    · rcases List.mem_cons.1 q with q | q
      · omega
      · exact joinB_no10 (v :: ws) (fun x hx => h x (List.mem_cons_of_mem _ hx)) q
theorem line_no10 (e : Ev) : 10 ∉ lineN e := by
  refine joinB_no10 _ fun w hw => ?_
  have hw := List.mem_of_mem_take hw
  unfold wordsN at hw
  simp only [List.mem_cons, List.not_mem_nil, or_false] at hw
  rcases hw with rfl | rfl | rfl | rfl | rfl | rfl | rfl | rfl
  · exact itoa_no10 _
  · exact itoa_no10 _
  · exact itoa_no10 _
  · exact itoa_no10 _
  · exact itoa_no10 _
  · exact quote_no10 _
  · exact quote_no10 _
  · exact quote_no10 _
/-- what was written is read as it was -/
theorem parse_print : ∀ (l : List Ev) (f : Nat) (acc : List Ev), (∀ e ∈ l, e.ok) → (printN l).length ≤ f → parseN evF f (printN l) acc = .ok (acc ++ l)
  | [], f, acc, _, _ => by
    show parseN evF f [] acc = _
    rw [parseN, List.append_nil]
  | e :: l, f, acc, h, hf => by
    have e1 : printN (e :: l) = lineN e ++ 10 :: printN l := by
      show (lineN e ++ [10]) ++ printN l = _
      rw [List.append_assoc]; rfl
    rw [e1] at hf ⊢
    rw [List.length_append, List.length_cons] at hf
    have hc := cut10_line (lineN e) (printN l) (line_no10 e)
    match f, hf with
    | f + 1, hf =>
      have ih := parse_print l f (acc ++ [e]) (fun x hx => h x (List.mem_cons_of_mem _ hx)) (by omega)
      cases hs : lineN e ++ 10 :: printN l with
      | nil => exact absurd hs (by simp)
      | cons c s =>
        rw [hs] at hc
        rw [parseN, hc]
        dsimp only
        rw [evF_line (h e (List.mem_cons_self ..))]
        dsimp only
        rw [ih, List.append_assoc]; rfl
    | 0, hf => omega
/-- what was read is written as it was -/
theorem parse_back : ∀ (f : Nat) (s : List Nat) (acc k : List Ev), parseN evF f s acc = .ok k → ∃ k', k = acc ++ k' ∧ printN k' = s
  | _, [], acc, k, h => by
    rw [parseN] at h; cases h
    exact ⟨[], (List.append_nil _).symm, rfl⟩
  | 0, c :: s, acc, k, h => by rw [parseN] at h; cases h
  | f + 1, c :: s, acc, k, h => by
    rw [parseN] at h
    cases hc : cut10 (c :: s) with
    | mk w o =>
      rw [hc] at h
      dsimp only at h
      cases o with
      | none => cases h
      | some r =>
        dsimp only at h
        cases he : evF w with
        | none => rw [he] at h; cases h
        | some e =>
          rw [he] at h
          dsimp only at h
          obtain ⟨k', h1, h2⟩ := parse_back f r (acc ++ [e]) k h
          refine ⟨e :: k', by rw [h1, List.append_assoc]; rfl, ?_⟩
          show (lineN e ++ [10]) ++ printN k' = _
          rw [evF_some he, h2, cut10_back _ _ _ hc, List.append_assoc]; rfl
end Go.Proofs.YtmlddafbenfilaaDoor
