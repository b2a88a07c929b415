/- A part of an array, with its room. -/
import Derived.Test.YtmlddafbenfilaaDoorCamAU
import Derived.Test.YtmlddafbenfilaaDoorCamAM
import Derived.Lib.ItoaNum
import Derived.Lib.AtoiAll
import Derived.Test.YtmlddafbenfilaaDoorCamAD
namespace Go.Cam
section
variable {P : Program} {l : List (Nat × Value)} {As : List HP} {d : Nat} {oty : TypeId} {pos : String} {af : Array Edge} {g : Option (Nat × Bool)}
/-- x[:q:q] of an array -/
theorem lk_slcm (q : Nat) {t : TypeId} {x hi mx : Operand} {b m el sz : Nat} [hu : AR P t m el] [hs : SZ P el sz] (h0 : 0 < q) (hh : q ≤ m) (hx : ∀ j, ev (mk l j) x = .pointer (some ⟨b, 0, none⟩) := by intro j; rfl)
    (hhi : ∀ j, ∃ k, ev (mk l j) hi = .int k (q : Int) := by intro j; exact ⟨_, rfl⟩) (hmx : ∀ j, ∃ k, ev (mk l j) mx = .int k (q : Int) := by intro j; exact ⟨_, rfl⟩) :
    LookS P ⟨some d, .slice t x none (some hi) (some mx), oty, pos, af, g⟩ l As (.slice (some ⟨b, 0, none⟩) q q) := .mk fun j _ _ _ => by
  refine qt_exec (s := Instr.sliceAt t (ev (mk l j) x) none (some (ev (mk l j) hi)) (some (ev (mk l j) mx))) (by unfold execOp; rfl) fun w0 w _ => ?_
  refine cst_run _ ?_ w
  rw [hx j]
  obtain ⟨k1, h1⟩ := hhi j
  obtain ⟨k2, h2⟩ := hmx j
  unfold Instr.sliceAt
  rw [cst_bind hu.h]
  dsimp only
  rw [cst_bind (show cst P (Instr.sureAddr (.pointer (some ⟨b, 0, none⟩))) = some ⟨b, 0, none⟩ from rfl)]
  have hb : cst P (Instr.sliceBounds false m m none (some (ev (mk l j) hi)) (some (ev (mk l j) mx))) = some (0, q, q) := by
    unfold Instr.sliceBounds
    dsimp only
    rw [cst_bind (cst_sliceBound h2 hh)]
    rw [cst_bind (cst_sliceBound h1 (Nat.le_refl q))]
    rfl
  rw [cst_bind hb]
  dsimp only
  rw [cst_bind hs.h]
  simp only [if_neg (show ¬ q = 0 by omega), addr_add, Nat.zero_mul]; rfl
/-- an element of an array of texts -/
theorem lk_ldx {t : TypeId} {x : Operand} {b off ty : Nat} {c : List Value} {v : Value} {Bs : List HP} [hag : AG P t false] (s : Sel (Box b ty c) As Bs) (hv : c[off]? = some v) (hx : ∀ j, ev (mk l j) x = .pointer (some ⟨b, off, none⟩) := by intro j; rfl) :
    LookS P ⟨some d, .load t x, oty, pos, af, g⟩ l As v := lk_ld hx s (by rw [List.getElem?_toArray]; exact hv)
/-- a slice is copied to the head of an array -/
theorem st_cpX {dd : Option Nat} {t t2 el m c n' c' b ty : Nat} {x y : Operand} {u : Option Addr} {cs : List Value} {row : Nat → List Value} {As' : List HP} [sc : SC P t el] [hs : SZ P el 1] (hm : m ≤ n') (hl : n' ≤ cs.length)
    (up : Upd (Box b ty cs) (Box b ty (flat m row ++ cs.drop m)) As As') (hr : SelR As 1 (.slice u m c) m row) (h1 : (flat m row).all one = true)
    (hx : ∀ j, ev (mk l j) x = .slice (some ⟨b, 0, none⟩) n' c' := by intro j; rfl) (hy : ∀ j, ev (mk l j) y = .slice u m c := by intro j; rfl) :
    StepL P ⟨dd, .call ⟨.builtin .copy, #[x, y], #[t, t2]⟩, oty, pos, af, g⟩ l As (fun v Cs => v = .int .i64 (m : Nat) ∧ Cs = As') := .mk fun j Fs H M q => by
  rw [execOp_copy, hx j, hy j]
  obtain ⟨Cs, s1, s2⟩ := (up.app Fs).sels
  obtain ⟨hb, hq⟩ := own_write (o' := .cells (flat m row ++ cs.drop m).toArray ty (0, 0)) (s1.sat q)
  have hrr := (hr.app Fs).rd q
  have hrl : ∀ i, i < m → (row i).length = 1 := by obtain ⟨_, _, _, _, h, _⟩ := hrr; exact h
  have hfl := flat_len hrl
  refine hmc_of_hm (hm_bind (hm_copy (n' := n') (c' := c') (off := 0) hb hrr h1 (by simp; omega) (hm_pure ⟨_, .inl rfl, _, ⟨by rw [Nat.min_eq_left hm], rfl⟩, ?_⟩)))
  rw [Nat.min_eq_left hm, setL_list _ _ _ (by rw [hfl]; omega)]
  rw [hfl]
  simp only [List.take_zero, List.nil_append, Nat.zero_add, Nat.mul_one]
  exact s2.back hq
end
end Go.Cam
/- The plain law of quoting: what is read is just what would be written. -/
namespace Go.Proofs.YtmlddafbenfilaaDoor
open Go.Cam
set_option maxRecDepth 100000
/-- a byte that stands for itself -/
def itselfN (c : Nat) : Bool := decide (97 ≤ c ∧ c ≤ 122) || decide (65 ≤ c ∧ c ≤ 90) || decide (48 ≤ c ∧ c ≤ 57) || decide (c = 47 ∨ c = 46 ∨ c = 45 ∨ c = 95)
def hexN (d : Nat) : Nat := if d < 10 then 48 + d else 87 + d
/-- what a digit to the base 16 is -/
def hexI (c : Nat) : Option Nat := if 48 ≤ c ∧ c ≤ 57 then some (c - 48) else if 97 ≤ c ∧ c ≤ 102 then some (c - 87) else none
def q1 (c : Nat) : List Nat := if itselfN c then [c] else [37, hexN (c / 16), hexN (c % 16)]
def qB (b : List Nat) : List Nat := b.flatMap q1
def quoteN (b : List Nat) : List Nat := 34 :: (qB b ++ [34])
/-- what the program reads between the quotes -/
def unP : List Nat → Option (List Nat)
  | [] => some []
  | c :: r => if itselfN c then (unP r).map (c :: ·) else if c ≠ 37 then none else
    match r with
    | h :: l :: r' => match hexI h, hexI l with
      | some a, some b => if itselfN (16 * a + b) then none else (unP r').map ((16 * a + b) :: ·)
      | _, _ => none
    | _ => none
/-- what the document reads there -/
def decR : List Nat → List Nat
  | [] => []
  | c :: r => if c = 37 then
      match r with
      | h :: l :: r' => (16 * (hexI h).getD 0 + (hexI l).getD 0) % 256 :: decR r'
      | [x] => [c, x]
      | [] => [c]
    else c :: decR r
theorem unP_cons (c : Nat) (r : List Nat) : unP (c :: r) = if itselfN c then (unP r).map (c :: ·) else if c ≠ 37 then none else
    match r with
    | h :: l :: r' => match hexI h, hexI l with
      | some a, some b => if itselfN (16 * a + b) then none else (unP r').map ((16 * a + b) :: ·)
      | _, _ => none
    | _ => none := by rw [unP.eq_def]
theorem decR_cons (c : Nat) (r : List Nat) : decR (c :: r) = if c = 37 then
      match r with
      | h :: l :: r' => (16 * (hexI h).getD 0 + (hexI l).getD 0) % 256 :: decR r'
      | [x] => [c, x]
      | [] => [c]
    else c :: decR r := by rw [decR.eq_def]
theorem hexI_lt {c a : Nat} (h : hexI c = some a) : a < 16 := by
  unfold hexI at h
  split at h
  · cases h; omega
  · split at h
    · cases h; omega
    · cases h
theorem hexI_N {c a : Nat} (h : hexI c = some a) : hexN a = c := by
  unfold hexI at h
  unfold hexN
  split at h
  · cases h; rw [if_pos (by omega)]; omega
  · split at h
    · cases h; rw [if_neg (by omega)]; omega
    · cases h
theorem hexN_I {d : Nat} (h : d < 16) : hexI (hexN d) = some d := by
  unfold hexN hexI
  split
  · rw [if_pos (by omega)]; congr 1; omega
  · rw [if_neg (by omega), if_pos (by omega)]; congr 1; omega
theorem not37 : itselfN 37 = false := by decide
theorem unP_qB : ∀ (o : List Nat), Bys o → unP (qB o) = some o
  | [], _ => rfl
  | c :: o, hb => by
    have ih := unP_qB o fun x hx => hb x (List.mem_cons_of_mem _ hx)
    have hc := hb c (List.mem_cons_self ..)
    show unP (q1 c ++ qB o) = _
    unfold q1
    cases hi : itselfN c with
    | true =>
      rw [if_pos rfl]
      show unP (c :: qB o) = _
      rw [unP_cons, if_pos hi, ih]; rfl
    | false =>
      rw [if_neg (by decide)]
      show unP (37 :: hexN (c / 16) :: hexN (c % 16) :: qB o) = _
      rw [unP_cons, if_neg (by rw [not37]; decide), if_neg (by simp)]
      dsimp only
      rw [hexN_I (by omega), hexN_I (by omega)]
      dsimp only
      rw [show 16 * (c / 16) + c % 16 = c by omega, hi, if_neg (by decide), ih]; rfl
theorem unP_spec : ∀ (n : Nat) (x o : List Nat), x.length ≤ n → unP x = some o → Bys x → qB o = x ∧ decR x = o ∧ Bys o
  | _, [], o, _, h, _ => by
    rw [unP] at h; cases h
    exact ⟨rfl, rfl, fun x hx => nomatch hx⟩
  | 0, c :: r, _, hl, _, _ => by rw [List.length_cons] at hl; omega
  | n + 1, c :: r, o, hl, h, hb => by
    rw [List.length_cons] at hl
    have hbr : Bys r := fun x hx => hb x (List.mem_cons_of_mem _ hx)
    rw [unP_cons] at h
    split at h
    · rename_i hi
      cases hu : unP r with
      | none => rw [hu] at h; cases h
      | some o' =>
        rw [hu] at h; cases h
        obtain ⟨h1, h2, h3⟩ := unP_spec n r o' (by omega) hu hbr
        have hc37 : c ≠ 37 := fun e => by rw [e, not37] at hi; cases hi
        refine ⟨?_, ?_, fun x hx => ?_⟩
        · show q1 c ++ qB o' = _
          unfold q1; rw [if_pos hi, h1]; rfl
        · rw [decR_cons, if_neg hc37, h2]
        · rcases List.mem_cons.1 hx with rfl | hx
          · exact hb _ (List.mem_cons_self ..)
          · exact h3 x hx
    · split at h
      · cases h
      · rename_i hi hc
        have hc : c = 37 := Classical.byContradiction hc
        subst hc
        match r, hl, hbr, h with
        | [], _, _, h => cases h
        | [_], _, _, h => cases h
        | p :: l :: r', hl, hbr, h =>
          dsimp only at h
          cases hp : hexI p with
          | none => rw [hp] at h; cases h
          | some a =>
            cases hq : hexI l with
            | none => rw [hp, hq] at h; cases h
            | some b =>
              rw [hp, hq] at h
              dsimp only at h
              split at h
              · cases h
              · rename_i hv
                have ha := hexI_lt hp
                have hbl := hexI_lt hq
                cases hu : unP r' with
                | none => rw [hu] at h; cases h
                | some o' =>
                  rw [hu] at h; cases h
                  rw [List.length_cons, List.length_cons] at hl
                  obtain ⟨h1, h2, h3⟩ := unP_spec n r' o' (by omega) hu fun x hx => hbr x (List.mem_cons_of_mem _ (List.mem_cons_of_mem _ hx))
                  refine ⟨?_, ?_, fun x hx => ?_⟩
                  · show q1 (16 * a + b) ++ qB o' = _
                    unfold q1
                    rw [if_neg hv, show (16 * a + b) / 16 = a by omega, show (16 * a + b) % 16 = b by omega, hexI_N hp, hexI_N hq, h1]; rfl
                  · rw [decR_cons, if_pos rfl]
                    dsimp only
                    rw [hp, hq, h2]
                    show (16 * a + b) % 256 :: o' = _
                    rw [Nat.mod_eq_of_lt (by omega)]
                  · rcases List.mem_cons.1 hx with rfl | hx
                    · omega
                    · exact h3 x hx
/-- both readings of a text -/
def unquoteP (s : List Nat) : Option (List Nat) := if s.length < 2 ∨ s.head? ≠ some 34 ∨ s.getLast? ≠ some 34 then none else unP ((s.drop 1).dropLast)
def unquoteR (s : List Nat) : Option (List Nat) := if s.length < 2 then none else if quoteN (decR ((s.drop 1).dropLast)) = s then some (decR ((s.drop 1).dropLast)) else none
theorem decR_bys : ∀ (n : Nat) (x : List Nat), x.length ≤ n → Bys x → Bys (decR x)
  | _, [], _, _ => fun x hx => nomatch hx
  | 0, c :: r, hl, _ => by rw [List.length_cons] at hl; omega
  | n + 1, c :: r, hl, hb => by
    rw [List.length_cons] at hl
    have hbr : Bys r := fun x hx => hb x (List.mem_cons_of_mem _ hx)
    rw [decR_cons]
    split
    · match r, hl, hbr with
      | [], _, _ => exact hb
      | [_], _, _ => exact hb
      | p :: l :: r', hl, hbr =>
        rw [List.length_cons, List.length_cons] at hl
        have ih := decR_bys n r' (by omega) fun x hx => hbr x (List.mem_cons_of_mem _ (List.mem_cons_of_mem _ hx))
        intro x hx
        rcases List.mem_cons.1 hx with rfl | hx
        · exact Nat.mod_lt _ (by decide)
        · exact ih x hx
    · have ih := decR_bys n r (by omega) hbr
      intro x hx
      rcases List.mem_cons.1 hx with rfl | hx
      · exact hb _ (List.mem_cons_self ..)
      · exact ih x hx
theorem unquote_same (s : List Nat) (hb : Bys s) : unquoteP s = unquoteR s := by
  unfold unquoteP unquoteR
  by_cases hl : s.length < 2
  · rw [if_pos (.inl hl), if_pos hl]
  · rw [if_neg hl]
    match s, hl, hb with
    | a :: t, hl, hb =>
      have hl : ¬ t.length + 1 < 2 := hl
      have htn : t ≠ [] := fun e => by rw [e] at hl; simp at hl
      have et : t = t.dropLast ++ [t.getLast htn] := (List.dropLast_concat_getLast htn).symm
      generalize hx : t.dropLast = x at *
      generalize hz : t.getLast htn = z at *
      subst et
      have hbx : Bys x := fun c hc => hb c (List.mem_cons_of_mem _ (List.mem_append_left _ hc))
      rw [show ((a :: (x ++ [z])).drop 1).dropLast = x by simp]
      have hq : quoteN (decR x) = a :: (x ++ [z]) ↔ a = 34 ∧ z = 34 ∧ qB (decR x) = x := by
        unfold quoteN
        constructor
        · intro h
          obtain ⟨h1, h2⟩ := List.cons.inj h
          obtain ⟨h3, h4⟩ := List.append_inj' h2 rfl
          exact ⟨h1.symm, (List.cons.inj h4).1.symm, h3⟩
        · rintro ⟨rfl, rfl, h⟩; rw [h]
      by_cases hc : a = 34 ∧ z = 34
      · obtain ⟨rfl, rfl⟩ := hc
        rw [if_neg (by
          rintro (h | h | h)
          · rw [List.length_cons, List.length_append, List.length_singleton] at h; omega
          · exact h rfl
          · exact h (by simp [List.getLast?_cons, List.getLast?_append]))]
        cases hu : unP x with
        | some o =>
          obtain ⟨h1, h2, _⟩ := unP_spec x.length x o (Nat.le_refl _) hu hbx
          rw [if_pos (hq.2 ⟨rfl, rfl, by rw [h2]; exact h1⟩), h2]
        | none =>
          rw [if_neg fun h => ?_]
          have h1 := (hq.1 h).2.2
          have h2 := unP_qB (decR x) (decR_bys x.length x (Nat.le_refl _) hbx)
          rw [h1, hu] at h2; cases h2
      · rw [if_neg fun h => hc ⟨(hq.1 h).1, (hq.1 h).2.1⟩, if_pos]
        by_cases ha : a = 34
        · refine .inr (.inr ?_)
          have : z ≠ 34 := fun e => hc ⟨ha, e⟩
          simp [List.getLast?_append, List.getLast?_cons]
          omega
        · exact .inr (.inl (by simp; exact ha))
end Go.Proofs.YtmlddafbenfilaaDoor
/- The plain law of numbers: what is read of a number's text is the number. -/
namespace Go.Proofs.YtmlddafbenfilaaDoor
open Go.Cam
set_option maxRecDepth 100000
theorem u8_of {n : Nat} (h : n < 256) : (UInt8.ofNat n).toNat = n := by rw [UInt8.toNat_ofNat']; exact Nat.mod_eq_of_lt h
theorem dec_digit : ∀ (k u : Nat), u ≤ k → ∀ c ∈ Go.Lib.decDigits u, 48 ≤ c.toNat ∧ c.toNat ≤ 57
  | k, u, hk, c, hc => by
    by_cases h : u < 10
    · rw [Go.Lib.decDigits, dif_pos h, List.mem_singleton] at hc
      subst hc
      rw [u8_of (by omega)]; omega
    · rw [Go.Lib.decDigits, dif_neg h] at hc
      match k, hk with
      | k + 1, hk =>
        rcases List.mem_append.1 hc with hc | hc
        · exact dec_digit k (u / 10) (by omega) c hc
        · rw [List.mem_singleton] at hc
          subst hc
          rw [u8_of (by omega)]; omega
      | 0, hk => omega
theorem dec_ne (u : Nat) : Go.Lib.decDigits u ≠ [] := by
  rw [Go.Lib.decDigits]
  split
  · simp
  · simp
theorem parse_snoc : ∀ (l : List UInt8) (acc v : Nat) (c : UInt8), Go.Lib.parseUint10 acc l = .ok v → 48 ≤ c.toNat ∧ c.toNat ≤ 57 → v < 1844674407370955162 → v * 10 + (c.toNat - 48) < 18446744073709551616 → Go.Lib.parseUint10 acc (l ++ [c]) = .ok (v * 10 + (c.toNat - 48))
  | [], acc, v, c, h, hc, h1, h2 => by
    unfold Go.Lib.parseUint10 at h
    cases h
    show Go.Lib.parseUint10 acc [c] = _
    unfold Go.Lib.parseUint10
    rw [if_pos hc, if_neg (by omega), if_neg (by omega)]
    unfold Go.Lib.parseUint10
    rfl
  | d :: l, acc, v, c, h, hc, h1, h2 => by
    show Go.Lib.parseUint10 acc (d :: (l ++ [c])) = _
    unfold Go.Lib.parseUint10 at h ⊢
    split at h
    · rename_i hd
      rw [if_pos hd]
      split at h
      · cases h
      · rename_i h3
        rw [if_neg h3]
        split at h
        · cases h
        · rename_i h4
          rw [if_neg h4]
          exact parse_snoc l _ v c h hc h1 h2
    · cases h
theorem parse_dec : ∀ (k u : Nat), u ≤ k → u ≤ 9223372036854775808 → Go.Lib.parseUint10 0 (Go.Lib.decDigits u) = .ok u
  | k, u, hk, hu => by
    by_cases h : u < 10
    · rw [Go.Lib.decDigits, dif_pos h]
      unfold Go.Lib.parseUint10
      have e : (UInt8.ofNat (48 + u)).toNat = 48 + u := by rw [u8_of (by omega)]
      rw [e, if_pos (by omega), if_neg (by decide), if_neg (by omega)]
      unfold Go.Lib.parseUint10
      congr 1; omega
    · rw [Go.Lib.decDigits, dif_neg h]
      match k, hk with
      | k + 1, hk =>
        have ih := parse_dec k (u / 10) (by omega) (by omega)
        have e : (UInt8.ofNat (48 + u % 10)).toNat = 48 + u % 10 := by rw [u8_of (by omega)]
        rw [parse_snoc _ _ _ _ ih (by rw [e]; omega) (by omega) (by rw [e]; omega), e]
        congr 1; omega
      | 0, hk => omega
/-- the program's way -/
theorem atoi_itoa (n : Int) (h : -9223372036854775808 ≤ n ∧ n ≤ 9223372036854775807) : Go.Lib.atoiAll (Go.Lib.itoa n) = .ok n := by
  unfold Go.Lib.itoa
  split
  · rename_i hn
    unfold Go.Lib.atoiAll
    dsimp only
    rw [if_pos (.inr (by decide))]
    have e : Go.Lib.parseMag (Go.Lib.decDigits n.natAbs) = .ok n.natAbs := by
      unfold Go.Lib.parseMag
      rw [if_neg (dec_ne _), parse_dec n.natAbs n.natAbs (Nat.le_refl _) (by omega)]
    rw [e]
    dsimp only
    rw [if_neg (by intro q; exact q.1 (by decide)), if_neg (by omega), if_pos (by decide)]
    congr 1; omega
  · rename_i hn
    have hp := parse_dec n.toNat n.toNat (Nat.le_refl _) (by omega)
    have hd := dec_digit n.toNat n.toNat (Nat.le_refl _)
    have hne := dec_ne n.toNat
    generalize hl : Go.Lib.decDigits n.toNat = l at *
    match l, hne with
    | c :: r, _ =>
      have hc := hd c (List.mem_cons_self ..)
      unfold Go.Lib.atoiAll
      dsimp only
      rw [if_neg (by omega)]
      have e : Go.Lib.parseMag (c :: r) = .ok n.toNat := by
        unfold Go.Lib.parseMag
        rw [if_neg (by simp), hp]
      rw [e]
      dsimp only
      rw [if_neg (by omega), if_neg (by omega), if_neg (by omega)]
      congr 1; omega
end Go.Proofs.YtmlddafbenfilaaDoor
/- The plain law of a line: words, and what is left out at its end. -/
namespace Go.Proofs.YtmlddafbenfilaaDoor
open Go.Cam
set_option maxRecDepth 100000
/-- cut at each blank -/
def splitB : List Nat → List (List Nat)
  | [] => [[]]
  | c :: r => if c = 32 then [] :: splitB r else
    match splitB r with
    | w :: ws => (c :: w) :: ws
    | [] => [[c]]
def joinB : List (List Nat) → List Nat
  | [] => []
  | w :: ws => match ws with
    | [] => w
    | _ => w ++ 32 :: joinB ws
theorem splitB_word : ∀ (w : List Nat), 32 ∉ w → splitB w = [w]
  | [], _ => rfl
  | c :: w, h => by
    have hc : c ≠ 32 := fun e => h (by rw [e]; exact List.mem_cons_self ..)
    rw [splitB, if_neg hc, splitB_word w fun q => h (List.mem_cons_of_mem _ q)]
theorem splitB_app : ∀ (w r : List Nat), 32 ∉ w → splitB (w ++ 32 :: r) = w :: splitB r
  | [], r, _ => by rw [List.nil_append, splitB, if_pos rfl]
  | c :: w, r, h => by
    have hc : c ≠ 32 := fun e => h (by rw [e]; exact List.mem_cons_self ..)
    rw [List.cons_append, splitB, if_neg hc, splitB_app w r fun q => h (List.mem_cons_of_mem _ q)]
theorem split_join : ∀ (ws : List (List Nat)), ws ≠ [] → (∀ w ∈ ws, 32 ∉ w) → splitB (joinB ws) = ws
  | [], h, _ => absurd rfl h
  | [w], _, h => by
    show splitB w = [w]
    exact splitB_word w (h w (List.mem_cons_self ..))
  | w :: v :: ws, _, h => by
    show splitB (w ++ 32 :: joinB (v :: ws)) = _
    rw [splitB_app w _ (h w (List.mem_cons_self ..)), split_join (v :: ws) (by simp) fun x hx => h x (List.mem_cons_of_mem _ hx)]
/-- how many words are written: those at the end that are as nothing says are left out -/
def cntW (w d : List (List Nat)) : Nat → Nat
  | 0 => 0
  | 1 => 1
  | n + 2 => if w.getD (n + 1) [] = d.getD (n + 1) [] then cntW w d (n + 1) else n + 2
theorem cntW_le (w d : List (List Nat)) : ∀ n, cntW w d n ≤ n
  | 0 => Nat.le_refl _
  | 1 => Nat.le_refl _
  | n + 2 => by
    rw [cntW]; split
    · exact Nat.le_succ_of_le (cntW_le w d (n + 1))
    · exact Nat.le_refl _
theorem cntW_pos (w d : List (List Nat)) : ∀ n, 1 ≤ n → 1 ≤ cntW w d n
  | 1, _ => Nat.le_refl _
  | n + 2, _ => by
    rw [cntW]; split
    · exact cntW_pos w d (n + 1) (by omega)
    · omega
theorem cntW_same (w d : List (List Nat)) : ∀ n i, cntW w d n ≤ i → i < n → w.getD i [] = d.getD i []
  | 0, i, _, h => by omega
  | 1, i, h1, h2 => by rw [cntW] at h1; omega
  | n + 2, i, h1, h2 => by
    rw [cntW] at h1
    split at h1
    · rename_i e
      by_cases hi : i = n + 1
      · subst hi; exact e
      · exact cntW_same w d (n + 1) i h1 (by omega)
    · omega
theorem fillW {w d : List (List Nat)} (h : w.length = d.length) : w.take (cntW w d w.length) ++ d.drop (cntW w d w.length) = w := by
  have hle := cntW_le w d w.length
  refine List.ext_getElem (by rw [List.length_append, List.length_take, List.length_drop]; omega) fun i h1 h2 => ?_
  rw [List.getElem_append]
  split
  · rw [List.getElem_take]
  · rename_i hi
    rw [List.length_take, Nat.min_eq_left hle] at hi
    have hs := cntW_same w d w.length i (by omega) h2
    rw [List.getElem_drop]
    simp only [List.length_take, Nat.min_eq_left hle]
    have e1 : w.getD i [] = w[i] := by simp [List.getD_eq_getElem?_getD, h2]
    have e2 : d.getD i [] = d[i] := by simp [List.getD_eq_getElem?_getD, show i < d.length by omega]
    rw [e1, e2] at hs
    rw [hs]
    congr 1
    omega
end Go.Proofs.YtmlddafbenfilaaDoor
/- The plain law of events: a line that was written is read as the event, by both. -/
namespace Go.Proofs.YtmlddafbenfilaaDoor
open Go.Cam
set_option maxRecDepth 100000
structure Ev where
  kind : Int
  pid : Int
  fd : Int
  n : Int
  m : Int
  path : List Nat
  name : List Nat
  data : List Nat
abbrev I64 (n : Int) : Prop := -9223372036854775808 ≤ n ∧ n ≤ 9223372036854775807
structure Ev.ok (e : Ev) : Prop where
  k1 : I64 e.kind
  k2 : I64 e.pid
  k3 : I64 e.fd
  k4 : I64 e.n
  k5 : I64 e.m
  k6 : Bys e.path
  k7 : Bys e.name
  k8 : Bys e.data
def itoaN (n : Int) : List Nat := (Go.Lib.itoa n).map UInt8.toNat
def wordsN (e : Ev) : List (List Nat) := [itoaN e.kind, itoaN e.pid, itoaN e.fd, itoaN e.n, itoaN e.m, quoteN e.path, quoteN e.name, quoteN e.data]
def dW : List (List Nat) := [[48], [48], [48], [48], [48], [34, 34], [34, 34], [34, 34]]
def lineN (e : Ev) : List Nat := joinB ((wordsN e).take (cntW (wordsN e) dW 8))
theorem dW_is : wordsN ⟨0, 0, 0, 0, 0, [], [], []⟩ = dW := by
  have : itoaN 0 = [48] := by
    unfold itoaN Go.Lib.itoa
    rw [if_neg (by decide)]
    show (Go.Lib.decDigits 0).map UInt8.toNat = _
    rw [Go.Lib.decDigits, dif_pos (by decide)]; rfl
  unfold wordsN
  rw [this]; rfl
theorem itoa_no32 (n : Int) : 32 ∉ itoaN n := by
  unfold itoaN Go.Lib.itoa
  intro h
  obtain ⟨c, hc, he⟩ := List.mem_map.1 h
  split at hc
  · rcases List.mem_cons.1 hc with rfl | hc
    · exact absurd he (by decide)
    · have := dec_digit _ _ (Nat.le_refl _) c hc; omega
  · have := dec_digit _ _ (Nat.le_refl _) c hc; omega
theorem hexN_ge (d : Nat) : 48 ≤ hexN d := by unfold hexN; split <;> omega
theorem q1_no32 (c : Nat) : 32 ∉ q1 c := by
  unfold q1
  split
  · rename_i h
    intro q
    rw [List.mem_singleton] at q
    subst q
    exact absurd h (by decide)
  · intro q
    have h1 := hexN_ge (c / 16)
    have h2 := hexN_ge (c % 16)
    simp only [List.mem_cons, List.not_mem_nil, or_false] at q
    omega
theorem quote_no32 (b : List Nat) : 32 ∉ quoteN b := by
  unfold quoteN
  intro h
  rcases List.mem_cons.1 h with h | h
  · omega
  · rcases List.mem_append.1 h with h | h
    · obtain ⟨c, _, hc⟩ := List.mem_flatMap.1 h
      exact q1_no32 c hc
    · rw [List.mem_singleton] at h; omega
theorem words_no32 (e : Ev) : ∀ w ∈ wordsN e, 32 ∉ w := fun w hw => by
  unfold wordsN at hw
  simp only [List.mem_cons, List.not_mem_nil, or_false] at hw
  rcases hw with rfl | rfl | rfl | rfl | rfl | rfl | rfl | rfl
  · exact itoa_no32 _
  · exact itoa_no32 _
  · exact itoa_no32 _
  · exact itoa_no32 _
  · exact itoa_no32 _
  · exact quote_no32 _
  · exact quote_no32 _
  · exact quote_no32 _
theorem split_line (e : Ev) : splitB (lineN e) = (wordsN e).take (cntW (wordsN e) dW 8) := by
  have h1 := cntW_pos (wordsN e) dW 8 (by decide)
  refine split_join _ (fun h => ?_) fun w hw => words_no32 e w (List.mem_of_mem_take hw)
  have h2 := congrArg List.length h
  rw [List.length_take, show (wordsN e).length = 8 from rfl, List.length_nil] at h2
  omega
def atoiN (w : List Nat) : Option Int := match Go.Lib.atoiAll (w.map UInt8.ofNat) with
  | .ok v => some v
  | _ => none
theorem atoiN_itoa {n : Int} (h : I64 n) : atoiN (itoaN n) = some n := by
  unfold atoiN itoaN
  rw [List.map_map, show (UInt8.ofNat ∘ UInt8.toNat) = id by funext x; simp, List.map_id, atoi_itoa n h]
theorem unquote_quote {b : List Nat} (h : Bys b) : unquoteP (quoteN b) = some b := by
  unfold unquoteP quoteN
  rw [if_neg (by
    rintro (q | q | q)
    · rw [List.length_cons, List.length_append, List.length_singleton] at q; omega
    · exact q rfl
    · exact q (by simp [List.getLast?_cons, List.getLast?_append]))]
  rw [show ((34 :: (qB b ++ [34])).drop 1).dropLast = qB b by simp]
  exact unP_qB b h
/-- words of a line, with what was left out -/
def fillN (s : List Nat) : List (List Nat) := splitB s ++ dW.drop (splitB s).length
theorem fill_line (e : Ev) : fillN (lineN e) = wordsN e := by
  unfold fillN
  rw [split_line, List.length_take, show (wordsN e).length = 8 from rfl, Nat.min_eq_left (cntW_le _ _ 8)]
  exact fillW (w := wordsN e) (d := dW) rfl
def evW (w : List (List Nat)) : Option Ev :=
  match atoiN (w.getD 0 []), atoiN (w.getD 1 []), atoiN (w.getD 2 []), atoiN (w.getD 3 []), atoiN (w.getD 4 []), unquoteP (w.getD 5 []), unquoteP (w.getD 6 []), unquoteP (w.getD 7 []) with
  | some a, some b, some c, some d, some e, some f, some g, some h => some ⟨a, b, c, d, e, f, g, h⟩
  | _, _, _, _, _, _, _, _ => none
def evP (s : List Nat) : Option Ev := if 8 < (splitB s).length then none else evW (fillN s)
theorem evP_line (e : Ev) (h : e.ok) : evP (lineN e) = some e := by
  unfold evP
  rw [if_neg (by rw [split_line, List.length_take]; have := cntW_le (wordsN e) dW 8; omega), fill_line]
  unfold evW wordsN
  simp only [List.getD_cons_zero, List.getD_cons_succ]
  rw [atoiN_itoa h.k1, atoiN_itoa h.k2, atoiN_itoa h.k3, atoiN_itoa h.k4, atoiN_itoa h.k5, unquote_quote h.k6, unquote_quote h.k7, unquote_quote h.k8]
end Go.Proofs.YtmlddafbenfilaaDoor
/- The plain law of events: the document's reader, and that both read alike. -/
namespace Go.Proofs.YtmlddafbenfilaaDoor
open Go.Cam
set_option maxRecDepth 100000
theorem nDig_le : ∀ (k u : Nat), u < 10 ^ k → 1 ≤ k → Go.Lib.nDigits u ≤ k
  | 0, _, _, h => by omega
  | k + 1, u, h, _ => by
    by_cases hu : u < 10
    · rw [Go.Lib.nDigits_small hu]; omega
    · rw [Go.Lib.nDigits_big hu]
      rw [Nat.pow_succ] at h
      by_cases hk : k = 0
      · subst hk; omega
      · have := nDig_le k (u / 10) (by omega) (by omega)
        omega
theorem dec_len {u : Nat} (h : u ≤ 9223372036854775808) : (Go.Lib.decDigits u).length ≤ 19 := by
  rw [Go.Lib.decDigits_length]; exact nDig_le 19 u (by omega) (by decide)
end Go.Proofs.YtmlddafbenfilaaDoor
/- The plain law of events: both readers agree on every line. -/
namespace Go.Proofs.YtmlddafbenfilaaDoor
open Go.Cam
set_option maxRecDepth 100000
theorem splitB_bys : ∀ (s : List Nat), Bys s → ∀ w ∈ splitB s, Bys w
  | [], _, w, hw => by
    rw [splitB, List.mem_singleton] at hw; subst hw
    exact fun x hx => nomatch hx
  | c :: r, h, w, hw => by
    have ih := splitB_bys r fun x hx => h x (List.mem_cons_of_mem _ hx)
    have hc := h c (List.mem_cons_self ..)
    rw [splitB] at hw
    split at hw
    · rcases List.mem_cons.1 hw with rfl | hw
      · exact fun x hx => nomatch hx
      · exact ih w hw
    · cases hs : splitB r with
      | nil =>
        rw [hs] at hw
        rw [List.mem_singleton] at hw; subst hw
        intro x hx
        rw [List.mem_singleton] at hx; rw [hx]; exact hc
      | cons v ws =>
        rw [hs] at hw ih
        rcases List.mem_cons.1 hw with rfl | hw
        · intro x hx
          rcases List.mem_cons.1 hx with rfl | hx
          · exact hc
          · exact ih v (List.mem_cons_self ..) x hx
        · exact ih w (List.mem_cons_of_mem _ hw)
theorem bys_nil : Bys ([] : List Nat) := fun _ hx => nomatch hx
theorem fill_bys {s : List Nat} (h : Bys s) (i : Nat) : Bys ((fillN s).getD i []) := by
  have hall : ∀ w ∈ fillN s, Bys w := fun w hw => by
    unfold fillN at hw
    rcases List.mem_append.1 hw with hw | hw
    · exact splitB_bys s h w hw
    · have hw := List.mem_of_mem_drop hw
      have hd : ∀ w ∈ dW, Bys w := by unfold dW Bys; decide
      exact hd w hw
  rw [List.getD_eq_getElem?_getD]
  cases hq : (fillN s)[i]? with
  | none => exact bys_nil
  | some w => exact hall w (List.mem_of_getElem? hq)
theorem atoiN_in {w : List Nat} {n : Int} (h : atoiN w = some n) : I64 n := by
  unfold atoiN at h
  generalize w.map UInt8.ofNat = l at h
  unfold Go.Lib.atoiAll at h
  cases l with
  | nil => cases h
  | cons c r =>
    dsimp only at h
    generalize Go.Lib.parseMag (if c.toNat = 43 ∨ c.toNat = 45 then r else c :: r) = q at h
    rcases q with u | _ | _
    · dsimp only at h
      by_cases h1 : ¬ c.toNat = 45 ∧ 9223372036854775808 ≤ u
      · rw [if_pos h1] at h; cases h
      · rw [if_neg h1] at h
        by_cases h2 : c.toNat = 45 ∧ 9223372036854775808 < u
        · rw [if_pos h2] at h; cases h
        · rw [if_neg h2] at h
          dsimp only at h
          by_cases h3 : c.toNat = 45
          · rw [if_pos h3] at h; cases h; exact ⟨by omega, by omega⟩
          · rw [if_neg h3] at h; cases h; exact ⟨by omega, by omega⟩
    · cases h
    · cases h
theorem unquoteP_bys {s b : List Nat} (hs : Bys s) (h : unquoteP s = some b) : Bys b := by
  unfold unquoteP at h
  split at h
  · cases h
  · refine (unP_spec _ _ b (Nat.le_refl _) h fun x hx => hs x ?_).2.2
    exact List.mem_of_mem_drop (List.dropLast_subset _ hx)
theorem evP_ok {s : List Nat} (hs : Bys s) {e : Ev} (h : evP s = some e) : e.ok := by
  unfold evP at h
  split at h
  · cases h
  · unfold evW at h
    cases h0 : atoiN ((fillN s).getD 0 []) with
    | none => rw [h0] at h; cases h
    | some a =>
    cases h1 : atoiN ((fillN s).getD 1 []) with
    | none => rw [h0, h1] at h; cases h
    | some b =>
    cases h2 : atoiN ((fillN s).getD 2 []) with
    | none => rw [h0, h1, h2] at h; cases h
    | some c =>
    cases h3 : atoiN ((fillN s).getD 3 []) with
    | none => rw [h0, h1, h2, h3] at h; cases h
    | some d =>
    cases h4 : atoiN ((fillN s).getD 4 []) with
    | none => rw [h0, h1, h2, h3, h4] at h; cases h
    | some f =>
    cases h5 : unquoteP ((fillN s).getD 5 []) with
    | none => rw [h0, h1, h2, h3, h4, h5] at h; cases h
    | some p =>
    cases h6 : unquoteP ((fillN s).getD 6 []) with
    | none => rw [h0, h1, h2, h3, h4, h5, h6] at h; cases h
    | some q =>
    cases h7 : unquoteP ((fillN s).getD 7 []) with
    | none => rw [h0, h1, h2, h3, h4, h5, h6, h7] at h; cases h
    | some r =>
      rw [h0, h1, h2, h3, h4, h5, h6, h7] at h
      cases h
      exact ⟨atoiN_in h0, atoiN_in h1, atoiN_in h2, atoiN_in h3, atoiN_in h4, unquoteP_bys (fill_bys hs 5) h5, unquoteP_bys (fill_bys hs 6) h6, unquoteP_bys (fill_bys hs 7) h7⟩
end Go.Proofs.YtmlddafbenfilaaDoor
/- The plain law of scripts: what was written is read, and what was read is written. -/
namespace Go.Proofs.YtmlddafbenfilaaDoor
open Go.Cam
set_option maxRecDepth 100000
/-- a text cut at its first newline -/
def cut10 : List Nat → List Nat × Option (List Nat)
  | [] => ([], none)
  | c :: r => if c = 10 then ([], some r) else (c :: (cut10 r).1, (cut10 r).2)
theorem cut10_line : ∀ (w r : List Nat), 10 ∉ w → cut10 (w ++ 10 :: r) = (w, some r)
  | [], r, _ => by rw [List.nil_append, cut10, if_pos rfl]
  | c :: w, r, h => by
    have hc : c ≠ 10 := fun e => h (by rw [e]; exact List.mem_cons_self ..)
    rw [List.cons_append, cut10, if_neg hc, cut10_line w r fun q => h (List.mem_cons_of_mem _ q)]
/-- an event's line, if it is one -/
def evF (w : List Nat) : Option Ev := (evP w).filter fun e => decide (lineN e = w)
theorem evF_line {e : Ev} (h : e.ok) : evF (lineN e) = some e := by
  unfold evF
  rw [evP_line e h]
  show (if decide (lineN e = lineN e) = true then some e else none) = _
  rw [if_pos (decide_eq_true rfl)]
def printN (l : List Ev) : List Nat := l.flatMap fun e => lineN e ++ [10]
def parseN (ev : List Nat → Option Ev) : Nat → List Nat → List Ev → Except Nat (List Ev)
  | _, [], acc => .ok acc
  | 0, _ :: _, acc => .error (acc.length + 1)
  | f + 1, c :: s, acc => match (cut10 (c :: s)).2 with
    | none => .error (acc.length + 1)
    | some r => match ev (cut10 (c :: s)).1 with
      | none => .error (acc.length + 1)
      | some e => parseN ev f r (acc ++ [e])
theorem itoa_no10 (n : Int) : 10 ∉ itoaN n := by
  unfold itoaN Go.Lib.itoa
  intro h
  obtain ⟨c, hc, he⟩ := List.mem_map.1 h
  split at hc
  · rcases List.mem_cons.1 hc with rfl | hc
    · exact absurd he (by decide)
    · have := dec_digit _ _ (Nat.le_refl _) c hc; omega
  · have := dec_digit _ _ (Nat.le_refl _) c hc; omega
theorem quote_no10 (b : List Nat) : 10 ∉ quoteN b := by
  unfold quoteN
  intro h
  rcases List.mem_cons.1 h with h | h
  · omega
  · rcases List.mem_append.1 h with h | h
    · obtain ⟨c, _, hc⟩ := List.mem_flatMap.1 h
      unfold q1 at hc
      split at hc
      · rename_i hi
        rw [List.mem_singleton] at hc
        subst hc
        exact absurd hi (by decide)
      · have h1 := hexN_ge (c / 16)
        have h2 := hexN_ge (c % 16)
        simp only [List.mem_cons, List.not_mem_nil, or_false] at hc
        omega
    · rw [List.mem_singleton] at h; omega
theorem joinB_no10 : ∀ (ws : List (List Nat)), (∀ w ∈ ws, 10 ∉ w) → 10 ∉ joinB ws
  | [], _ => fun h => nomatch h
  | [w], h => h w (List.mem_cons_self ..)
  | w :: v :: ws, h => by
    show 10 ∉ w ++ 32 :: joinB (v :: ws)
    intro q
    rcases List.mem_append.1 q with q | q
    · exact h w (List.mem_cons_self ..) q
    · rcases List.mem_cons.1 q with q | q
      · omega
      · exact joinB_no10 (v :: ws) (fun x hx => h x (List.mem_cons_of_mem _ hx)) q
theorem line_no10 (e : Ev) : 10 ∉ lineN e := by
  refine joinB_no10 _ fun w hw => ?_
  have hw := List.mem_of_mem_take hw
  unfold wordsN at hw
  simp only [List.mem_cons, List.not_mem_nil, or_false] at hw
  rcases hw with rfl | rfl | rfl | rfl | rfl | rfl | rfl | rfl
  · exact itoa_no10 _
  · exact itoa_no10 _
  · exact itoa_no10 _
  · exact itoa_no10 _
  · exact itoa_no10 _
  · exact quote_no10 _
  · exact quote_no10 _
  · exact quote_no10 _
/-- what was written is read as it was -/
theorem parse_print : ∀ (l : List Ev) (f : Nat) (acc : List Ev), (∀ e ∈ l, e.ok) → (printN l).length ≤ f → parseN evF f (printN l) acc = .ok (acc ++ l)
  | [], f, acc, _, _ => by
    show parseN evF f [] acc = _
    rw [parseN, List.append_nil]
  | e :: l, f, acc, h, hf => by
    have e1 : printN (e :: l) = lineN e ++ 10 :: printN l := by
      show (lineN e ++ [10]) ++ printN l = _
      rw [List.append_assoc]; rfl
    rw [e1] at hf ⊢
    rw [List.length_append, List.length_cons] at hf
    have hc := cut10_line (lineN e) (printN l) (line_no10 e)
    match f, hf with
    | f + 1, hf =>
      have ih := parse_print l f (acc ++ [e]) (fun x hx => h x (List.mem_cons_of_mem _ hx)) (by omega)
      cases hs : lineN e ++ 10 :: printN l with
      | nil => exact absurd hs (by simp)
      | cons c s =>
        rw [hs] at hc
        rw [parseN, hc]
        dsimp only
        rw [evF_line (h e (List.mem_cons_self ..))]
        dsimp only
        rw [ih, List.append_assoc]; rfl
    | 0, hf => omega
end Go.Proofs.YtmlddafbenfilaaDoor
