/- The program's Unquote. -/
import Derived.Test.YtmlddafbenfilaaDoorDskL
import Derived.Test.YtmlddafbenfilaaDoorDskA
namespace Go.Proofs.YtmlddafbenfilaaDoor
open Go.Cam
set_option maxRecDepth 100000
def hexV : Option Nat → Int
  | some a => (a : Int)
  | none => -1
theorem idx_hex {c : Nat} : idxN [48, 49, 50, 51, 52, 53, 54, 55, 56, 57, 97, 98, 99, 100, 101, 102] c = hexV (hexI c) := by
  by_cases h : c < 103
  · have : ∀ c : Fin 103, idxN [48, 49, 50, 51, 52, 53, 54, 55, 56, 57, 97, 98, 99, 100, 101, 102] c.val = hexV (hexI c.val) := by decide
    exact this ⟨c, h⟩
  · have h2 : hexI c = none := by unfold hexI; rw [if_neg (by omega), if_neg (by omega)]
    rw [h2]
    have : ∀ (l : List Nat), (∀ x ∈ l, x < 103) → idxN l c = -1 := by
      intro l
      induction l with
      | nil => intro _; rfl
      | cons x l ih =>
        intro hx
        have := hx x (List.mem_cons_self ..)
        rw [idxN, if_neg (by omega), ih fun y hy => hx y (List.mem_cons_of_mem _ hy)]; rfl
    exact this _ (by intro x hx; simp at hx; omega)
def errN {α : Type} (o : Option α) : Int := if o.isSome then 0 else 240
theorem inner_is (s : List Nat) : (s.take (s.length - 1)).drop 1 = (s.drop 1).dropLast := by
  rw [List.dropLast_eq_take, List.length_drop, List.drop_take]
theorem head_is (s : List Nat) (h : 0 < s.length) : s.head? = some (s.getD 0 0) := by
  cases s with
  | nil => exact absurd h (by decide)
  | cons a r => rfl
theorem last_is (s : List Nat) (h : 0 < s.length) : s.getLast? = some (s.getD (s.length - 1) 0) := by
  rw [List.getLast?_eq_getElem?, List.getElem?_eq_getElem (by omega), List.getD_eq_getElem?_getD, List.getElem?_eq_getElem (by omega)]; rfl
theorem or_hex {a b : Nat} (ha : a < 16) (hb : b < 16) : IntKind.i64.wrap (((BitVec.ofInt IntKind.i64.bits (IntKind.i64.wrap ((a : Int) * 2 ^ 4)) ||| BitVec.ofInt IntKind.i64.bits (b : Int)).toNat : Nat) : Int) = ((16 * a + b : Nat) : Int) := by
  have h : ∀ (a b : Fin 16), IntKind.i64.wrap (((BitVec.ofInt IntKind.i64.bits (IntKind.i64.wrap (((a.val : Nat) : Int) * 2 ^ 4)) ||| BitVec.ofInt IntKind.i64.bits ((b.val : Nat) : Int)).toNat : Nat) : Int) = ((16 * a.val + b.val : Nat) : Int) := by decide +kernel
  exact h ⟨a, ha⟩ ⟨b, hb⟩
theorem emp_bys : Bys [] := fun c hc => nomatch hc
/-- what an Unquote answers -/
def UnqP (o : Option (List Nat)) (v : Value) (Bs : List HP) : Prop := ∃ a c x, x = o.getD [] ∧ v = .tuple #[.slice a x.length c, .int .i64 (errN o)] ∧ Bs = [SA (some 5) 1 (.slice a x.length c) x.length (byR x)]
set_option maxHeartbeats 16000000 in
theorem unquote_c (s : List Nat) (hs : Bys s) (hl : s.length ≤ 1000000) : Ctr Tryd.prog 8 [.string (strB s)] [] (UnqP (unquoteP s)) := by
  have hb0 : Bys [] := emp_bys
  refine s_enter 79 [(0, _)] (fun F => [F]) Tryd.func8 fun F => ?_
  refine s_new0 (e := 5) (sz := 1) (row := byR []) (s_open (B := SA (some 5) 1 (.slice none ([] : List Nat).length 0) ([] : List Nat).length (byR [])) (fun _ _ h => h) ?_)
  refine gs_ ?_
  cases h0 : decide (((s.length : Int) - 1) < 1) with
  | true =>
    have h1 := of_decide_eq_true h0
    have e : unquoteP s = none := by unfold unquoteP; rw [if_pos (.inl (by omega))]
    rw [e]
    refine gs_ ?_
    exact s_rett (rs := [.tmp 2, .tmp 3]) (vs := [_, _]) Tryd.func8 rfl (by intro j; refine RVS.tmp _ rfl ?_; refine RVS.tmp _ rfl ?_; exact RVS.nil) rfl (⟨none, 0, [], rfl, rfl, rfl⟩) ent_
  | false =>
    have h1 := of_decide_eq_false h0
    have hl2 : 2 ≤ s.length := by omega
    have hg0 : 0 < s.length := by omega
    have hg1 : s.length - 1 < s.length := by omega
    rw [show ((s.length : Int) - 1) = ((s.length - 1 : Nat) : Int) by omega]
    refine gs_ ?_
    refine s_look (lk_sidx (i := 0) hs hg0) ?_
    refine gs_ ?_
    cases h2 : (((s.getD 0 0 : Nat) : Int) != 34) with
    | true =>
      have h3 : s.getD 0 0 ≠ 34 := fun e => by rw [e] at h2; exact absurd h2 (by decide)
      have e : unquoteP s = none := by unfold unquoteP; rw [if_pos (.inr (.inl (by rw [head_is s hg0]; simp; simpa using h3)))]
      rw [e]
      refine gs_ ?_
      exact s_rett (rs := [.tmp 2, .tmp 3]) (vs := [_, _]) Tryd.func8 rfl (by intro j; refine RVS.tmp _ rfl ?_; refine RVS.tmp _ rfl ?_; exact RVS.nil) rfl (⟨none, 0, [], rfl, rfl, rfl⟩) ent_
    | false =>
      have h3 : s.getD 0 0 = 34 := by have := (bne_eq_false_iff_eq.1 h2); omega
      refine gs_ ?_
      refine s_look (lk_sidx (i := s.length - 1) hs hg1) ?_
      refine gs_ ?_
      cases h4 : (((s.getD (s.length - 1) 0 : Nat) : Int) != 34) with
      | true =>
        have h5 : s.getD (s.length - 1) 0 ≠ 34 := fun e => by rw [e] at h4; exact absurd h4 (by decide)
        have e : unquoteP s = none := by unfold unquoteP; rw [if_pos (.inr (.inr (by rw [last_is s hg0]; simp; simpa using h5)))]
        rw [e]
        refine gs_ ?_
        exact s_rett (rs := [.tmp 2, .tmp 3]) (vs := [_, _]) Tryd.func8 rfl (by intro j; refine RVS.tmp _ rfl ?_; refine RVS.tmp _ rfl ?_; exact RVS.nil) rfl (⟨none, 0, [], rfl, rfl, rfl⟩) ent_
      | false =>
        have h5 : s.getD (s.length - 1) 0 = 34 := by have := (bne_eq_false_iff_eq.1 h4); omega
        have e : unquoteP s = unP ((s.drop 1).dropLast) := by
          unfold unquoteP; rw [if_neg]
          rintro (h | h | h)
          · omega
          · rw [head_is s hg0, h3] at h; exact h rfl
          · rw [last_is s hg0, h5] at h; exact h rfl
        rw [e]
        refine gs_ ?_
        refine s_look (lk_ssl 1 (s.length - 1) (s := s) (by omega) (by omega)) ?_
        rw [inner_is s]
        have hlen : ((s.drop 1).dropLast).length ≤ 1000000 := by rw [List.length_dropLast, List.length_drop]; omega
        have hbs : Bys ((s.drop 1).dropLast) := fun x hx => hs x (List.mem_of_mem_drop (List.dropLast_subset _ hx))
        generalize (s.drop 1).dropLast = inn at hlen hbs
        refine gs_ ?_
        refine s_loop (fun y : List Nat × List Nat × Option Addr × Nat => [(5, .slice y.2.2.1 y.2.1.length y.2.2.2), (6, .string (strB y.1))]) (fun y => [SA (some 5) 1 (.slice y.2.2.1 y.2.1.length y.2.2.2) y.2.1.length (byR y.2.1), F]) (fun y => Bys y.1 ∧ y.2.1.length + y.1.length ≤ 1000000 ∧ unP inn = (unP y.1).map (y.2.1 ++ ·)) (fun y => y.1.length) (inn, [], none, 0) ⟨hbs, by simpa using hlen, by cases unP inn <;> rfl⟩ ent_ ?_
        rintro ⟨rest, out, a, c⟩ ⟨hr, hrl, hu⟩ next
        dsimp only at hr hrl hu
        show RunS _ _ _ _ _ [(5, .slice a out.length c), (6, .string (strB rest))] [SA (some 5) 1 (.slice a out.length c) out.length (byR out), F]
        refine gs_ ?_
        rw [show ((strB rest).toList == (ByteArray.mk #[]).toList) = decide (rest = []) from strB_beq hr hb0]
        cases rest with
        | nil =>
          refine gt_ ?_
          have e2 : unP inn = some out := by rw [hu, unP]; simp
          rw [e2]
          exact s_rett (rs := [.tmp 2, .tmp 3]) (vs := [_, _]) Tryd.func8 rfl (by intro j; refine RVS.tmp _ rfl ?_; refine RVS.tmp _ rfl ?_; exact RVS.nil) rfl (⟨a, c, out, rfl, rfl, rfl⟩) ent_
        | cons h r =>
          have hh : h < 256 := hr h (List.mem_cons_self ..)
          have hrr : Bys r := fun x hx => hr x (List.mem_cons_of_mem _ hx)
          have hd : (!decide (h :: r = [])) = true := by simp
          have hz : 0 < (h :: r).length := Nat.succ_pos _
          rw [List.length_cons] at hrl
          rw [hd]
          refine gt_ ?_
          rw [List.getD_cons_zero]
          refine gt_ ?_
          refine s_call (sp := spl_) (hs := itself_c h hh) (h := ?_)
          rintro v Bs ⟨rfl, rfl⟩
          cases hit : itselfN h with
          | true =>
            have hu2 : unP inn = (unP r).map (out ++ [h] ++ ·) := by
              rw [hu, unP_cons, if_pos hit]; cases unP r <;> simp
            refine gt_ ?_
            refine s_drawN 1 [.q 0, .q 1, .q 4, .q 5, .s 2, .s 3, .q 6, .q 7] ?_
            refine dt_ ?_
            refine d_look rfl (lk_ssl 1 (h :: r).length (s := h :: r) (by rw [List.length_cons]; omega) (Nat.le_refl _)) ?_
            rw [show ((h :: r).take (h :: r).length).drop 1 = r by rw [List.take_length]; rfl]
            refine dt_ ?_
            refine d_step rfl (st_bs1 (sz := 1) (cells := [.int .u8 (h : Int)]) rfl) ?_
            rintro v Bs ⟨a2, rfl, rfl⟩
            refine d_open (SA.cg (byR [h]) fun q hq => by rw [show q = 0 by omega]; rfl) ?_
            refine d_step rfl (st_appB (a := a) (b := a2) (x := out) (y := [h]) (cap := c) (c := 1) sel_ (by repeat (first | with_reducible exact SelR.here | with_reducible apply SelR.there)) (by simp only [List.length_singleton]; omega)) ?_
            rintro v Bs ⟨a3, c3, rfl, rfl⟩
            refine dt_ ?_
            refine gt_ ?_
            exact s_entF ent_ (s_keep _ (next (r, out ++ [h], a3, c3) ⟨hrr, by simp only [List.length_append, List.length_singleton]; omega, hu2⟩ (by show r.length < (h :: r).length; simp)))
          | false =>
            refine gt_ ?_
            cases h6 : ((h : Int) != 37) with
            | true =>
              have h7 : h ≠ 37 := fun e => by rw [e] at h6; exact absurd h6 (by decide)
              have e : unP inn = none := by rw [hu, unP_cons, if_neg (by rw [hit]; decide), if_pos h7]; rfl
              rw [e]
              refine gt_ ?_
              refine s_drop sel_ (s_new0 (e := 5) (sz := 1) (row := byR []) (s_open (B := SA (some 5) 1 (.slice none ([] : List Nat).length 0) ([] : List Nat).length (byR [])) (fun _ _ h => h) ?_))
              exact s_rett (rs := [.tmp 2, .tmp 3]) (vs := [_, _]) Tryd.func8 rfl (by intro j; refine RVS.tmp _ rfl ?_; refine RVS.tmp _ rfl ?_; exact RVS.nil) rfl (⟨none, 0, [], rfl, rfl, rfl⟩) ent_
            | false =>
              have h7 : h = 37 := by have := (bne_eq_false_iff_eq.1 h6); omega
              subst h7
              refine gt_ ?_
              rw [List.length_cons]
              cases h8 : decide (((r.length + 1 : Nat) : Int) < 3) with
              | true =>
                have h9 := of_decide_eq_true h8
                have e : unP inn = none := by
                  rw [hu, unP_cons, if_neg (by rw [not37]; decide), if_neg (by decide)]
                  match r, h9 with
                  | [], _ => rfl
                  | [_], _ => rfl
                  | _ :: _ :: _, h9 => simp only [List.length_cons] at h9; omega
                rw [e]
                refine gt_ ?_
                refine s_drop sel_ (s_new0 (e := 5) (sz := 1) (row := byR []) (s_open (B := SA (some 5) 1 (.slice none ([] : List Nat).length 0) ([] : List Nat).length (byR [])) (fun _ _ h => h) ?_))
                exact s_rett (rs := [.tmp 2, .tmp 3]) (vs := [_, _]) Tryd.func8 rfl (by intro j; refine RVS.tmp _ rfl ?_; refine RVS.tmp _ rfl ?_; exact RVS.nil) rfl (⟨none, 0, [], rfl, rfl, rfl⟩) ent_
              | false =>
                have h9 := of_decide_eq_false h8
                refine gt_ ?_
                match r, h9, hrl, hr, hrr, hu, next, hd, hz with
                | [], h9, _, _, _, _, _, _, _ => exact absurd h9 (by decide)
                | [_], h9, _, _, _, _, _, _, _ => exact absurd h9 (by simp only [List.length_cons, List.length_nil]; omega)
                | p :: q :: r', h9, hrl, hr, hrr, hu, next, hd, hz =>
                  have hp : p < 256 := hrr p (List.mem_cons_self ..)
                  have hq : q < 256 := hrr q (List.mem_cons_of_mem _ (List.mem_cons_self ..))
                  have hi1 : 1 < (37 :: p :: q :: r').length := by simp
                  have hi2 : 2 < (37 :: p :: q :: r').length := by simp
                  have hr' : Bys r' := fun x hx => hrr x (List.mem_cons_of_mem _ (List.mem_cons_of_mem _ hx))
                  have hbad : (hexI p = none ∨ hexI q = none ∨ ∃ x y, hexI p = some x ∧ hexI q = some y ∧ itselfN (16 * x + y) = true) → unP inn = none := fun h => by
                    rw [hu, unP_cons, if_neg (by rw [not37]; decide), if_neg (by decide)]
                    dsimp only
                    rcases h with h | h | ⟨x, y, h, h2, h3⟩
                    · rw [h]; rfl
                    · rw [h]; cases hexI p <;> rfl
                    · rw [h, h2]; dsimp only; rw [if_pos h3]; rfl
                  refine s_drawN 0 [.q 0, .q 1, .q 3, .q 4, .s 2, .s 5, .q 6, .q 7] ?_
                  refine dt_ ?_
                  rw [show (37 :: p :: q :: r').getD 2 0 = q from rfl, show (37 :: p :: q :: r').getD 1 0 = p from rfl]
                  refine d_step rfl (st_call (sp := spl_) (hs := idx_c [48, 49, 50, 51, 52, 53, 54, 55, 56, 57, 97, 98, 99, 100, 101, 102] p hexs hp)) ?_
                  rintro v Bs ⟨Cs, ⟨rfl, rfl⟩, rfl⟩
                  refine dt_ ?_
                  refine d_step rfl (st_call (sp := spl_) (hs := idx_c [48, 49, 50, 51, 52, 53, 54, 55, 56, 57, 97, 98, 99, 100, 101, 102] q hexs hq)) ?_
                  rintro v Bs ⟨Cs, ⟨rfl, rfl⟩, rfl⟩
                  rw [idx_hex, idx_hex]
                  refine dt_ ?_
                  cases h10 : hexI p with
                  | none =>
                    rw [hbad (.inl h10)]
                    refine gt_ ?_
                    refine s_drop sel_ (s_new0 (e := 5) (sz := 1) (row := byR []) (s_open (B := SA (some 5) 1 (.slice none ([] : List Nat).length 0) ([] : List Nat).length (byR [])) (fun _ _ h => h) ?_))
                    exact s_rett (rs := [.tmp 2, .tmp 3]) (vs := [_, _]) Tryd.func8 rfl (by intro j; refine RVS.tmp _ rfl ?_; refine RVS.tmp _ rfl ?_; exact RVS.nil) rfl (⟨none, 0, [], rfl, rfl, rfl⟩) ent_
                  | some x =>
                    have hx := hexI_lt h10
                    rw [show hexV (some x) = (x : Int) from rfl]
                    refine gt_ ?_
                    cases h11 : decide ((x : Int) < 0) with
                    | true => exact absurd (of_decide_eq_true h11) (by omega)
                    | false =>
                      refine gt_ ?_
                      cases h12 : hexI q with
                      | none =>
                        rw [hbad (.inr (.inl h12))]
                        refine gt_ ?_
                        refine s_drop sel_ (s_new0 (e := 5) (sz := 1) (row := byR []) (s_open (B := SA (some 5) 1 (.slice none ([] : List Nat).length 0) ([] : List Nat).length (byR [])) (fun _ _ h => h) ?_))
                        exact s_rett (rs := [.tmp 2, .tmp 3]) (vs := [_, _]) Tryd.func8 rfl (by intro j; refine RVS.tmp _ rfl ?_; refine RVS.tmp _ rfl ?_; exact RVS.nil) rfl (⟨none, 0, [], rfl, rfl, rfl⟩) ent_
                      | some y =>
                        have hy := hexI_lt h12
                        rw [show hexV (some y) = (y : Int) from rfl]
                        refine gt_ ?_
                        cases h13 : decide ((y : Int) < 0) with
                        | true => exact absurd (of_decide_eq_true h13) (by omega)
                        | false =>
                          refine gt_ ?_
                          have hv : 16 * x + y < 256 := by omega
                          rw [show IntKind.i64.wrap (((BitVec.ofInt IntKind.i64.bits (IntKind.i64.wrap ((x : Int) * 2 ^ min (Int.toNat 4) IntKind.i64.bits)) ||| BitVec.ofInt IntKind.i64.bits (y : Int)).toNat : Nat) : Int) = ((16 * x + y : Nat) : Int) from or_hex hx hy, show IntKind.u8.wrap ((16 * x + y : Nat) : Int) = ((16 * x + y : Nat) : Int) by rw [wrap_u8, Nat.mod_eq_of_lt hv]]
                          refine gt_ ?_
                          refine s_call (sp := spl_) (hs := itself_c (16 * x + y) hv) (h := ?_)
                          rintro v Bs ⟨rfl, rfl⟩
                          cases hit2 : itselfN (16 * x + y) with
                          | true =>
                            rw [hbad (.inr (.inr ⟨x, y, h10, h12, hit2⟩))]
                            refine gt_ ?_
                            refine s_drop sel_ (s_new0 (e := 5) (sz := 1) (row := byR []) (s_open (B := SA (some 5) 1 (.slice none ([] : List Nat).length 0) ([] : List Nat).length (byR [])) (fun _ _ h => h) ?_))
                            exact s_rett (rs := [.tmp 2, .tmp 3]) (vs := [_, _]) Tryd.func8 rfl (by intro j; refine RVS.tmp _ rfl ?_; refine RVS.tmp _ rfl ?_; exact RVS.nil) rfl (⟨none, 0, [], rfl, rfl, rfl⟩) ent_
                          | false =>
                            have hu2 : unP inn = (unP r').map (out ++ [16 * x + y] ++ ·) := by
                              rw [hu, unP_cons, if_neg (by rw [not37]; decide), if_neg (by decide)]
                              dsimp only
                              rw [h10, h12]
                              dsimp only
                              rw [if_neg (by rw [hit2]; decide)]
                              cases unP r' <;> simp
                            simp only [List.length_cons] at hrl
                            refine gt_ ?_
                            refine s_drawN 1 [.q 0, .q 1, .q 2, .q 3, .q 4, .q 5, .q 8, .q 9, .s 6, .s 7, .q 10, .q 11] ?_
                            refine dt_ ?_
                            rw [show IntKind.i64.wrap (((BitVec.ofInt IntKind.i64.bits (IntKind.i64.wrap ((x : Int) * 2 ^ min (Int.toNat 4) IntKind.i64.bits)) ||| BitVec.ofInt IntKind.i64.bits (y : Int)).toNat : Nat) : Int) = ((16 * x + y : Nat) : Int) from or_hex hx hy, show IntKind.u8.wrap ((16 * x + y : Nat) : Int) = ((16 * x + y : Nat) : Int) by rw [wrap_u8, Nat.mod_eq_of_lt hv]]
                            refine d_look rfl (lk_ssl 3 (37 :: p :: q :: r').length (s := 37 :: p :: q :: r') (by simp only [List.length_cons]; omega) (Nat.le_refl _)) ?_
                            rw [show ((37 :: p :: q :: r').take (37 :: p :: q :: r').length).drop 3 = r' by rw [List.take_length]; rfl]
                            refine d_step rfl (st_bs1 (sz := 1) (cells := [.int .u8 ((16 * x + y : Nat) : Int)]) rfl) ?_
                            rintro v Bs ⟨a2, rfl, rfl⟩
                            refine d_open (SA.cg (byR [16 * x + y]) fun q hq => by rw [show q = 0 by omega]; rfl) ?_
                            refine d_step rfl (st_appB (a := a) (b := a2) (x := out) (y := [16 * x + y]) (cap := c) (c := 1) sel_ (by repeat (first | with_reducible exact SelR.here | with_reducible apply SelR.there)) (by simp only [List.length_singleton]; omega)) ?_
                            rintro v Bs ⟨a3, c3, rfl, rfl⟩
                            refine dt_ ?_
                            refine gt_ ?_
                            exact s_entF ent_ (s_keep _ (next (r', out ++ [16 * x + y], a3, c3) ⟨hr', by simp only [List.length_append, List.length_singleton]; omega, hu2⟩ (by show r'.length < (37 :: p :: q :: r').length; simp only [List.length_cons]; omega)))
end Go.Proofs.YtmlddafbenfilaaDoor
/- The document's Unquote. -/
namespace Go.Proofs.YtmlddafbenfilaaDoor
open Go.Cam
set_option maxRecDepth 100000
theorem decR_one {c : Nat} {r : List Nat} (h : ¬ (c = 37 ∧ 2 ≤ r.length)) : decR (c :: r) = c :: decR r := by
  rw [decR_cons]
  by_cases hc : c = 37
  · rw [if_pos hc]
    match r, h with
    | [], _ => rw [decR]
    | [x], _ =>
      dsimp only
      rw [decR_cons]
      split
      · rfl
      · rw [decR]
    | _ :: _ :: _, h => exact absurd ⟨hc, by simp⟩ h
  · rw [if_neg hc]
theorem decR_two {h l : Nat} {r : List Nat} : decR (37 :: h :: l :: r) = (16 * (hexI h).getD 0 + (hexI l).getD 0) :: decR r := by
  rw [decR_cons, if_pos rfl]
  dsimp only
  have h1 : (hexI h).getD 0 < 16 := by cases e : hexI h with
    | none => decide
    | some a => exact hexI_lt e
  have h2 : (hexI l).getD 0 < 16 := by cases e : hexI l with
    | none => decide
    | some a => exact hexI_lt e
  rw [Nat.mod_eq_of_lt (by omega)]
theorem drop_cons {x : List Nat} {i : Nat} (h : i < x.length) : x.drop i = x.getD i 0 :: x.drop (i + 1) := by
  rw [List.drop_eq_getElem_cons h, List.getD_eq_getElem?_getD, List.getElem?_eq_getElem h]; rfl
theorem hexd_lt (c : Nat) : (hexI c).getD 0 < 16 := by
  cases e : hexI c with
  | none => decide
  | some a => exact hexI_lt e
theorem wrap_two {x y : Nat} (hx : x < 16) (hy : y < 16) : IntKind.u8.wrap (IntKind.u8.wrap (16 * (x : Int)) + (y : Int)) = ((16 * x + y : Nat) : Int) := by
  rw [show (16 * (x : Int)) = ((16 * x : Nat) : Int) by omega, wrap_u8, Nat.mod_eq_of_lt (by omega), show (((16 * x : Nat) : Int) + (y : Int)) = ((16 * x + y : Nat) : Int) by omega, wrap_u8, Nat.mod_eq_of_lt (by omega)]
set_option maxHeartbeats 16000000 in
theorem runquote_c (s : List Nat) (hs : Bys s) (hl : s.length ≤ 1000000) : Ctr Tryd.prog 9 [.string (strB s)] [] (UnqP (unquoteR s)) := by
  refine s_enter 61 [(0, _)] (fun F => [F]) Tryd.func9 fun F => ?_
  refine gt_ ?_
  cases h0 : decide ((s.length : Int) < 2) with
  | true =>
    have h1 := of_decide_eq_true h0
    have e : unquoteR s = none := by unfold unquoteR; rw [if_pos (by omega)]
    rw [e]
    refine gt_ ?_
    refine s_new0 (e := 5) (sz := 1) (row := byR []) (s_open (B := SA (some 5) 1 (.slice none ([] : List Nat).length 0) ([] : List Nat).length (byR [])) (fun _ _ h => h) ?_)
    exact s_rett (rs := [.tmp 2, .tmp 3]) (vs := [_, _]) Tryd.func9 rfl (by intro j; refine RVS.tmp _ rfl ?_; refine RVS.tmp _ rfl ?_; exact RVS.nil) rfl (⟨none, 0, [], rfl, rfl, rfl⟩) ent_
  | false =>
    have h1 := of_decide_eq_false h0
    have hl2 : 2 ≤ s.length := by omega
    refine gt_ ?_
    rw [show ((s.length : Int) - 1) = ((s.length - 1 : Nat) : Int) by omega]
    refine s_look (lk_ssl 1 (s.length - 1) (s := s) (by omega) (by omega)) ?_
    rw [inner_is s]
    have e : unquoteR s = if quoteN (decR ((s.drop 1).dropLast)) = s then some (decR ((s.drop 1).dropLast)) else none := by unfold unquoteR; rw [if_neg (by omega)]
    rw [e]
    have hlen : ((s.drop 1).dropLast).length ≤ 1000000 := by rw [List.length_dropLast, List.length_drop]; omega
    have hbs : Bys ((s.drop 1).dropLast) := fun x hx => hs x (List.mem_of_mem_drop (List.dropLast_subset _ hx))
    generalize (s.drop 1).dropLast = inn at hlen hbs
    refine gt_ ?_
    refine s_bs0 (sz := 1) (row := byR []) fun a0 => ?_
    refine s_open (B := SA (some 5) 1 (.slice a0 ([] : List Nat).length 0) ([] : List Nat).length (byR [])) (fun _ _ h => h) ?_
    refine gt_ ?_
    refine s_loop (fun y : Nat × List Nat × Option Addr × Nat => [(0, .string (strB s)), (4, .string (strB inn)), (5, .slice y.2.2.1 y.2.1.length y.2.2.2), (6, .int .i64 (y.1 : Int))]) (fun y => [SA (some 5) 1 (.slice y.2.2.1 y.2.1.length y.2.2.2) y.2.1.length (byR y.2.1), F]) (fun y => Bys y.2.1 ∧ y.2.1.length ≤ y.1 ∧ y.1 ≤ inn.length ∧ decR inn = y.2.1 ++ decR (inn.drop y.1)) (fun y => inn.length - y.1) (0, [], a0, 0) ⟨emp_bys, Nat.le_refl _, Nat.zero_le _, rfl⟩ ent_ ?_
    rintro ⟨i, out, a, c⟩ ⟨ho, hol, hi, hd⟩ next
    dsimp only at ho hol hi hd
    show RunS _ _ _ _ _ [(0, .string (strB s)), (4, .string (strB inn)), (5, .slice a out.length c), (6, .int .i64 (i : Int))] [SA (some 5) 1 (.slice a out.length c) out.length (byR out), F]
    refine gt_ ?_
    refine s_if (fun h => ?_) (fun h => ?_)
    · have hi2 : i < inn.length := by omega
      have hcc := getD_lt hbs i
      rw [drop_cons hi2] at hd
      refine gt_ ?_
      generalize hcx : inn.getD i 0 = cc at hcc hd
      cases h37 : ((cc : Int) == 37) with
      | false =>
        have hne : cc ≠ 37 := fun e => by rw [e] at h37; exact absurd h37 (by decide)
        rw [decR_one (fun h => hne h.1)] at hd
        refine gt_ ?_
        rw [hcx]
        refine s_step (st_bs1 (sz := 1) (cells := [.int .u8 ((cc : Nat) : Int)]) rfl) ?_
        rintro v Bs ⟨a2, rfl, rfl⟩
        refine s_open (SA.cg (byR [cc]) fun q hq => by rw [show q = 0 by omega]; rfl) ?_
        refine s_step (st_appB (a := a) (b := a2) (x := out) (y := [cc]) (cap := c) (c := 1) sel_ (by repeat (first | with_reducible exact SelR.here | with_reducible apply SelR.there)) (by simp only [List.length_singleton]; omega)) ?_
        rintro v Bs ⟨a3, c3, rfl, rfl⟩
        refine gt_ ?_
        exact s_entF ent_ (s_keep _ (next (i + 1, out ++ [cc], a3, c3) ⟨fun x hx => (List.mem_append.1 hx).elim (ho x) (fun h => by rw [List.mem_singleton] at h; omega), by simp only [List.length_append, List.length_singleton]; omega, hi2, by rw [hd, List.append_assoc]; rfl⟩ (by show inn.length - (i + 1) < inn.length - i; omega)))
      | true =>
        have he : cc = 37 := by have := eq_of_beq h37; omega
        subst he
        refine gt_ ?_
        rw [show ((inn.length : Int) - (i : Int)) = ((inn.length - i : Nat) : Int) by omega]
        cases h2 : decide (((inn.length - i : Nat) : Int) > 2) with
        | false =>
          have h3 := of_decide_eq_false h2
          rw [decR_one (fun h => by have := h.2; rw [List.length_drop] at this; omega)] at hd
          refine gt_ ?_
          rw [hcx]
          refine s_step (st_bs1 (sz := 1) (cells := [.int .u8 ((37 : Nat) : Int)]) rfl) ?_
          rintro v Bs ⟨a2, rfl, rfl⟩
          refine s_open (SA.cg (byR [37]) fun q hq => by rw [show q = 0 by omega]; rfl) ?_
          refine s_step (st_appB (a := a) (b := a2) (x := out) (y := [37]) (cap := c) (c := 1) sel_ (by repeat (first | with_reducible exact SelR.here | with_reducible apply SelR.there)) (by simp only [List.length_singleton]; omega)) ?_
          rintro v Bs ⟨a3, c3, rfl, rfl⟩
          refine gt_ ?_
          exact s_entF ent_ (s_keep _ (next (i + 1, out ++ [37], a3, c3) ⟨fun x hx => (List.mem_append.1 hx).elim (ho x) (fun h => by rw [List.mem_singleton] at h; omega), by simp only [List.length_append, List.length_singleton]; omega, hi2, by rw [hd, List.append_assoc]; rfl⟩ (by show inn.length - (i + 1) < inn.length - i; omega)))
        | true =>
          have h3 := of_decide_eq_true h2
          have hi3 : i + 1 < inn.length := by omega
          have hi4 : i + 2 < inn.length := by omega
          rw [drop_cons hi3, drop_cons hi4, decR_two] at hd
          have hp := getD_lt hbs (i + 1)
          have hq := getD_lt hbs (i + 2)
          have hd1 := hexd_lt (inn.getD (i + 1) 0)
          have hd2 := hexd_lt (inn.getD (i + 2) 0)
          generalize hxx : (hexI (inn.getD (i + 1) 0)).getD 0 = x1 at hd hd1
          generalize hyy : (hexI (inn.getD (i + 2) 0)).getD 0 = x2 at hd hd2
          refine gt_ ?_
          refine s_drawN 1 [.q 0, .q 1, .q 2, .q 3, .q 4, .q 7, .q 8, .q 9, .q 10, .s 5, .q 6, .s 11, .q 12, .s 13, .s 14, .q 15] ?_
          refine dt_ ?_
          refine d_step rfl (st_call (sp := spl_) (hs := digit_c (inn.getD (i + 1) 0))) ?_
          rintro v Bs ⟨Cs, ⟨rfl, rfl⟩, rfl⟩
          rw [hxx]
          refine dt_ ?_
          refine d_step rfl (st_call (sp := spl_) (hs := digit_c (inn.getD (i + 2) 0))) ?_
          rintro v Bs ⟨Cs, ⟨rfl, rfl⟩, rfl⟩
          rw [hyy]
          refine dt_ ?_
          rw [wrap_two hd1 hd2]
          refine d_step rfl (st_bs1 (sz := 1) (cells := [.int .u8 ((16 * x1 + x2 : Nat) : Int)]) rfl) ?_
          rintro v Bs ⟨a2, rfl, rfl⟩
          refine d_open (SA.cg (byR [16 * x1 + x2]) fun q hq => by rw [show q = 0 by omega]; rfl) ?_
          refine d_step rfl (st_appB (a := a) (b := a2) (x := out) (y := [16 * x1 + x2]) (cap := c) (c := 1) sel_ (by repeat (first | with_reducible exact SelR.here | with_reducible apply SelR.there)) (by simp only [List.length_singleton]; omega)) ?_
          rintro v Bs ⟨a3, c3, rfl, rfl⟩
          refine dt_ ?_
          refine gt_ ?_
          exact s_entF ent_ (s_keep _ (next (i + 2 + 1, out ++ [16 * x1 + x2], a3, c3) ⟨fun x hx => (List.mem_append.1 hx).elim (ho x) (fun h => by rw [List.mem_singleton] at h; omega), by simp only [List.length_append, List.length_singleton]; omega, hi4, by rw [hd, List.append_assoc]; rfl⟩ (by show inn.length - (i + 2 + 1) < inn.length - i; omega)))
    · have : i = inn.length := by omega
      subst this
      have hdo : decR inn = out := by rw [hd, List.drop_length, decR, List.append_nil]
      have hb0 : Bys (quoteN out) := quoteN_bys ho
      rw [hdo]
      refine gt_ ?_
      refine s_call (sp := spl_) (hs := rquote_c (A := SA (some 5) 1 (.slice a out.length c) out.length (byR out)) (a := a) (n := out.length) (c := c) out ho rfl (by omega)) (h := ?_)
      rintro v Bs ⟨rfl, rfl⟩
      refine gt_ ?_
      cases hq : decide (quoteN out = s) with
      | true =>
        have := of_decide_eq_true hq
        rw [if_pos this]
        refine gt_ ?_
        exact s_rett (rs := [.tmp 2, .tmp 3]) (vs := [_, _]) Tryd.func9 rfl (by intro j; refine RVS.tmp _ rfl ?_; refine RVS.tmp _ rfl ?_; exact RVS.nil) rfl (⟨a, c, out, rfl, rfl, rfl⟩) ent_
      | false =>
        have := of_decide_eq_false hq
        rw [if_neg this]
        refine gt_ ?_
        refine s_drop sel_ (s_new0 (e := 5) (sz := 1) (row := byR []) (s_open (B := SA (some 5) 1 (.slice none ([] : List Nat).length 0) ([] : List Nat).length (byR [])) (fun _ _ h => h) ?_))
        exact s_rett (rs := [.tmp 2, .tmp 3]) (vs := [_, _]) Tryd.func9 rfl (by intro j; refine RVS.tmp _ rfl ?_; refine RVS.tmp _ rfl ?_; exact RVS.nil) rfl (⟨none, 0, [], rfl, rfl, rfl⟩) ent_
end Go.Proofs.YtmlddafbenfilaaDoor
