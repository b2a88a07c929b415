/- The program's Unquote. -/
import Derived.Test.YtmlddafbenfilaaDoorDskL
import Derived.Test.YtmlddafbenfilaaDoorCamAV
namespace Go.Proofs.YtmlddafbenfilaaDoor
open Go.Cam
set_option maxRecDepth 100000
def hexV : Option Nat → Int
  | some a => (a : Int)
  | none => -1
theorem idx_hex {c : Nat} : idxN [48, 49, 50, 51, 52, 53, 54, 55, 56, 57, 97, 98, 99, 100, 101, 102] c = hexV (hexI c) := by
  by_cases h : c < 103
  · have : ∀ c : Fin 103, idxN [48, 49, 50, 51, 52, 53, 54, 55, 56, 57, 97, 98, 99, 100, 101, 102] c.val = hexV (hexI c.val) := by decide
    exact this ⟨c, h⟩
  · have h2 : hexI c = none := by unfold hexI; rw [if_neg (by omega), if_neg (by omega)]
    rw [h2]
    have : ∀ (l : List Nat), (∀ x ∈ l, x < 103) → idxN l c = -1 := by
      intro l
      induction l with
      | nil => intro _; rfl
      | cons x l ih =>
        intro hx
        have := hx x (List.mem_cons_self ..)
        rw [idxN, if_neg (by omega), ih fun y hy => hx y (List.mem_cons_of_mem _ hy)]; rfl
    exact this _ (by intro x hx; simp at hx; omega)
def errN {α : Type} (o : Option α) : Int := if o.isSome then 0 else 240
theorem inner_is (s : List Nat) : (s.take (s.length - 1)).drop 1 = (s.drop 1).dropLast := by
  rw [List.dropLast_eq_take, List.length_drop, List.drop_take]
theorem head_is (s : List Nat) (h : 0 < s.length) : s.head? = some (s.getD 0 0) := by
  cases s with
  | nil => exact absurd h (by decide)
  | cons a r => rfl
theorem last_is (s : List Nat) (h : 0 < s.length) : s.getLast? = some (s.getD (s.length - 1) 0) := by
  rw [List.getLast?_eq_getElem?, List.getElem?_eq_getElem (by omega), List.getD_eq_getElem?_getD, List.getElem?_eq_getElem (by omega)]; rfl
theorem or_hex {a b : Nat} (ha : a < 16) (hb : b < 16) : IntKind.i64.wrap (((BitVec.ofInt IntKind.i64.bits (IntKind.i64.wrap ((a : Int) * 2 ^ 4)) ||| BitVec.ofInt IntKind.i64.bits (b : Int)).toNat : Nat) : Int) = ((16 * a + b : Nat) : Int) := by
  have h : ∀ (a b : Fin 16), IntKind.i64.wrap (((BitVec.ofInt IntKind.i64.bits (IntKind.i64.wrap (((a.val : Nat) : Int) * 2 ^ 4)) ||| BitVec.ofInt IntKind.i64.bits ((b.val : Nat) : Int)).toNat : Nat) : Int) = ((16 * a.val + b.val : Nat) : Int) := by decide +kernel
  exact h ⟨a, ha⟩ ⟨b, hb⟩
theorem emp_bys : Bys [] := fun _ hc => nomatch hc
/-- what an Unquote answers -/
def UnqP (o : Option (List Nat)) (v : Value) (Bs : List HP) : Prop := ∃ a c x, x = o.getD [] ∧ v = .tuple #[.slice a x.length c, .int .i64 (errN o)] ∧ Bs = [SA (some 5) 1 (.slice a x.length c) x.length (byR x)]
set_option maxHeartbeats 16000000 in
theorem unquote_c (s : List Nat) (hs : Bys s) (hl : s.length ≤ 1000000) : Ctr Tryd.prog 8 [.string (strB s)] [] (UnqP (unquoteP s)) := by
  have hb0 : Bys [] := emp_bys
  refine s_enter 79 [(0, _)] (fun F => [F]) Tryd.func8 fun F => ?_
  refine s_new0 (e := 5) (sz := 1) (row := byR []) (s_open (B := SA (some 5) 1 (.slice none ([] : List Nat).length 0) ([] : List Nat).length (byR [])) (fun _ _ h => h) ?_)
  refine gs_ ?_
  cases h0 : decide (((s.length : Int) - 1) < 1) with
  | true =>
    have h1 := of_decide_eq_true h0
    have e : unquoteP s = none := by unfold unquoteP; rw [if_pos (.inl (by omega))]
    rw [e]
    refine gs_ ?_
    exact s_rett (rs := [.tmp 2, .tmp 3]) (vs := [_, _]) Tryd.func8 rfl (by intro j; refine RVS.tmp _ rfl ?_; refine RVS.tmp _ rfl ?_; exact RVS.nil) rfl (⟨none, 0, [], rfl, rfl, rfl⟩) ent_
  | false =>
    have h1 := of_decide_eq_false h0
    have hl2 : 2 ≤ s.length := by omega
    have hg0 : 0 < s.length := by omega
    have hg1 : s.length - 1 < s.length := by omega
    rw [show ((s.length : Int) - 1) = ((s.length - 1 : Nat) : Int) by omega]
    refine gs_ ?_
    refine s_look (lk_sidx (i := 0) hs hg0) ?_
    refine gs_ ?_
    cases h2 : (((s.getD 0 0 : Nat) : Int) != 34) with
    | true =>
      have h3 : s.getD 0 0 ≠ 34 := fun e => by rw [e] at h2; exact absurd h2 (by decide)
      have e : unquoteP s = none := by unfold unquoteP; rw [if_pos (.inr (.inl (by rw [head_is s hg0]; simp; simpa using h3)))]
      rw [e]
      refine gs_ ?_
      exact s_rett (rs := [.tmp 2, .tmp 3]) (vs := [_, _]) Tryd.func8 rfl (by intro j; refine RVS.tmp _ rfl ?_; refine RVS.tmp _ rfl ?_; exact RVS.nil) rfl (⟨none, 0, [], rfl, rfl, rfl⟩) ent_
    | false =>
      have h3 : s.getD 0 0 = 34 := by have := (bne_eq_false_iff_eq.1 h2); omega
      refine gs_ ?_
      refine s_look (lk_sidx (i := s.length - 1) hs hg1) ?_
      refine gs_ ?_
      cases h4 : (((s.getD (s.length - 1) 0 : Nat) : Int) != 34) with
      | true =>
        have h5 : s.getD (s.length - 1) 0 ≠ 34 := fun e => by rw [e] at h4; exact absurd h4 (by decide)
        have e : unquoteP s = none := by unfold unquoteP; rw [if_pos (.inr (.inr (by rw [last_is s hg0]; simp; simpa using h5)))]
        rw [e]
        refine gs_ ?_
        exact s_rett (rs := [.tmp 2, .tmp 3]) (vs := [_, _]) Tryd.func8 rfl (by intro j; refine RVS.tmp _ rfl ?_; refine RVS.tmp _ rfl ?_; exact RVS.nil) rfl (⟨none, 0, [], rfl, rfl, rfl⟩) ent_
      | false =>
        have h5 : s.getD (s.length - 1) 0 = 34 := by have := (bne_eq_false_iff_eq.1 h4); omega
        have e : unquoteP s = unP ((s.drop 1).dropLast) := by
          unfold unquoteP; rw [if_neg]
          rintro (h | h | h)
          · omega
          · rw [head_is s hg0, h3] at h; exact h rfl
          · rw [last_is s hg0, h5] at h; exact h rfl
        rw [e]
        refine gs_ ?_
        refine s_look (lk_ssl 1 (s.length - 1) (s := s) (by omega) (by omega)) ?_
        rw [inner_is s]
        have hlen : ((s.drop 1).dropLast).length ≤ 1000000 := by rw [List.length_dropLast, List.length_drop]; omega
        have hbs : Bys ((s.drop 1).dropLast) := fun x hx => hs x (List.mem_of_mem_drop (List.dropLast_subset _ hx))
        generalize (s.drop 1).dropLast = inn at hlen hbs
        refine gs_ ?_
        refine s_loop (fun y : List Nat × List Nat × Option Addr × Nat => [(5, .slice y.2.2.1 y.2.1.length y.2.2.2), (6, .string (strB y.1))]) (fun y => [SA (some 5) 1 (.slice y.2.2.1 y.2.1.length y.2.2.2) y.2.1.length (byR y.2.1), F]) (fun y => Bys y.1 ∧ y.2.1.length + y.1.length ≤ 1000000 ∧ unP inn = (unP y.1).map (y.2.1 ++ ·)) (fun y => y.1.length) (inn, [], none, 0) ⟨hbs, by simpa using hlen, by cases unP inn <;> rfl⟩ ent_ ?_
        rintro ⟨rest, out, a, c⟩ ⟨hr, hrl, hu⟩ next
        dsimp only at hr hrl hu
        show RunS _ _ _ _ _ [(5, .slice a out.length c), (6, .string (strB rest))] [SA (some 5) 1 (.slice a out.length c) out.length (byR out), F]
        refine gs_ ?_
        rw [show ((strB rest).toList == (ByteArray.mk #[]).toList) = decide (rest = []) from strB_beq hr hb0]
        cases rest with
        | nil =>
          refine gt_ ?_
          have e2 : unP inn = some out := by rw [hu, unP]; simp
          rw [e2]
          exact s_rett (rs := [.tmp 2, .tmp 3]) (vs := [_, _]) Tryd.func8 rfl (by intro j; refine RVS.tmp _ rfl ?_; refine RVS.tmp _ rfl ?_; exact RVS.nil) rfl (⟨a, c, out, rfl, rfl, rfl⟩) ent_
        | cons h r =>
          have hh : h < 256 := hr h (List.mem_cons_self ..)
          have hrr : Bys r := fun x hx => hr x (List.mem_cons_of_mem _ hx)
          have hd : (!decide (h :: r = [])) = true := by simp
          have hz : 0 < (h :: r).length := Nat.succ_pos _
          rw [List.length_cons] at hrl
          rw [hd]
          refine gt_ ?_
          rw [List.getD_cons_zero]
          refine gt_ ?_
          refine s_call (sp := spl_) (hs := itself_c h hh) (h := ?_)
          rintro v Bs ⟨rfl, rfl⟩
          cases hit : itselfN h with
          | true =>
            have hu2 : unP inn = (unP r).map (out ++ [h] ++ ·) := by
              rw [hu, unP_cons, if_pos hit]; cases unP r <;> simp
            refine gt_ ?_
            refine s_drawN 1 [.q 0, .q 1, .q 4, .q 5, .s 2, .s 3, .q 6, .q 7] ?_
            refine dt_ ?_
            refine d_look rfl (lk_ssl 1 (h :: r).length (s := h :: r) (by rw [List.length_cons]; omega) (Nat.le_refl _)) ?_
            rw [show ((h :: r).take (h :: r).length).drop 1 = r by rw [List.take_length]; rfl]
            refine dt_ ?_
            refine d_step rfl (st_bs1 (sz := 1) (cells := [.int .u8 (h : Int)]) rfl) ?_
            rintro v Bs ⟨a2, rfl, rfl⟩
            refine d_open (SA.cg (byR [h]) fun q hq => by rw [show q = 0 by omega]; rfl) ?_
            refine d_step rfl (st_appB (a := a) (b := a2) (x := out) (y := [h]) (cap := c) (c := 1) sel_ (by repeat (first | with_reducible exact SelR.here | with_reducible apply SelR.there)) (by simp only [List.length_singleton]; omega)) ?_
            rintro v Bs ⟨a3, c3, rfl, rfl⟩
            refine dt_ ?_
            refine gt_ ?_
            exact s_entF ent_ (s_keep _ (next (r, out ++ [h], a3, c3) ⟨hrr, by simp only [List.length_append, List.length_singleton]; omega, hu2⟩ (by show r.length < (h :: r).length; simp)))
          | false =>
            refine gt_ ?_
            cases h6 : ((h : Int) != 37) with
            | true =>
              have h7 : h ≠ 37 := fun e => by rw [e] at h6; exact absurd h6 (by decide)
              have e : unP inn = none := by rw [hu, unP_cons, if_neg (by rw [hit]; decide), if_pos h7]; rfl
              rw [e]
              refine gt_ ?_
              refine s_drop sel_ (s_new0 (e := 5) (sz := 1) (row := byR []) (s_open (B := SA (some 5) 1 (.slice none ([] : List Nat).length 0) ([] : List Nat).length (byR [])) (fun _ _ h => h) ?_))
              exact s_rett (rs := [.tmp 2, .tmp 3]) (vs := [_, _]) Tryd.func8 rfl (by intro j; refine RVS.tmp _ rfl ?_; refine RVS.tmp _ rfl ?_; exact RVS.nil) rfl (⟨none, 0, [], rfl, rfl, rfl⟩) ent_
            | false =>
              have h7 : h = 37 := by have := (bne_eq_false_iff_eq.1 h6); omega
              subst h7
              refine gt_ ?_
              rw [List.length_cons]
              cases h8 : decide (((r.length + 1 : Nat) : Int) < 3) with
              | true =>
                have h9 := of_decide_eq_true h8
                have e : unP inn = none := by
                  rw [hu, unP_cons, if_neg (by rw [not37]; decide), if_neg (by decide)]
                  match r, h9 with
                  | [], _ => rfl
                  | [_], _ => rfl
                  | _ :: _ :: _, h9 => simp only [List.length_cons] at h9; omega
                rw [e]
                refine gt_ ?_
                refine s_drop sel_ (s_new0 (e := 5) (sz := 1) (row := byR []) (s_open (B := SA (some 5) 1 (.slice none ([] : List Nat).length 0) ([] : List Nat).length (byR [])) (fun _ _ h => h) ?_))
                exact s_rett (rs := [.tmp 2, .tmp 3]) (vs := [_, _]) Tryd.func8 rfl (by intro j; refine RVS.tmp _ rfl ?_; refine RVS.tmp _ rfl ?_; exact RVS.nil) rfl (⟨none, 0, [], rfl, rfl, rfl⟩) ent_
              | false =>
                have h9 := of_decide_eq_false h8
                refine gt_ ?_
                match r, h9, hrl, hr, hrr, hu, next, hd, hz with
                | [], h9, _, _, _, _, _, _, _ => exact absurd h9 (by decide)
                | [_], h9, _, _, _, _, _, _, _ => exact absurd h9 (by simp only [List.length_cons, List.length_nil]; omega)
                | p :: q :: r', h9, hrl, hr, hrr, hu, next, hd, hz =>
                  have hp : p < 256 := hrr p (List.mem_cons_self ..)
                  have hq : q < 256 := hrr q (List.mem_cons_of_mem _ (List.mem_cons_self ..))
                  have hi1 : 1 < (37 :: p :: q :: r').length := by simp
                  have hi2 : 2 < (37 :: p :: q :: r').length := by simp
                  have hr' : Bys r' := fun x hx => hrr x (List.mem_cons_of_mem _ (List.mem_cons_of_mem _ hx))
                  have hbad : (hexI p = none ∨ hexI q = none ∨ ∃ x y, hexI p = some x ∧ hexI q = some y ∧ itselfN (16 * x + y) = true) → unP inn = none := fun h => by
                    rw [hu, unP_cons, if_neg (by rw [not37]; decide), if_neg (by decide)]
                    dsimp only
                    rcases h with h | h | ⟨x, y, h, h2, h3⟩
                    · rw [h]; rfl
                    · rw [h]; cases hexI p <;> rfl
                    · rw [h, h2]; dsimp only; rw [if_pos h3]; rfl
                  refine s_drawN 0 [.q 0, .q 1, .q 3, .q 4, .s 2, .s 5, .q 6, .q 7] ?_
                  refine dt_ ?_
                  rw [show (37 :: p :: q :: r').getD 2 0 = q from rfl, show (37 :: p :: q :: r').getD 1 0 = p from rfl]
                  refine d_step rfl (st_call (sp := spl_) (hs := idx_c [48, 49, 50, 51, 52, 53, 54, 55, 56, 57, 97, 98, 99, 100, 101, 102] p hexs hp)) ?_
                  rintro v Bs ⟨Cs, ⟨rfl, rfl⟩, rfl⟩
                  refine dt_ ?_
                  refine d_step rfl (st_call (sp := spl_) (hs := idx_c [48, 49, 50, 51, 52, 53, 54, 55, 56, 57, 97, 98, 99, 100, 101, 102] q hexs hq)) ?_
                  rintro v Bs ⟨Cs, ⟨rfl, rfl⟩, rfl⟩
                  rw [idx_hex, idx_hex]
                  refine dt_ ?_
                  cases h10 : hexI p with
                  | none =>
                    rw [hbad (.inl h10)]
                    refine gt_ ?_
                    refine s_drop sel_ (s_new0 (e := 5) (sz := 1) (row := byR []) (s_open (B := SA (some 5) 1 (.slice none ([] : List Nat).length 0) ([] : List Nat).length (byR [])) (fun _ _ h => h) ?_))
                    exact s_rett (rs := [.tmp 2, .tmp 3]) (vs := [_, _]) Tryd.func8 rfl (by intro j; refine RVS.tmp _ rfl ?_; refine RVS.tmp _ rfl ?_; exact RVS.nil) rfl (⟨none, 0, [], rfl, rfl, rfl⟩) ent_
                  | some x =>
                    have hx := hexI_lt h10
                    rw [show hexV (some x) = (x : Int) from rfl]
                    refine gt_ ?_
                    cases h11 : decide ((x : Int) < 0) with
                    | true => exact absurd (of_decide_eq_true h11) (by omega)
                    | false =>
                      refine gt_ ?_
                      cases h12 : hexI q with
                      | none =>
                        rw [hbad (.inr (.inl h12))]
                        refine gt_ ?_
                        refine s_drop sel_ (s_new0 (e := 5) (sz := 1) (row := byR []) (s_open (B := SA (some 5) 1 (.slice none ([] : List Nat).length 0) ([] : List Nat).length (byR [])) (fun _ _ h => h) ?_))
                        exact s_rett (rs := [.tmp 2, .tmp 3]) (vs := [_, _]) Tryd.func8 rfl (by intro j; refine RVS.tmp _ rfl ?_; refine RVS.tmp _ rfl ?_; exact RVS.nil) rfl (⟨none, 0, [], rfl, rfl, rfl⟩) ent_
                      | some y =>
                        have hy := hexI_lt h12
                        rw [show hexV (some y) = (y : Int) from rfl]
                        refine gt_ ?_
                        cases h13 : decide ((y : Int) < 0) with
                        | true => exact absurd (of_decide_eq_true h13) (by omega)
                        | false =>
                          refine gt_ ?_
                          have hv : 16 * x + y < 256 := by omega
                          rw [show IntKind.i64.wrap (((BitVec.ofInt IntKind.i64.bits (IntKind.i64.wrap ((x : Int) * 2 ^ min (Int.toNat 4) IntKind.i64.bits)) ||| BitVec.ofInt IntKind.i64.bits (y : Int)).toNat : Nat) : Int) = ((16 * x + y : Nat) : Int) from or_hex hx hy, show IntKind.u8.wrap ((16 * x + y : Nat) : Int) = ((16 * x + y : Nat) : Int) by rw [wrap_u8, Nat.mod_eq_of_lt hv]]
                          refine gt_ ?_
                          refine s_call (sp := spl_) (hs := itself_c (16 * x + y) hv) (h := ?_)
                          rintro v Bs ⟨rfl, rfl⟩
                          cases hit2 : itselfN (16 * x + y) with
                          | true =>
                            rw [hbad (.inr (.inr ⟨x, y, h10, h12, hit2⟩))]
                            refine gt_ ?_
                            refine s_drop sel_ (s_new0 (e := 5) (sz := 1) (row := byR []) (s_open (B := SA (some 5) 1 (.slice none ([] : List Nat).length 0) ([] : List Nat).length (byR [])) (fun _ _ h => h) ?_))
                            exact s_rett (rs := [.tmp 2, .tmp 3]) (vs := [_, _]) Tryd.func8 rfl (by intro j; refine RVS.tmp _ rfl ?_; refine RVS.tmp _ rfl ?_; exact RVS.nil) rfl (⟨none, 0, [], rfl, rfl, rfl⟩) ent_
                          | false =>
                            have hu2 : unP inn = (unP r').map (out ++ [16 * x + y] ++ ·) := by
                              rw [hu, unP_cons, if_neg (by rw [not37]; decide), if_neg (by decide)]
                              dsimp only
                              rw [h10, h12]
                              dsimp only
                              rw [if_neg (by rw [hit2]; decide)]
                              cases unP r' <;> simp
                            simp only [List.length_cons] at hrl
                            refine gt_ ?_
                            refine s_drawN 1 [.q 0, .q 1, .q 2, .q 3, .q 4, .q 5, .q 8, .q 9, .s 6, .s 7, .q 10, .q 11] ?_
                            refine dt_ ?_
                            rw [show IntKind.i64.wrap (((BitVec.ofInt IntKind.i64.bits (IntKind.i64.wrap ((x : Int) * 2 ^ min (Int.toNat 4) IntKind.i64.bits)) ||| BitVec.ofInt IntKind.i64.bits (y : Int)).toNat : Nat) : Int) = ((16 * x + y : Nat) : Int) from or_hex hx hy, show IntKind.u8.wrap ((16 * x + y : Nat) : Int) = ((16 * x + y : Nat) : Int) by rw [wrap_u8, Nat.mod_eq_of_lt hv]]
                            refine d_look rfl (lk_ssl 3 (37 :: p :: q :: r').length (s := 37 :: p :: q :: r') (by simp only [List.length_cons]; omega) (Nat.le_refl _)) ?_
                            rw [show ((37 :: p :: q :: r').take (37 :: p :: q :: r').length).drop 3 = r' by rw [List.take_length]; rfl]
                            refine d_step rfl (st_bs1 (sz := 1) (cells := [.int .u8 ((16 * x + y : Nat) : Int)]) rfl) ?_
                            rintro v Bs ⟨a2, rfl, rfl⟩
                            refine d_open (SA.cg (byR [16 * x + y]) fun q hq => by rw [show q = 0 by omega]; rfl) ?_
                            refine d_step rfl (st_appB (a := a) (b := a2) (x := out) (y := [16 * x + y]) (cap := c) (c := 1) sel_ (by repeat (first | with_reducible exact SelR.here | with_reducible apply SelR.there)) (by simp only [List.length_singleton]; omega)) ?_
                            rintro v Bs ⟨a3, c3, rfl, rfl⟩
                            refine dt_ ?_
                            refine gt_ ?_
                            exact s_entF ent_ (s_keep _ (next (r', out ++ [16 * x + y], a3, c3) ⟨hr', by simp only [List.length_append, List.length_singleton]; omega, hu2⟩ (by show r'.length < (37 :: p :: q :: r').length; simp only [List.length_cons]; omega)))
end Go.Proofs.YtmlddafbenfilaaDoor
/- The document's Unquote. -/
namespace Go.Proofs.YtmlddafbenfilaaDoor
open Go.Cam
set_option maxRecDepth 100000
end Go.Proofs.YtmlddafbenfilaaDoor
/- The words of an event. -/
namespace Go.Proofs.YtmlddafbenfilaaDoor
open Go.Cam
set_option maxRecDepth 100000
/-- bytes that a text was turned into -/
def RO (e r : Nat) (s : List Nat) (c : Nat) : HP := ⟨fun _ M => ∃ (cs : Array Value) (f : Nat × Nat), cs.size = c ∧ s.length ≤ c ∧ cs.toList.take s.length = bcl s ∧ M r = some (.cells cs e f), fun _ hl ⟨cs, f, h1, h2, h3, h4⟩ => ⟨cs, f, h1, h2, h3, hl _ _ h4⟩⟩
instance {e r : Nat} {s : List Nat} {c : Nat} : Rd (RO e r s c) 1 (.slice (some ⟨r, 0, none⟩) s.length c) s.length (byR s) := ⟨fun H M ⟨cs, f, h1, h2, h3, h4⟩ => ⟨_, _, rfl, h2, fun _ _ => rfl, fun _ => ⟨r, 0, cs, e, f, rfl, .inl h4, by omega, by
  apply Array.ext'
  rw [Array.toList_extract, List.extract_eq_take_drop, flat_byR']
  simpa using h3⟩⟩⟩
section
variable {P : Program} {l : List (Nat × Value)} {As : List HP} {dd : Option Nat} {oty : TypeId} {pos : String} {af : Array Edge} {g : Option (Nat × Bool)}
theorem st_s2R {t t2 e : TypeId} {x : Operand} {s : List Nat} [sc : SC P t e] [sy : STY P t2] [u8 : U8T P e] (hb : Bys s)
    (hx : ∀ j, ev (mk l j) x = .string (strB s) := by intro j; rfl) :
    StepL P ⟨dd, .convert t2 t x, oty, pos, af, g⟩ l As (fun v Bs => ∃ r c, v = .slice (some ⟨r, 0, none⟩) s.length c ∧ Bs = RO e r s c :: As) := .mk fun j Fs H M q => by
  refine hmc_mono ((st_s2b hb hx).h j Fs H M q) fun v H' M' ⟨Cs, ⟨r, cs, c, h1, h2, h3, h4, h5⟩, h6⟩ => ?_
  subst h5
  exact ⟨_, ⟨r, c, h1, rfl⟩, star_monoL (C := RO e r s c) (fun H M h => ⟨cs, _, h3, h2, h4, h⟩) h6⟩
end
abbrev evL (e : Ev) (a : Option Addr) (c : Nat) : List Value := [.int .i64 e.kind, .int .i64 e.pid, .int .i64 e.fd, .int .i64 e.n, .int .i64 e.m, .string (strB e.path), .string (strB e.name), .slice a e.data.length c]
abbrev wdL (e : Ev) : List Value := [.string (strB (itoaN e.kind)), .string (strB (itoaN e.pid)), .string (strB (itoaN e.fd)), .string (strB (itoaN e.n)), .string (strB (itoaN e.m)), .string (strB (quoteN e.path)), .string (strB (quoteN e.name)), .string (strB (quoteN e.data))]
/-- an event that is short enough -/
structure Ev.fit (e : Ev) : Prop where
  ok : e.ok
  l1 : e.path.length ≤ 10000000000000
  l2 : e.name.length ≤ 10000000000000
  l3 : e.data.length ≤ 10000000000000
set_option maxHeartbeats 16000000 in
theorem words_c (e : Ev) (he : e.fit) {D : HP} {a : Option Addr} {c : Nat} [Rd D 1 (.slice a e.data.length c) e.data.length (byR e.data)] : Ctr Tryd.prog 42 [.agg (evL e a c).toArray] [GL, D] (fun v Bs => v = .agg (wdL e).toArray ∧ Bs = [D]) := by
  refine s_enter 43 [(0, _)] (fun F => [_, _, F]) Tryd.func42 fun F => ?_
  refine gt_ ?_
  refine s_box fun r1 => ?_
  refine gt_ ?_
  refine s_alloc fun r2 => ?_
  refine gt_ ?_
  refine s_alloc fun r3 => ?_
  refine gt_ ?_
  refine s_bs (cells := [.int .i64 e.kind, .int .i64 e.pid, .int .i64 e.fd, .int .i64 e.n, .int .i64 e.m]) (fun o => ?_) (fun j => rfl)
  refine gt_ ?_
  refine s_unroll ?_
  refine gt_ ?_
  refine s_look (lk_ixs (v := .slice o 5 5) (i := 0)) ?_
  refine s_look (lk_lde (v := .slice o 5 5) (u := .int .i64 e.kind)) ?_
  refine gt_ ?_
  refine s_call (sp := spl_) (hs := itoa_c (n := e.kind) he.ok.k1) (h := ?_)
  rintro v Bs ⟨rfl, rfl⟩
  refine s_nrm ?_
  refine s_look (lk_zix (b := r3) (i := 0)) ?_
  refine s_stepU (st_st (b := r3) (off := 0) (c := [.string ByteArray.empty, .string ByteArray.empty, .string ByteArray.empty, .string ByteArray.empty, .string ByteArray.empty, .string ByteArray.empty, .string ByteArray.empty, .string ByteArray.empty]) (c' := [.string (strB (itoaN e.kind)), .string ByteArray.empty, .string ByteArray.empty, .string ByteArray.empty, .string ByteArray.empty, .string ByteArray.empty, .string ByteArray.empty, .string ByteArray.empty]) (v := .string (strB (itoaN e.kind)))) ?_
  rintro _ _ rfl
  refine gt_ ?_
  refine s_again ?_
  refine gt_ ?_
  refine s_look (lk_ixs (v := .slice o 5 5) (i := 1)) ?_
  refine s_look (lk_lde (v := .slice o 5 5) (u := .int .i64 e.pid)) ?_
  refine gt_ ?_
  refine s_call (sp := spl_) (hs := itoa_c (n := e.pid) he.ok.k2) (h := ?_)
  rintro v Bs ⟨rfl, rfl⟩
  refine s_nrm ?_
  refine s_look (lk_zix (b := r3) (i := 1)) ?_
  refine s_stepU (st_st (b := r3) (off := 1) (c := [.string (strB (itoaN e.kind)), .string ByteArray.empty, .string ByteArray.empty, .string ByteArray.empty, .string ByteArray.empty, .string ByteArray.empty, .string ByteArray.empty, .string ByteArray.empty]) (c' := [.string (strB (itoaN e.kind)), .string (strB (itoaN e.pid)), .string ByteArray.empty, .string ByteArray.empty, .string ByteArray.empty, .string ByteArray.empty, .string ByteArray.empty, .string ByteArray.empty]) (v := .string (strB (itoaN e.pid)))) ?_
  rintro _ _ rfl
  refine gt_ ?_
  refine s_again ?_
  refine gt_ ?_
  refine s_look (lk_ixs (v := .slice o 5 5) (i := 2)) ?_
  refine s_look (lk_lde (v := .slice o 5 5) (u := .int .i64 e.fd)) ?_
  refine gt_ ?_
  refine s_call (sp := spl_) (hs := itoa_c (n := e.fd) he.ok.k3) (h := ?_)
  rintro v Bs ⟨rfl, rfl⟩
  refine s_nrm ?_
  refine s_look (lk_zix (b := r3) (i := 2)) ?_
  refine s_stepU (st_st (b := r3) (off := 2) (c := [.string (strB (itoaN e.kind)), .string (strB (itoaN e.pid)), .string ByteArray.empty, .string ByteArray.empty, .string ByteArray.empty, .string ByteArray.empty, .string ByteArray.empty, .string ByteArray.empty]) (c' := [.string (strB (itoaN e.kind)), .string (strB (itoaN e.pid)), .string (strB (itoaN e.fd)), .string ByteArray.empty, .string ByteArray.empty, .string ByteArray.empty, .string ByteArray.empty, .string ByteArray.empty]) (v := .string (strB (itoaN e.fd)))) ?_
  rintro _ _ rfl
  refine gt_ ?_
  refine s_again ?_
  refine gt_ ?_
  refine s_look (lk_ixs (v := .slice o 5 5) (i := 3)) ?_
  refine s_look (lk_lde (v := .slice o 5 5) (u := .int .i64 e.n)) ?_
  refine gt_ ?_
  refine s_call (sp := spl_) (hs := itoa_c (n := e.n) he.ok.k4) (h := ?_)
  rintro v Bs ⟨rfl, rfl⟩
  refine s_nrm ?_
  refine s_look (lk_zix (b := r3) (i := 3)) ?_
  refine s_stepU (st_st (b := r3) (off := 3) (c := [.string (strB (itoaN e.kind)), .string (strB (itoaN e.pid)), .string (strB (itoaN e.fd)), .string ByteArray.empty, .string ByteArray.empty, .string ByteArray.empty, .string ByteArray.empty, .string ByteArray.empty]) (c' := [.string (strB (itoaN e.kind)), .string (strB (itoaN e.pid)), .string (strB (itoaN e.fd)), .string (strB (itoaN e.n)), .string ByteArray.empty, .string ByteArray.empty, .string ByteArray.empty, .string ByteArray.empty]) (v := .string (strB (itoaN e.n)))) ?_
  rintro _ _ rfl
  refine gt_ ?_
  refine s_again ?_
  refine gt_ ?_
  refine s_look (lk_ixs (v := .slice o 5 5) (i := 4)) ?_
  refine s_look (lk_lde (v := .slice o 5 5) (u := .int .i64 e.m)) ?_
  refine gt_ ?_
  refine s_call (sp := spl_) (hs := itoa_c (n := e.m) he.ok.k5) (h := ?_)
  rintro v Bs ⟨rfl, rfl⟩
  refine s_nrm ?_
  refine s_look (lk_zix (b := r3) (i := 4)) ?_
  refine s_stepU (st_st (b := r3) (off := 4) (c := [.string (strB (itoaN e.kind)), .string (strB (itoaN e.pid)), .string (strB (itoaN e.fd)), .string (strB (itoaN e.n)), .string ByteArray.empty, .string ByteArray.empty, .string ByteArray.empty, .string ByteArray.empty]) (c' := [.string (strB (itoaN e.kind)), .string (strB (itoaN e.pid)), .string (strB (itoaN e.fd)), .string (strB (itoaN e.n)), .string (strB (itoaN e.m)), .string ByteArray.empty, .string ByteArray.empty, .string ByteArray.empty]) (v := .string (strB (itoaN e.m)))) ?_
  rintro _ _ rfl
  refine gt_ ?_
  refine s_again ?_
  refine gt_ ?_
  refine s_front (a := Box r3 74 [.string (strB (itoaN e.kind)), .string (strB (itoaN e.pid)), .string (strB (itoaN e.fd)), .string (strB (itoaN e.n)), .string (strB (itoaN e.m)), .string ByteArray.empty, .string ByteArray.empty, .string ByteArray.empty]) sel_ ?_
  refine s_front (a := D) sel_ ?_
  refine s_drawN 2 [.q 0, .q 1, .q 4, .q 5, .q 8, .q 9, .altq 2 3 11 6, .s 7, .s 10, .s 12, .q 13, .s 14, .q 15, .s 16] ?_
  refine dt_ ?_
  refine d_altq ?_ ?_
  · refine d_step rfl (st_s2R (s := e.path) he.ok.k6) ?_
    rintro v Bs ⟨rA, cA, rfl, rfl⟩
    refine dt_ ?_
    refine d_altq1 ?_ ?_
    · refine d_step rfl (st_call (sp := spl_) (hs := quote_c (A := RO 5 rA e.path cA) (a := some ⟨rA, 0, none⟩) (n := e.path.length) (c := cA) e.path he.ok.k6 rfl he.l1)) ?_
      rintro v Bs ⟨Cs, ⟨rfl, rfl⟩, rfl⟩
      refine dt_ ?_
      refine d_step rfl (st_s2R (s := e.name) he.ok.k7) ?_
      rintro v Bs ⟨rB, cB, rfl, rfl⟩
      refine dt_ ?_
      refine d_step rfl (st_call (sp := spl_) (hs := quote_c (A := RO 5 rB e.name cB) (a := some ⟨rB, 0, none⟩) (n := e.name.length) (c := cB) e.name he.ok.k7 rfl he.l2)) ?_
      rintro v Bs ⟨Cs, ⟨rfl, rfl⟩, rfl⟩
      refine dt_ ?_
      refine d_step rfl (st_call (sp := spl_) (hs := quote_c (A := D) (a := a) (n := e.data.length) (c := c) e.data he.ok.k8 rfl he.l3)) ?_
      rintro v Bs ⟨Cs, ⟨rfl, rfl⟩, rfl⟩
      refine dt_ ?_
      refine d_stepU rfl (st_st (b := r3) (off := 5) (c := [.string (strB (itoaN e.kind)), .string (strB (itoaN e.pid)), .string (strB (itoaN e.fd)), .string (strB (itoaN e.n)), .string (strB (itoaN e.m)), .string ByteArray.empty, .string ByteArray.empty, .string ByteArray.empty]) (c' := [.string (strB (itoaN e.kind)), .string (strB (itoaN e.pid)), .string (strB (itoaN e.fd)), .string (strB (itoaN e.n)), .string (strB (itoaN e.m)), .string (strB (quoteN e.path)), .string ByteArray.empty, .string ByteArray.empty]) (v := .string (strB (quoteN e.path)))) ?_
      rintro _ _ rfl
      refine dt_ ?_
      refine d_stepU rfl (st_st (b := r3) (off := 6) (c := [.string (strB (itoaN e.kind)), .string (strB (itoaN e.pid)), .string (strB (itoaN e.fd)), .string (strB (itoaN e.n)), .string (strB (itoaN e.m)), .string (strB (quoteN e.path)), .string ByteArray.empty, .string ByteArray.empty]) (c' := [.string (strB (itoaN e.kind)), .string (strB (itoaN e.pid)), .string (strB (itoaN e.fd)), .string (strB (itoaN e.n)), .string (strB (itoaN e.m)), .string (strB (quoteN e.path)), .string (strB (quoteN e.name)), .string ByteArray.empty]) (v := .string (strB (quoteN e.name)))) ?_
      rintro _ _ rfl
      refine dt_ ?_
      refine d_stepU rfl (st_st (b := r3) (off := 7) (c := [.string (strB (itoaN e.kind)), .string (strB (itoaN e.pid)), .string (strB (itoaN e.fd)), .string (strB (itoaN e.n)), .string (strB (itoaN e.m)), .string (strB (quoteN e.path)), .string (strB (quoteN e.name)), .string ByteArray.empty]) (c' := [.string (strB (itoaN e.kind)), .string (strB (itoaN e.pid)), .string (strB (itoaN e.fd)), .string (strB (itoaN e.n)), .string (strB (itoaN e.m)), .string (strB (quoteN e.path)), .string (strB (quoteN e.name)), .string (strB (quoteN e.data))]) (v := .string (strB (quoteN e.data)))) ?_
      rintro _ _ rfl
      refine dt_ ?_
      refine gt_ ?_
      exact s_ret1 (rs := [.cell 2 74]) Tryd.func42 rfl (by intro j; refine RVS.cell _ _ rfl sel_ (by rfl) ?_; exact RVS.nil) (⟨rfl, rfl⟩) ent_
    · refine d_step rfl (st_s2R (s := e.name) he.ok.k7) ?_
      rintro v Bs ⟨rB, cB, rfl, rfl⟩
      refine dt_ ?_
      refine d_step rfl (st_call (sp := spl_) (hs := quote_c (A := RO 5 rA e.path cA) (a := some ⟨rA, 0, none⟩) (n := e.path.length) (c := cA) e.path he.ok.k6 rfl he.l1)) ?_
      rintro v Bs ⟨Cs, ⟨rfl, rfl⟩, rfl⟩
      refine dt_ ?_
      refine d_step rfl (st_call (sp := spl_) (hs := quote_c (A := RO 5 rB e.name cB) (a := some ⟨rB, 0, none⟩) (n := e.name.length) (c := cB) e.name he.ok.k7 rfl he.l2)) ?_
      rintro v Bs ⟨Cs, ⟨rfl, rfl⟩, rfl⟩
      refine dt_ ?_
      refine d_step rfl (st_call (sp := spl_) (hs := quote_c (A := D) (a := a) (n := e.data.length) (c := c) e.data he.ok.k8 rfl he.l3)) ?_
      rintro v Bs ⟨Cs, ⟨rfl, rfl⟩, rfl⟩
      refine dt_ ?_
      refine d_stepU rfl (st_st (b := r3) (off := 5) (c := [.string (strB (itoaN e.kind)), .string (strB (itoaN e.pid)), .string (strB (itoaN e.fd)), .string (strB (itoaN e.n)), .string (strB (itoaN e.m)), .string ByteArray.empty, .string ByteArray.empty, .string ByteArray.empty]) (c' := [.string (strB (itoaN e.kind)), .string (strB (itoaN e.pid)), .string (strB (itoaN e.fd)), .string (strB (itoaN e.n)), .string (strB (itoaN e.m)), .string (strB (quoteN e.path)), .string ByteArray.empty, .string ByteArray.empty]) (v := .string (strB (quoteN e.path)))) ?_
      rintro _ _ rfl
      refine dt_ ?_
      refine d_stepU rfl (st_st (b := r3) (off := 6) (c := [.string (strB (itoaN e.kind)), .string (strB (itoaN e.pid)), .string (strB (itoaN e.fd)), .string (strB (itoaN e.n)), .string (strB (itoaN e.m)), .string (strB (quoteN e.path)), .string ByteArray.empty, .string ByteArray.empty]) (c' := [.string (strB (itoaN e.kind)), .string (strB (itoaN e.pid)), .string (strB (itoaN e.fd)), .string (strB (itoaN e.n)), .string (strB (itoaN e.m)), .string (strB (quoteN e.path)), .string (strB (quoteN e.name)), .string ByteArray.empty]) (v := .string (strB (quoteN e.name)))) ?_
      rintro _ _ rfl
      refine dt_ ?_
      refine d_stepU rfl (st_st (b := r3) (off := 7) (c := [.string (strB (itoaN e.kind)), .string (strB (itoaN e.pid)), .string (strB (itoaN e.fd)), .string (strB (itoaN e.n)), .string (strB (itoaN e.m)), .string (strB (quoteN e.path)), .string (strB (quoteN e.name)), .string ByteArray.empty]) (c' := [.string (strB (itoaN e.kind)), .string (strB (itoaN e.pid)), .string (strB (itoaN e.fd)), .string (strB (itoaN e.n)), .string (strB (itoaN e.m)), .string (strB (quoteN e.path)), .string (strB (quoteN e.name)), .string (strB (quoteN e.data))]) (v := .string (strB (quoteN e.data)))) ?_
      rintro _ _ rfl
      refine dt_ ?_
      refine gt_ ?_
      exact s_ret1 (rs := [.cell 2 74]) Tryd.func42 rfl (by intro j; refine RVS.cell _ _ rfl sel_ (by rfl) ?_; exact RVS.nil) (⟨rfl, rfl⟩) ent_
  · refine d_step rfl (st_s2R (s := e.name) he.ok.k7) ?_
    rintro v Bs ⟨rB, cB, rfl, rfl⟩
    refine dt_ ?_
    refine d_step rfl (st_s2R (s := e.path) he.ok.k6) ?_
    rintro v Bs ⟨rA, cA, rfl, rfl⟩
    refine dt_ ?_
    refine d_step rfl (st_call (sp := spl_) (hs := quote_c (A := RO 5 rA e.path cA) (a := some ⟨rA, 0, none⟩) (n := e.path.length) (c := cA) e.path he.ok.k6 rfl he.l1)) ?_
    rintro v Bs ⟨Cs, ⟨rfl, rfl⟩, rfl⟩
    refine dt_ ?_
    refine d_step rfl (st_call (sp := spl_) (hs := quote_c (A := RO 5 rB e.name cB) (a := some ⟨rB, 0, none⟩) (n := e.name.length) (c := cB) e.name he.ok.k7 rfl he.l2)) ?_
    rintro v Bs ⟨Cs, ⟨rfl, rfl⟩, rfl⟩
    refine dt_ ?_
    refine d_step rfl (st_call (sp := spl_) (hs := quote_c (A := D) (a := a) (n := e.data.length) (c := c) e.data he.ok.k8 rfl he.l3)) ?_
    rintro v Bs ⟨Cs, ⟨rfl, rfl⟩, rfl⟩
    refine dt_ ?_
    refine d_stepU rfl (st_st (b := r3) (off := 5) (c := [.string (strB (itoaN e.kind)), .string (strB (itoaN e.pid)), .string (strB (itoaN e.fd)), .string (strB (itoaN e.n)), .string (strB (itoaN e.m)), .string ByteArray.empty, .string ByteArray.empty, .string ByteArray.empty]) (c' := [.string (strB (itoaN e.kind)), .string (strB (itoaN e.pid)), .string (strB (itoaN e.fd)), .string (strB (itoaN e.n)), .string (strB (itoaN e.m)), .string (strB (quoteN e.path)), .string ByteArray.empty, .string ByteArray.empty]) (v := .string (strB (quoteN e.path)))) ?_
    rintro _ _ rfl
    refine dt_ ?_
    refine d_stepU rfl (st_st (b := r3) (off := 6) (c := [.string (strB (itoaN e.kind)), .string (strB (itoaN e.pid)), .string (strB (itoaN e.fd)), .string (strB (itoaN e.n)), .string (strB (itoaN e.m)), .string (strB (quoteN e.path)), .string ByteArray.empty, .string ByteArray.empty]) (c' := [.string (strB (itoaN e.kind)), .string (strB (itoaN e.pid)), .string (strB (itoaN e.fd)), .string (strB (itoaN e.n)), .string (strB (itoaN e.m)), .string (strB (quoteN e.path)), .string (strB (quoteN e.name)), .string ByteArray.empty]) (v := .string (strB (quoteN e.name)))) ?_
    rintro _ _ rfl
    refine dt_ ?_
    refine d_stepU rfl (st_st (b := r3) (off := 7) (c := [.string (strB (itoaN e.kind)), .string (strB (itoaN e.pid)), .string (strB (itoaN e.fd)), .string (strB (itoaN e.n)), .string (strB (itoaN e.m)), .string (strB (quoteN e.path)), .string (strB (quoteN e.name)), .string ByteArray.empty]) (c' := [.string (strB (itoaN e.kind)), .string (strB (itoaN e.pid)), .string (strB (itoaN e.fd)), .string (strB (itoaN e.n)), .string (strB (itoaN e.m)), .string (strB (quoteN e.path)), .string (strB (quoteN e.name)), .string (strB (quoteN e.data))]) (v := .string (strB (quoteN e.data)))) ?_
    rintro _ _ rfl
    refine dt_ ?_
    refine gt_ ?_
    exact s_ret1 (rs := [.cell 2 74]) Tryd.func42 rfl (by intro j; refine RVS.cell _ _ rfl sel_ (by rfl) ?_; exact RVS.nil) (⟨rfl, rfl⟩) ent_
end Go.Proofs.YtmlddafbenfilaaDoor
