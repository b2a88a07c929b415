/- Events are written, and answers shown, alike: the law. -/
import Derived.Test.YtmlddafbenfilaaDoorDskT2
import Derived.Test.YtmlddafbenfilaaDoorDskBE
namespace Go.Proofs.YtmlddafbenfilaaDoor
open Go.Cam
set_option maxRecDepth 100000
theorem an_take (l : List An) (i : Nat) (hi : i < 60) : (l.take 60).getD i an0 = l.getD i an0 := by
  simp [List.getD_eq_getElem?_getD, List.getElem?_take, hi]
set_option maxHeartbeats 32000000 in
theorem prints_c (l : List Ev) (hl : ∀ e ∈ l, e.small) (al : List An) (hal : ∀ x ∈ al, x.ok) (haln : al.length ≤ 1048576) {a : Option Addr} {c : Nat} {w : Nat → Option Addr × Nat} {X : HP} [Rd X 8 (.slice a l.length c) l.length (evRow w l)] {b : Option Addr} {d : Nat} {u : Nat → AnW} : Ctr Tryd.prog 6 [.slice a l.length c, .slice b al.length d] [GL, X, EvFam w l, SA none 10 (.slice b al.length d) al.length (anRow u al), Fam al.length (AnD u al), Fam al.length (AnN u al)] (fun v Bs => v = .bool true ∧ Bs = []) := by
  refine s_enter 46 [(0, _), (1, _)] (fun F => [_, _, _, _, _, _, F]) Tryd.func6 fun F => ?_
  refine gt_ ?_
  refine s_call (sp := spl_) (hs := shown_c) (h := ?_)
  rintro v Bs ⟨rfl, rfl⟩
  refine gt_ ?_
  refine s_call (sp := spl_) (hs := few_c l (X := X) (a := a) (c := c) (w := w)) (h := ?_)
  rintro v Bs ⟨a1, c1, w1, rfl, rfl⟩
  have hf : ∀ e ∈ fewN l, e.fit := fun e he => small_fit (few_small hl e he)
  have hL60 := few_len l
  have hp : (printN (fewN l)).length ≤ 10000000000 := by
    have := print_small (few_small hl)
    omega
  have hpb := print_bys hf
  generalize fewN l = L at *
  refine gt_ ?_
  cases hs0 : decide ((al.length : Int) > 60) with
  | false =>
    have hs1 := of_decide_eq_false hs0
    have hA := hal
    have hT : (showN al).length ≤ 100000000000000 := by
      have := show_small hal
      have h9 : al.length * 10000000 ≤ 60 * 10000000 := Nat.mul_le_mul_right _ (by omega)
      omega
    have hsb := show_bys hA
    refine gt_ ?_
    refine s_call (sp := spl_) (hs := print_c L hf (by omega) hp (a := a1) (c := c1) (w := w1) (X := SA (some 42) 8 (.slice a1 L.length c1) L.length (evRow w1 L))) (h := ?_)
    rintro v Bs ⟨rfl, rfl⟩
    refine gt_ ?_
    refine s_call (sp := spl_) (hs := rprint_c L hf (by omega) hp (a := a1) (c := c1) (w := w1) (X := SA (some 42) 8 (.slice a1 L.length c1) L.length (evRow w1 L))) (h := ?_)
    rintro v Bs ⟨rfl, rfl⟩
    refine gt_ ?_
    rw [decide_eq_true (rfl : printN L = printN L)]
    refine gt_ ?_
    refine s_call (sp := spl_) (hs := show_c al hA (by omega) hT (a := b) (c := d) (w := u) (X := SA none 10 (.slice b al.length d) al.length (anRow u al))) (h := ?_)
    rintro v Bs ⟨rfl, rfl⟩
    refine gt_ ?_
    refine s_call (sp := spl_) (hs := rshow_c al hA (by omega) hT (a := b) (c := d) (w := u) (X := SA none 10 (.slice b al.length d) al.length (anRow u al))) (h := ?_)
    rintro v Bs ⟨rfl, rfl⟩
    refine gt_ ?_
    rw [decide_eq_true (rfl : showN al = showN al)]
    refine gt_ ?_
    exact s_ret1 (rs := [.tmp 4]) Tryd.func6 rfl (by intro j; refine RVS.tmp _ rfl ?_; exact RVS.nil) (⟨rfl, rfl⟩) ent_
  | true =>
    have hs1 := of_decide_eq_true hs0
    have hA : ∀ x ∈ al.take 60, x.ok := fun x hx => hal x (List.mem_of_mem_take hx)
    have hA60 : (al.take 60).length = 60 := by rw [List.length_take]; omega
    have hT : (showN (al.take 60)).length ≤ 100000000000000 := by
      have := show_small hA
      rw [hA60] at this
      omega
    have hsb := show_bys hA
    refine gt_ ?_
    refine s_know (a := SA none 10 (.slice b al.length d) al.length (anRow u al)) sel_ (rd_pure (a := b) (n := al.length) (c := d) (row := anRow u al)) fun hcap => ?_
    refine s_look (lk_slv 0 60 (.slice (sladdr b 10 0 d) 60 (d - 0)) (len := al.length) (cap := d) (a := b) (hh := by have := hcap.1; omega)) ?_
    refine s_part 0 60 (by decide) (by omega) (a := b) (cap := d) (m := al.length) sel_ ?_
    refine s_open (B := SA none 10 (.slice (sladdr b 10 0 d) (al.take 60).length (d - 0)) (al.take 60).length (anRow u (al.take 60))) (fun H M h => by rw [hA60]; exact SA.cg (anRow u (al.take 60)) (fun i hi => by unfold anRow; rw [an_take al i hi, Nat.zero_add]) H M h) ?_
    refine s_front (a := Fam al.length (AnD u al)) sel_ (s_open (B := Fam (al.take 60).length (AnD u (al.take 60))) (fun H M h i hi => by unfold AnD; rw [an_take al i (by omega)]; exact h i (by omega)) ?_)
    refine s_front (a := Fam al.length (AnN u al)) sel_ (s_open (B := Fam (al.take 60).length (AnN u (al.take 60))) (fun H M h i hi => by unfold AnN; rw [an_take al i (by omega)]; exact h i (by omega)) ?_)
    rw [show (Value.slice (sladdr b 10 0 d) 60 (d - 0)) = Value.slice (sladdr b 10 0 d) (al.take 60).length (d - 0) by rw [hA60]]
    refine gt_ ?_
    refine s_call (sp := spl_) (hs := print_c L hf (by omega) hp (a := a1) (c := c1) (w := w1) (X := SA (some 42) 8 (.slice a1 L.length c1) L.length (evRow w1 L))) (h := ?_)
    rintro v Bs ⟨rfl, rfl⟩
    refine gt_ ?_
    refine s_call (sp := spl_) (hs := rprint_c L hf (by omega) hp (a := a1) (c := c1) (w := w1) (X := SA (some 42) 8 (.slice a1 L.length c1) L.length (evRow w1 L))) (h := ?_)
    rintro v Bs ⟨rfl, rfl⟩
    refine gt_ ?_
    rw [decide_eq_true (rfl : printN L = printN L)]
    refine gt_ ?_
    refine s_call (sp := spl_) (hs := show_c (al.take 60) hA (by omega) hT (a := (sladdr b 10 0 d)) (c := (d - 0)) (w := u) (X := SA none 10 (.slice (sladdr b 10 0 d) (al.take 60).length (d - 0)) (al.take 60).length (anRow u (al.take 60)))) (h := ?_)
    rintro v Bs ⟨rfl, rfl⟩
    refine gt_ ?_
    refine s_call (sp := spl_) (hs := rshow_c (al.take 60) hA (by omega) hT (a := (sladdr b 10 0 d)) (c := (d - 0)) (w := u) (X := SA none 10 (.slice (sladdr b 10 0 d) (al.take 60).length (d - 0)) (al.take 60).length (anRow u (al.take 60)))) (h := ?_)
    rintro v Bs ⟨rfl, rfl⟩
    refine gt_ ?_
    rw [decide_eq_true (rfl : showN (al.take 60) = showN (al.take 60))]
    refine gt_ ?_
    exact s_ret1 (rs := [.tmp 4]) Tryd.func6 rfl (by intro j; refine RVS.tmp _ rfl ?_; exact RVS.nil) (⟨rfl, rfl⟩) ent_
end Go.Proofs.YtmlddafbenfilaaDoor
