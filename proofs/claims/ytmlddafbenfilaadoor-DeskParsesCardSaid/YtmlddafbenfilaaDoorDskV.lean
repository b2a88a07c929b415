/- What the ties of this seat need: the library's variables as they are laid. -/
import Derived.Test.YtmlddafbenfilaaDoorDskS
import Derived.Test.YtmlddafbenfilaaDoorCamAO
import Derived.Test.YtmlddafbenfilaaDoorCards
import Derived.Test.YtmlddafbenfilaaDoorTie
import Derived.Handed
import Derived.HandedShaped
import Derived.Lay
import Derived.LaidMore
import Derived.SevenTiedAt
import Derived.Stop.LaidErr
import Derived.Stop.Joined
import Derived.Shelf.Vars
namespace Go.Proofs.YtmlddafbenfilaaDoor
open Go.Cam
set_option maxRecDepth 100000
theorem Tryd.own : ownKnob Tryd.prog.godebug = none := by kernel_rfl
theorem Tryd.laidOut : laidOutB Tryd.prog = true := by kernel_rfl
theorem Tryd.star : "*" ++ "errors.errorString" = "*errors.errorString" := by decide
theorem Tryd.rowErr (u : TypeId) (h : Tryd.prog.typeName? 3 u = some "*errors.errorString") : u = 117 :=
  typeName_ptr_named (nm := "errors.errorString") (by rw [Tryd.star]; kernel_rfl) (by kernel_rfl) (by decide) u (by rw [Tryd.star]; exact h)
abbrev laidL : List (String × DataW Unit) := Rows.deskQuotesRow.laid
theorem heap_of_var {P : Program} {W : World} {n : String} {g : Nat} {cs : Array Value} (hg : P.globalNamed n = some g) (h : W.var? P n = some cs) : ∃ t f, W.heap[g]? = some (.cells cs t f) := by
  unfold World.var? at h
  rw [hg, Option.bind_some] at h
  cases hh : W.heap[g]? with
  | none => rw [hh] at h; cases h
  | some o =>
    rw [hh] at h
    cases o with
    | cells c t f => cases h; exact ⟨t, f, rfl⟩
    | _ => cases h
theorem pow_is : (Rows.laid_internal_strconv_uint64pow10 : DataW Unit) = Go.Lib.tabData .u64 Go.Lib.pow10Tab := by kernel_rfl
theorem gl_of {W : World} (hL : laidMetH Tryd.prog laidL W) (hs : W.ShapedOpen Tryd.prog) : GLp (held W) := by
  rw [MakeChecks.laidMetH_plain _ _ _ (by kernel_rfl)] at hL
  have h2 : laidMet Tryd.prog (("internal/strconv.uint64pow10", Go.Lib.tabData .u64 Go.Lib.pow10Tab) :: laidL.drop 3) W := by rw [← pow_is]; exact hL.tail.tail
  have h4 := h2.tail.tail
  have h5 := h4.tail
  obtain ⟨m, hm⟩ := cell_of_shapedOpen_int (g := 0) (t := 3) (k := .i64) (zero := #[.int .i64 0]) hs (of_decide_eq_true (by kernel_rfl)) (by kernel_rfl) rfl (by kernel_rfl) (by kernel_rfl) (by kernel_rfl)
  obtain ⟨cs, hh, hsz, _⟩ := hs.1 0 #[.int .i64 0] 3 (of_decide_eq_true (by kernel_rfl)) (by kernel_rfl)
  have hcs : cs = #[.int .i64 m] := by
    have h1 : W.cell? ⟨0, 0, none⟩ = cs[0]? := cell_of hh 0
    rw [hm] at h1
    obtain ⟨l⟩ := cs
    match l, hsz, h1 with
    | [x], _, h1 => simp at h1; rw [h1]
  subst hcs
  obtain ⟨a1, s1, v1, _⟩ := laid_sentinel h5 (g := 1) (ti := 51) (tp := 117) (te := 119) (ts := 9) (by kernel_rfl) (by kernel_rfl) Tryd.underlying51 Tryd.rowErr Tryd.underlying117 Tryd.underlying119 rfl rfl Tryd.underlying9 (by kernel_rfl) (by kernel_rfl)
  obtain ⟨a2, s2, v2, _⟩ := laid_sentinel h4 (g := 2) (ti := 51) (tp := 117) (te := 119) (ts := 9) (by kernel_rfl) (by kernel_rfl) Tryd.underlying51 Tryd.rowErr Tryd.underlying117 Tryd.underlying119 rfl rfl Tryd.underlying9 (by kernel_rfl) (by kernel_rfl)
  have tab := Go.Lib.tabIs_of_head (g := 3) (t := 113) (e := 96) (n := 20) (by kernel_rfl) (by kernel_rfl) (by kernel_rfl) (by kernel_rfl) (by kernel_rfl) (by kernel_rfl) h2
  obtain ⟨t1, f1, e1⟩ := heap_of_var (g := 1) (by kernel_rfl) v1
  obtain ⟨t2, f2, e2⟩ := heap_of_var (g := 2) (by kernel_rfl) v2
  obtain ⟨t3, f3, e3⟩ := heap_of_var (g := 3) (by kernel_rfl) tab
  exact ⟨⟨m, _, _, hh⟩, ⟨_, _, t1, f1, e1⟩, ⟨_, _, t2, f2, e2⟩, t3, f3, e3⟩
/-- the wrap of a law over laid variables, with the world's shape -/
theorem returns_laid {H : Type} {enc : TypeId × Value → H} {C : Checked} {os : Os} {f : FuncId} {fn : Func} {s : OpenSpec} {cs : ChangeSpec} {conds : List PathCond} {apart fresh handsOn again : Bool} {X : World → Array Value → Prop} {Z : World → Array Value → Prop}
    (hX : ∀ (w w' : World) (args : Array Value), w.heap = w'.heap → X w args → X w' args)
    (own : ownKnob C.prog.godebug = none) (started : os.Started) (noInit : C.prog.inits.idxOf? f = none) (hfn : C.prog.funcs[f]? = some fn)
    (witness : ∃ (w : World) (tape : Tape) (i : Input), w.os = os ∧ (w.forCall tape i).Shaped C.prog ∧ i.vars = [] ∧ Input.okWide C.prog (w.forCall tape i) .any w.heap.size f i ∧
      ((cs.pre enc C.prog fn conds apart (w.forCall tape i).memory i.args ∧ X (w.forCall tape i).memory i.args) ∧ Z (w.forCall tape i).memory i.args) ∧ ({} : Assume).holds C.prog (lone (Frame.enter C.prog f i.args .normal) [] (w.forCall tape i)))
    (contract : ∀ (W : World) (base : Nat) (args : Array Value) (ds gs : List (DataW H)) (before : List MemPlace),
      (∀ (j : Nat) t v, fn.params[j]? = some t → args[j]? = some v → Value.okWide C.prog W .any base t v) →
      DataW.Whole enc C.prog fn.params.toList cs.vars apart W args.toList ds gs before →
      W.ShapedOpen C.prog → X W args →
      Calls C.prog f args W fun e W' => ∃ v, e = .returned v ∧ cs.post enc C.prog fn apart fresh handsOn again W args v W') :
    ReturnsInHanded {} C os f .any (fun w args => (cs.pre enc C.prog fn conds apart w args ∧ X w args) ∧ Z w args) (cs.post enc C.prog fn apart fresh handsOn again) := by
  refine returnsInHanded_of_calls own started noInit witness ?_
  intro w tape i _ hsh _ hok hpre _
  obtain ⟨_, _, _, fn', hfn', _, _, _, _, hval⟩ := hok
  have e : fn' = fn := Option.some.inj (hfn'.symm.trans hfn)
  subst e
  obtain ⟨⟨⟨ds, gs, before, hw, hc⟩, hx⟩, hz⟩ := hpre
  have hw' := DataW.Whole.of_heap (w' := w.forCall tape i) (by rfl) hw
  refine (contract (w.forCall tape i) w.heap.size i.args ds gs before hval hw' hsh (hX _ _ _ (by rfl) hx)).mono fun e W' ⟨v, he, hp⟩ => ?_
  subst he
  exact ChangeSpec.post_blind hp
theorem str_list (s : ByteArray) : s = strB (s.data.toList.map UInt8.toNat) := by
  rw [← strB_of]
theorem str_bys (s : ByteArray) : Bys (s.data.toList.map UInt8.toNat) := fun c hc => by
  obtain ⟨x, _, rfl⟩ := List.mem_map.1 hc
  exact x.toNat_lt
theorem str_len (s : ByteArray) : (s.data.toList.map UInt8.toNat).length = s.size := by rw [List.length_map, Array.length_toList]; rfl
end Go.Proofs.YtmlddafbenfilaaDoor
/- The document's words and numbers. -/
namespace Go.Proofs.YtmlddafbenfilaaDoor
open Go.Cam
set_option maxRecDepth 100000
theorem txR_snoc {ws : List (List Nat)} {w : List Nat} (i : Nat) (hi : i < ws.length + 1) : rcat ws.length (txR ws) (fun _ => [.string (strB w)]) i = txR (ws ++ [w]) i := by
  unfold rcat
  by_cases h : i < ws.length
  · rw [if_pos h]
    simp [List.getD_eq_getElem?_getD, List.getElem?_append_left h]
  · have : i = ws.length := by omega
    subst this
    rw [if_neg h]
    simp [List.getD_eq_getElem?_getD]
theorem drop_mid {s : List Nat} {p i : Nat} (h : p ≤ i) (hi : i ≤ s.length) : s.drop p = (s.take i).drop p ++ s.drop i := by
  have e : s.take i ++ s.drop i = s := List.take_append_drop i s
  have h1 : p ≤ (s.take i).length := by rw [List.length_take]; omega
  conv => lhs; rw [← e, List.drop_append_of_le_length h1]
theorem mid_snoc {s : List Nat} {p i : Nat} (h : p ≤ i) (hi : i < s.length) : (s.take (i + 1)).drop p = (s.take i).drop p ++ [s.getD i 0] := by
  have e : s.take (i + 1) = s.take i ++ [s.getD i 0] := by
    rw [List.take_add_one, List.getElem?_eq_getElem hi, List.getD_eq_getElem?_getD, List.getElem?_eq_getElem hi]; rfl
  rw [e, List.drop_append_of_le_length (by rw [List.length_take]; omega)]
theorem mid_not {s : List Nat} {p i x : Nat} (h : p ≤ i) (hi : i < s.length) (hno : x ∉ (s.take i).drop p) (h3 : s.getD i 0 ≠ x) : x ∉ (s.take (i + 1)).drop p := by
  rw [mid_snoc h hi]
  intro q
  rcases List.mem_append.1 q with q | q
  · exact hno q
  · exact h3 (List.mem_singleton.1 q).symm
theorem mid_nil {s : List Nat} {i : Nat} : (s.take i).drop i = [] := List.drop_eq_nil_of_le (by rw [List.length_take]; omega)
set_option maxHeartbeats 16000000 in
theorem rwords_c (s : List Nat) (hs : Bys s) (hl : s.length ≤ 1000000) : Ctr Tryd.prog 45 [.string (strB s)] [] (fun v Bs => ∃ a c, v = .slice a (splitB s).length c ∧ Bs = [SA (some 9) 1 (.slice a (splitB s).length c) (splitB s).length (txR (splitB s))]) := by
  refine s_enter 33 [(0, _)] (fun F => [F]) Tryd.func45 fun F => ?_
  refine gt_ ?_
  refine s_bs0 (sz := 1) (row := txR []) fun a0 => ?_
  refine s_open (B := SA (some 9) 1 (.slice a0 ([] : List (List Nat)).length 0) ([] : List (List Nat)).length (txR [])) (fun _ _ h => h) ?_
  refine gt_ ?_
  refine s_loop (fun y : Nat × Nat × List (List Nat) × Option Addr × Nat => [(0, .string (strB s)), (3, .slice y.2.2.2.1 y.2.2.1.length y.2.2.2.2), (4, .int .i64 (y.2.1 : Int)), (5, .int .i64 (y.1 : Int))]) (fun y => [SA (some 9) 1 (.slice y.2.2.2.1 y.2.2.1.length y.2.2.2.2) y.2.2.1.length (txR y.2.2.1), F]) (fun y => y.2.2.1.length ≤ y.1 ∧ ((y.1 ≤ s.length ∧ y.2.1 ≤ y.1 ∧ 32 ∉ (s.take y.1).drop y.2.1 ∧ splitB s = y.2.2.1 ++ splitB (s.drop y.2.1)) ∨ (y.1 = s.length + 1 ∧ splitB s = y.2.2.1))) (fun y => s.length + 1 - y.1) (0, 0, [], a0, 0) ⟨Nat.le_refl _, .inl ⟨Nat.zero_le _, Nat.le_refl _, by simp, rfl⟩⟩ ent_ ?_
  rintro ⟨i, p, acc, a, c⟩ ⟨hac, hinv⟩ next
  dsimp only at hac hinv
  show RunS _ _ _ _ _ [(0, .string (strB s)), (3, .slice a acc.length c), (4, .int .i64 (p : Int)), (5, .int .i64 (i : Int))] [SA (some 9) 1 (.slice a acc.length c) acc.length (txR acc), F]
  refine gt_ ?_
  cases hc : decide ((i : Int) ≤ (s.length : Int)) with
  | false =>
    have hc2 := of_decide_eq_false hc
    have hfin : splitB s = acc := by
      rcases hinv with h | h
      · exact absurd h.1 (by omega)
      · exact h.2
    rw [hfin]
    refine gt_ ?_
    exact s_ret1 (rs := [.tmp 2]) Tryd.func45 rfl (by intro j; refine RVS.tmp _ rfl ?_; exact RVS.nil) (⟨a, c, rfl, rfl⟩) ent_
  | true =>
    have hc2 := of_decide_eq_true hc
    obtain ⟨hi, hp, hno, hsp⟩ : i ≤ s.length ∧ p ≤ i ∧ 32 ∉ (s.take i).drop p ∧ splitB s = acc ++ splitB (s.drop p) := by
      rcases hinv with h | h
      · exact h
      · exact absurd h.1 (by omega)
    have hmid := drop_mid hp hi
    refine gt_ ?_
    cases he : ((i : Int) == (s.length : Int)) with
    | true =>
      have he2 : i = s.length := by have := eq_of_beq he; omega
      have hnew : splitB s = acc ++ [(s.take i).drop p] := by
        rw [hsp, hmid, he2, List.drop_length, List.append_nil, ← he2, splitB_word _ hno]
      refine gt_ ?_
      refine s_look (lk_ssl p i (s := s) hp hi) ?_
      refine s_step (st_bs1 (sz := 1) (cells := [.string (strB ((s.take i).drop p))]) rfl) ?_
      rintro v Bs ⟨a2, rfl, rfl⟩
      refine s_app (a := a) (len := acc.length) (cap := c) (b := a2) (m := 1) (c := 1) sel_ (by repeat (first | with_reducible exact SelR.here | with_reducible apply SelR.there)) rfl (fun a3 c3 => ?_)
      refine s_open (SA.cg (txR (acc ++ [(s.take i).drop p])) fun i hi => txR_snoc i hi) ?_
      rw [show acc.length + 1 = (acc ++ [(s.take i).drop p]).length by simp]
      refine gt_ ?_
      exact s_entF ent_ (s_keep _ (next (i + 1, i + 1, acc ++ [(s.take i).drop p], a3, c3) ⟨by simp; omega, .inr ⟨by show i + 1 = s.length + 1; omega, hnew⟩⟩ (by show s.length + 1 - (i + 1) < s.length + 1 - i; omega)))
    | false =>
      have he2 : i < s.length := by
        have := ne_of_beq_false he
        omega
      have hcs := drop_cons he2
      refine gt_ ?_
      cases h32 : (((s.getD i 0 : Nat) : Int) == 32) with
      | true =>
        have h3 : s.getD i 0 = 32 := by have := eq_of_beq h32; omega
        have hnew : splitB s = (acc ++ [(s.take i).drop p]) ++ splitB (s.drop (i + 1)) := by
          rw [hsp, hmid, hcs, h3, splitB_app _ _ hno, List.append_assoc]; rfl
        refine gt_ ?_
        refine s_look (lk_ssl p i (s := s) hp hi) ?_
        refine s_step (st_bs1 (sz := 1) (cells := [.string (strB ((s.take i).drop p))]) rfl) ?_
        rintro v Bs ⟨a2, rfl, rfl⟩
        refine s_app (a := a) (len := acc.length) (cap := c) (b := a2) (m := 1) (c := 1) sel_ (by repeat (first | with_reducible exact SelR.here | with_reducible apply SelR.there)) rfl (fun a3 c3 => ?_)
        refine s_open (SA.cg (txR (acc ++ [(s.take i).drop p])) fun i hi => txR_snoc i hi) ?_
        rw [show acc.length + 1 = (acc ++ [(s.take i).drop p]).length by simp]
        refine gt_ ?_
        exact s_entF ent_ (s_keep _ (next (i + 1, i + 1, acc ++ [(s.take i).drop p], a3, c3) ⟨by simp; omega, .inl ⟨he2, Nat.le_refl _, by rw [mid_nil]; simp, hnew⟩⟩ (by show s.length + 1 - (i + 1) < s.length + 1 - i; omega)))
      | false =>
        have h3 : s.getD i 0 ≠ 32 := fun e => by rw [e] at h32; exact absurd h32 (by decide)
        have hno2 : 32 ∉ (s.take (i + 1)).drop p := mid_not hp he2 hno h3
        refine gt_ ?_
        exact s_entF ent_ (s_keep _ (next (i + 1, p, acc, a, c) ⟨by show acc.length ≤ i + 1; omega, .inl ⟨he2, by show p ≤ i + 1; omega, hno2, hsp⟩⟩ (by show s.length + 1 - (i + 1) < s.length + 1 - i; omega)))
theorem head_at {s : List Nat} (h : 0 < s.length) : s.head? = some (s.getD 0 0) := by
  cases s with
  | nil => exact absurd h (by decide)
  | cons c r => rfl
theorem take_fold (s : List Nat) (i : Nat) (hi : i < s.length) (n : Int) : (s.take (i + 1)).foldl numW n = numW ((s.take i).foldl numW n) (s.getD i 0) := by
  have e : s.take (i + 1) = s.take i ++ [s.getD i 0] := by
    rw [List.take_add_one, List.getElem?_eq_getElem hi, List.getD_eq_getElem?_getD, List.getElem?_eq_getElem hi]; rfl
  rw [e, List.foldl_append]; rfl
theorem sub48 {c : Nat} (h1 : 48 ≤ c) (h2 : c ≤ 57) : IntKind.i64.wrap (IntKind.u8.wrap ((c : Int) - 48)) = (c : Int) - 48 := by
  rw [show ((c : Int) - 48) = ((c - 48 : Nat) : Int) by omega, wrap_u8, Nat.mod_eq_of_lt (by omega), wrap_id (by omega) (by omega)]
set_option maxHeartbeats 16000000 in
theorem rnumber_c (s : List Nat) (hs : Bys s) (hl : s.length ≤ 1000000) : Ctr Tryd.prog 46 [.string (strB s)] [] (fun v Bs => v = .int .i64 (numR s) ∧ Bs = []) := by
  refine s_enter 44 [(0, _)] (fun F => [F]) Tryd.func46 fun F => ?_
  refine gt_ ?_
  refine s_loop (fun y : Nat × Int => [(0, .string (strB s)), (3, .int .i64 y.2), (4, .int .i64 (y.1 : Int))]) (fun _ => [F]) (fun y => y.1 ≤ s.length ∧ y.1 ≤ 21 ∧ y.2 = (s.take y.1).foldl numW 0) (fun y => s.length - y.1) (0, 0) ⟨Nat.zero_le _, Nat.zero_le _, rfl⟩ ent_ ?_
  rintro ⟨i, n⟩ ⟨hi, hi21, hn⟩ next
  dsimp only at hi hi21 hn
  show RunS _ _ _ _ _ [(0, .string (strB s)), (3, .int .i64 n), (4, .int .i64 (i : Int))] [F]
  refine gt_ ?_
  cases h1 : decide ((i : Int) < (s.length : Int)) with
  | false =>
    have h2 := of_decide_eq_false h1
    have hfin : (s.take 21).foldl numW 0 = n := by rw [hn, List.take_of_length_le (by omega : s.length ≤ i), List.take_of_length_le (by omega : s.length ≤ 21)]
    refine gt_ ?_
    cases hp : decide ((s.length : Int) > 0) with
    | false =>
      have hp2 := of_decide_eq_false hp
      have hs0 : s = [] := List.eq_nil_of_length_eq_zero (by omega)
      have e1 : numR s = w64 (0 - n) := by unfold numR; rw [hfin, if_neg (by rw [hs0]; simp)]
      rw [e1]
      refine gt_ ?_
      exact s_ret1 (rs := [.tmp 2]) Tryd.func46 rfl (by intro j; refine RVS.tmp _ rfl ?_; exact RVS.nil) (⟨rfl, rfl⟩) ent_
    | true =>
      have hp2 := of_decide_eq_true hp
      have hp3 : 0 < s.length := by omega
      have hhd := head_at hp3
      refine gt_ ?_
      cases hm : (((s.getD 0 0 : Nat) : Int) == 45) with
      | true =>
        have hm2 : s.getD 0 0 = 45 := by have := eq_of_beq hm; omega
        have e1 : numR s = n := by unfold numR; rw [hfin, if_pos (by rw [hhd, hm2])]
        rw [e1]
        refine gt_ ?_
        exact s_ret1 (rs := [.tmp 2]) Tryd.func46 rfl (by intro j; refine RVS.tmp _ rfl ?_; exact RVS.nil) (⟨rfl, rfl⟩) ent_
      | false =>
        have hm2 : s.getD 0 0 ≠ 45 := fun e => by rw [e] at hm; exact absurd hm (by decide)
        have e1 : numR s = w64 (0 - n) := by unfold numR; rw [hfin, if_neg (by rw [hhd]; intro h; exact hm2 (Option.some.inj h))]
        rw [e1]
        refine gt_ ?_
        exact s_ret1 (rs := [.tmp 2]) Tryd.func46 rfl (by intro j; refine RVS.tmp _ rfl ?_; exact RVS.nil) (⟨rfl, rfl⟩) ent_
  | true =>
    have h2 := of_decide_eq_true h1
    have h2n : i < s.length := by omega
    refine gt_ ?_
    cases h3 : decide ((i : Int) < 21) with
    | false =>
      have h4 := of_decide_eq_false h3
      have hfin : (s.take 21).foldl numW 0 = n := by rw [hn, show i = 21 by omega]
      refine gt_ ?_
      cases hp : decide ((s.length : Int) > 0) with
      | false =>
        have hp2 := of_decide_eq_false hp
        have hs0 : s = [] := List.eq_nil_of_length_eq_zero (by omega)
        have e1 : numR s = w64 (0 - n) := by unfold numR; rw [hfin, if_neg (by rw [hs0]; simp)]
        rw [e1]
        refine gt_ ?_
        exact s_ret1 (rs := [.tmp 2]) Tryd.func46 rfl (by intro j; refine RVS.tmp _ rfl ?_; exact RVS.nil) (⟨rfl, rfl⟩) ent_
      | true =>
        have hp2 := of_decide_eq_true hp
        have hp3 : 0 < s.length := by omega
        have hhd := head_at hp3
        refine gt_ ?_
        cases hm : (((s.getD 0 0 : Nat) : Int) == 45) with
        | true =>
          have hm2 : s.getD 0 0 = 45 := by have := eq_of_beq hm; omega
          have e1 : numR s = n := by unfold numR; rw [hfin, if_pos (by rw [hhd, hm2])]
          rw [e1]
          refine gt_ ?_
          exact s_ret1 (rs := [.tmp 2]) Tryd.func46 rfl (by intro j; refine RVS.tmp _ rfl ?_; exact RVS.nil) (⟨rfl, rfl⟩) ent_
        | false =>
          have hm2 : s.getD 0 0 ≠ 45 := fun e => by rw [e] at hm; exact absurd hm (by decide)
          have e1 : numR s = w64 (0 - n) := by unfold numR; rw [hfin, if_neg (by rw [hhd]; intro h; exact hm2 (Option.some.inj h))]
          rw [e1]
          refine gt_ ?_
          exact s_ret1 (rs := [.tmp 2]) Tryd.func46 rfl (by intro j; refine RVS.tmp _ rfl ?_; exact RVS.nil) (⟨rfl, rfl⟩) ent_
    | true =>
      have h4 := of_decide_eq_true h3
      have hstep := take_fold s i h2n 0
      rw [← hn] at hstep
      refine gt_ ?_
      cases h5 : decide (((s.getD i 0 : Nat) : Int) ≥ 48) with
      | false =>
        have h6 := of_decide_eq_false h5
        have hW : numW n (s.getD i 0) = n := by unfold numW; rw [if_neg (by omega)]
        rw [hW] at hstep
        refine gt_ ?_
        exact s_entF ent_ (s_keep _ (next (i + 1, n) ⟨h2n, by show i + 1 ≤ 21; omega, hstep.symm⟩ (by show s.length - (i + 1) < s.length - i; omega)))
      | true =>
        have h6 := of_decide_eq_true h5
        refine gt_ ?_
        cases h7 : decide (((s.getD i 0 : Nat) : Int) ≤ 57) with
        | false =>
          have h8 := of_decide_eq_false h7
          have hW : numW n (s.getD i 0) = n := by unfold numW; rw [if_neg (by omega)]
          rw [hW] at hstep
          refine gt_ ?_
          exact s_entF ent_ (s_keep _ (next (i + 1, n) ⟨h2n, by show i + 1 ≤ 21; omega, hstep.symm⟩ (by show s.length - (i + 1) < s.length - i; omega)))
        | true =>
          have h8 := of_decide_eq_true h7
          have hW : numW n (s.getD i 0) = w64 (w64 (10 * n) - (((s.getD i 0 : Nat) : Int) - 48)) := by unfold numW; rw [if_pos (by omega)]
          rw [hW] at hstep
          refine gt_ ?_
          rw [sub48 (by omega) (by omega)]
          exact s_entF ent_ (s_keep _ (next (i + 1, w64 (w64 (10 * n) - (((s.getD i 0 : Nat) : Int) - 48))) ⟨h2n, by show i + 1 ≤ 21; omega, hstep.symm⟩ (by show s.length - (i + 1) < s.length - i; omega)))
end Go.Proofs.YtmlddafbenfilaaDoor
/- The document's line of an event. -/
namespace Go.Proofs.YtmlddafbenfilaaDoor
open Go.Cam
set_option maxRecDepth 100000
theorem wd_rows (e : Ev) : ∀ i, i < 8 → rowsOf 1 (wdL e) i = txR (wordsN e) i := fun i hi => by
  match i, hi with
  | 0, _ => rfl
  | 1, _ => rfl
  | 2, _ => rfl
  | 3, _ => rfl
  | 4, _ => rfl
  | 5, _ => rfl
  | 6, _ => rfl
  | 7, _ => rfl
theorem joinB_snoc : ∀ (ws : List (List Nat)) (w : List Nat), ws ≠ [] → joinB (ws ++ [w]) = joinB ws ++ 32 :: w
  | [], _, h => absurd rfl h
  | [x], w, _ => rfl
  | x :: y :: ws, w, _ => by
    have ih := joinB_snoc (y :: ws) w (by simp)
    show x ++ 32 :: joinB ((y :: ws) ++ [w]) = (x ++ 32 :: joinB (y :: ws)) ++ 32 :: w
    rw [ih, List.append_assoc]; rfl
theorem words_sum {e : Ev} (h : e.fit) : ((wordsN e).map (·.length)).sum ≤ 90000000000106 := by
  have a1 := itoaN_len h.ok.k1
  have a2 := itoaN_len h.ok.k2
  have a3 := itoaN_len h.ok.k3
  have a4 := itoaN_len h.ok.k4
  have a5 := itoaN_len h.ok.k5
  have a6 := quoteN_len e.path
  have a7 := quoteN_len e.name
  have a8 := quoteN_len e.data
  have b1 := h.l1
  have b2 := h.l2
  have b3 := h.l3
  simp only [wordsN, List.map_cons, List.map_nil, List.sum_cons, List.sum_nil]
  omega
theorem join_take {e : Ev} (h : e.fit) (k : Nat) : (joinB ((wordsN e).take k)).length ≤ 90000000000200 := by
  have h1 := joinB_len ((wordsN e).take k)
  have h2 := take_sum ((wordsN e).map (·.length)) k
  rw [← List.map_take] at h2
  have h3 := words_sum h
  have h4 : ((wordsN e).take k).length ≤ 8 := List.length_take_le' _ _
  omega
theorem word_len {e : Ev} (h : e.fit) (k : Nat) : ((wordsN e).getD k []).length ≤ 90000000000106 := by
  rw [List.getD_eq_getElem?_getD]
  cases hk : (wordsN e)[k]? with
  | none => simp
  | some w => exact Nat.le_trans (sum_mem (List.mem_map.2 ⟨w, List.mem_of_getElem? hk, rfl⟩)) (words_sum h)
theorem joinB_step (e : Ev) {i : Nat} (h1 : 1 ≤ i) (h2 : i < 8) : joinB ((wordsN e).take (i + 1)) = (joinB ((wordsN e).take i) ++ [32]) ++ (wordsN e).getD i [] := by
  have hl : i < (wordsN e).length := h2
  have e1 : (wordsN e).take (i + 1) = (wordsN e).take i ++ [(wordsN e).getD i []] := by
    rw [List.take_add_one, List.getElem?_eq_getElem hl, List.getD_eq_getElem?_getD, List.getElem?_eq_getElem hl]; rfl
  have hne : (wordsN e).take i ≠ [] := fun h => by
    have := congrArg List.length h
    rw [List.length_take, List.length_nil] at this
    omega
  rw [e1, joinB_snoc _ _ hne, List.append_assoc]; rfl
theorem dW_low {n : Nat} (h1 : 1 ≤ n) (h2 : n ≤ 5) : dW.getD (n - 1) [] = [48] := by
  match n, h1, h2 with
  | 1, _, _ => rfl
  | 2, _, _ => rfl
  | 3, _, _ => rfl
  | 4, _, _ => rfl
  | 5, _, _ => rfl
theorem dW_high {n : Nat} (h1 : 6 ≤ n) (h2 : n ≤ 8) : dW.getD (n - 1) [] = [34, 34] := by
  match n, h1, h2 with
  | 6, _, _ => rfl
  | 7, _, _ => rfl
  | 8, _, _ => rfl
set_option maxHeartbeats 32000000 in
theorem rline_c (e : Ev) (he : e.fit) {D : HP} {a : Option Addr} {c : Nat} [Rd D 1 (.slice a e.data.length c) e.data.length (byR e.data)] : Ctr Tryd.prog 31 [.agg (evL e a c).toArray] [GL, D] (fun v Bs => v = .string (strB (lineN e)) ∧ Bs = [D]) := by
  have hJ := join_take he
  have hWl := word_len he
  have hWb := getD_bys (wordsN_bys he.ok)
  have hb48 : Bys [48] := litb rfl
  have hb34 : Bys [34, 34] := litb rfl
  have hJl : ∀ n, cntW (wordsN e) dW 8 = n → joinB ((wordsN e).take n) = lineN e := fun n h => by unfold lineN; rw [h]
  refine s_enter 80 [(0, _)] (fun F => [_, _, F]) Tryd.func31 fun F => ?_
  refine gt_ ?_
  refine s_box fun r1 => ?_
  refine gt_ ?_
  apply s_join (α := Option Addr) (fun o => [(1, .pointer (some ⟨r1, 0, none⟩)), (3, .slice o 8 8), (4, .int .i64 ((8 : Nat) : Int))]) (fun o => [SA (some 9) 1 (.slice o 8 8) 8 (txR (wordsN e)), D, F]) (fun _ => True)
  case h =>
    intro K
    refine s_drawN 0 [.q 0, .q 1, .q 2, .q 3, .q 4, .q 5, .q 6, .q 7, .q 8, .q 9, .q 10, .q 11, .q 12, .q 13, .q 14, .q 15, .q 16, .q 19, .q 20, .q 23, .q 24, .alt2 17 18 21, .s 22, .q 25, .s 26, .q 27] ?_
    refine dt_ ?_
    refine d_call (ho := rfl) (v := .string (strB (itoaN e.kind))) (sp := spl_) (hs := itoa_c (n := e.kind) he.ok.k1) (hq := by rintro r Bs ⟨rfl, rfl⟩; exact ⟨rfl, (by (try simp only [List.cons_append, List.nil_append]); repeat (first | exact Ent.nil | refine Ent.per (by repeat (first | with_reducible exact Sel.here | with_reducible apply Sel.there)) ?_ | refine Ent.cons (by repeat (first | with_reducible exact Sel.here | with_reducible apply Sel.there)) ?_))⟩) (h := ?_)
    refine dt_ ?_
    refine d_call (ho := rfl) (v := .string (strB (itoaN e.pid))) (sp := spl_) (hs := itoa_c (n := e.pid) he.ok.k2) (hq := by rintro r Bs ⟨rfl, rfl⟩; exact ⟨rfl, (by (try simp only [List.cons_append, List.nil_append]); repeat (first | exact Ent.nil | refine Ent.per (by repeat (first | with_reducible exact Sel.here | with_reducible apply Sel.there)) ?_ | refine Ent.cons (by repeat (first | with_reducible exact Sel.here | with_reducible apply Sel.there)) ?_))⟩) (h := ?_)
    refine dt_ ?_
    refine d_call (ho := rfl) (v := .string (strB (itoaN e.fd))) (sp := spl_) (hs := itoa_c (n := e.fd) he.ok.k3) (hq := by rintro r Bs ⟨rfl, rfl⟩; exact ⟨rfl, (by (try simp only [List.cons_append, List.nil_append]); repeat (first | exact Ent.nil | refine Ent.per (by repeat (first | with_reducible exact Sel.here | with_reducible apply Sel.there)) ?_ | refine Ent.cons (by repeat (first | with_reducible exact Sel.here | with_reducible apply Sel.there)) ?_))⟩) (h := ?_)
    refine dt_ ?_
    refine d_call (ho := rfl) (v := .string (strB (itoaN e.n))) (sp := spl_) (hs := itoa_c (n := e.n) he.ok.k4) (hq := by rintro r Bs ⟨rfl, rfl⟩; exact ⟨rfl, (by (try simp only [List.cons_append, List.nil_append]); repeat (first | exact Ent.nil | refine Ent.per (by repeat (first | with_reducible exact Sel.here | with_reducible apply Sel.there)) ?_ | refine Ent.cons (by repeat (first | with_reducible exact Sel.here | with_reducible apply Sel.there)) ?_))⟩) (h := ?_)
    refine dt_ ?_
    refine d_call (ho := rfl) (v := .string (strB (itoaN e.m))) (sp := spl_) (hs := itoa_c (n := e.m) he.ok.k5) (hq := by rintro r Bs ⟨rfl, rfl⟩; exact ⟨rfl, (by (try simp only [List.cons_append, List.nil_append]); repeat (first | exact Ent.nil | refine Ent.per (by repeat (first | with_reducible exact Sel.here | with_reducible apply Sel.there)) ?_ | refine Ent.cons (by repeat (first | with_reducible exact Sel.here | with_reducible apply Sel.there)) ?_))⟩) (h := ?_)
    refine dt_ ?_
    refine d_alt2 ?_ ?_
    · refine d_step rfl (st_s2R (s := e.path) he.ok.k6) ?_
      rintro v Bs ⟨rA, cA, rfl, rfl⟩
      refine dt_ ?_
      refine d_alt ?_ ?_
      · refine d_step rfl (st_call (sp := spl_) (hs := rquote_c (A := RO 5 rA e.path cA) (a := some ⟨rA, 0, none⟩) (n := e.path.length) (c := cA) e.path he.ok.k6 rfl he.l1)) ?_
        rintro v Bs ⟨Cs, ⟨rfl, rfl⟩, rfl⟩
        refine dt_ ?_
        refine d_step rfl (st_s2R (s := e.name) he.ok.k7) ?_
        rintro v Bs ⟨rB, cB, rfl, rfl⟩
        refine dt_ ?_
        refine d_step rfl (st_call (sp := spl_) (hs := rquote_c (A := RO 5 rB e.name cB) (a := some ⟨rB, 0, none⟩) (n := e.name.length) (c := cB) e.name he.ok.k7 rfl he.l2)) ?_
        rintro v Bs ⟨Cs, ⟨rfl, rfl⟩, rfl⟩
        refine dt_ ?_
        refine d_call (ho := rfl) (v := .string (strB (quoteN e.data))) (sp := spl_) (hs := rquote_c (A := D) (a := a) (n := e.data.length) (c := c) e.data he.ok.k8 rfl he.l3) (hq := by rintro r Bs ⟨rfl, rfl⟩; exact ⟨rfl, (by (try simp only [List.cons_append, List.nil_append]); repeat (first | exact Ent.nil | refine Ent.per (by repeat (first | with_reducible exact Sel.here | with_reducible apply Sel.there)) ?_ | refine Ent.cons (by repeat (first | with_reducible exact Sel.here | with_reducible apply Sel.there)) ?_))⟩) (h := ?_)
        refine dt_ ?_
        refine d_step rfl (st_bs (sz := 1) (cells := wdL e) (by intro j; rfl)) ?_
        rintro v Bs ⟨o, rfl, rfl⟩
        refine dt_ ?_
        refine gt_ ?_
        refine s_open (SA.cg (txR (wordsN e)) (wd_rows e)) ?_
        exact s_entF ent_ (s_keep _ (K o trivial))
      · refine d_step rfl (st_s2R (s := e.name) he.ok.k7) ?_
        rintro v Bs ⟨rB, cB, rfl, rfl⟩
        refine dt_ ?_
        refine d_step rfl (st_call (sp := spl_) (hs := rquote_c (A := RO 5 rA e.path cA) (a := some ⟨rA, 0, none⟩) (n := e.path.length) (c := cA) e.path he.ok.k6 rfl he.l1)) ?_
        rintro v Bs ⟨Cs, ⟨rfl, rfl⟩, rfl⟩
        refine dt_ ?_
        refine d_step rfl (st_call (sp := spl_) (hs := rquote_c (A := RO 5 rB e.name cB) (a := some ⟨rB, 0, none⟩) (n := e.name.length) (c := cB) e.name he.ok.k7 rfl he.l2)) ?_
        rintro v Bs ⟨Cs, ⟨rfl, rfl⟩, rfl⟩
        refine dt_ ?_
        refine d_call (ho := rfl) (v := .string (strB (quoteN e.data))) (sp := spl_) (hs := rquote_c (A := D) (a := a) (n := e.data.length) (c := c) e.data he.ok.k8 rfl he.l3) (hq := by rintro r Bs ⟨rfl, rfl⟩; exact ⟨rfl, (by (try simp only [List.cons_append, List.nil_append]); repeat (first | exact Ent.nil | refine Ent.per (by repeat (first | with_reducible exact Sel.here | with_reducible apply Sel.there)) ?_ | refine Ent.cons (by repeat (first | with_reducible exact Sel.here | with_reducible apply Sel.there)) ?_))⟩) (h := ?_)
        refine dt_ ?_
        refine d_step rfl (st_bs (sz := 1) (cells := wdL e) (by intro j; rfl)) ?_
        rintro v Bs ⟨o, rfl, rfl⟩
        refine dt_ ?_
        refine gt_ ?_
        refine s_open (SA.cg (txR (wordsN e)) (wd_rows e)) ?_
        exact s_entF ent_ (s_keep _ (K o trivial))
    · refine d_step rfl (st_s2R (s := e.name) he.ok.k7) ?_
      rintro v Bs ⟨rB, cB, rfl, rfl⟩
      refine dt_ ?_
      refine d_step rfl (st_s2R (s := e.path) he.ok.k6) ?_
      rintro v Bs ⟨rA, cA, rfl, rfl⟩
      refine dt_ ?_
      refine d_step rfl (st_call (sp := spl_) (hs := rquote_c (A := RO 5 rA e.path cA) (a := some ⟨rA, 0, none⟩) (n := e.path.length) (c := cA) e.path he.ok.k6 rfl he.l1)) ?_
      rintro v Bs ⟨Cs, ⟨rfl, rfl⟩, rfl⟩
      refine dt_ ?_
      refine d_step rfl (st_call (sp := spl_) (hs := rquote_c (A := RO 5 rB e.name cB) (a := some ⟨rB, 0, none⟩) (n := e.name.length) (c := cB) e.name he.ok.k7 rfl he.l2)) ?_
      rintro v Bs ⟨Cs, ⟨rfl, rfl⟩, rfl⟩
      refine dt_ ?_
      refine d_call (ho := rfl) (v := .string (strB (quoteN e.data))) (sp := spl_) (hs := rquote_c (A := D) (a := a) (n := e.data.length) (c := c) e.data he.ok.k8 rfl he.l3) (hq := by rintro r Bs ⟨rfl, rfl⟩; exact ⟨rfl, (by (try simp only [List.cons_append, List.nil_append]); repeat (first | exact Ent.nil | refine Ent.per (by repeat (first | with_reducible exact Sel.here | with_reducible apply Sel.there)) ?_ | refine Ent.cons (by repeat (first | with_reducible exact Sel.here | with_reducible apply Sel.there)) ?_))⟩) (h := ?_)
      refine dt_ ?_
      refine d_step rfl (st_bs (sz := 1) (cells := wdL e) (by intro j; rfl)) ?_
      rintro v Bs ⟨o, rfl, rfl⟩
      refine dt_ ?_
      refine gt_ ?_
      refine s_open (SA.cg (txR (wordsN e)) (wd_rows e)) ?_
      exact s_entF ent_ (s_keep _ (K o trivial))
  case K =>
    rintro o _
    refine s_loop (fun n : Nat => [(1, .pointer (some ⟨r1, 0, none⟩)), (3, .slice o 8 8), (4, .int .i64 (n : Int))]) (fun _ => [SA (some 9) 1 (.slice o 8 8) 8 (txR (wordsN e)), D, F]) (fun n => 1 ≤ n ∧ n ≤ 8 ∧ cntW (wordsN e) dW 8 = cntW (wordsN e) dW n) (fun n => n) 8 ⟨by decide, by decide, rfl⟩ ent_ ?_
    rintro n ⟨hn1, hn8, hn⟩ next
    refine gt_ ?_
    cases hg : decide ((n : Int) > 1) with
    | false =>
      have hg2 := of_decide_eq_false hg
      have e1 : cntW (wordsN e) dW n = n := cntW_one _ _ _ (by omega)
      refine gt_ ?_
      refine s_look (lk_ixs (v := .slice o 8 8) (i := 0)) ?_
      refine s_look (lk_lde (v := .slice o 8 8) (u := .string (strB ((wordsN e).getD 0 [])))) ?_
      rw [show (wordsN e).getD 0 [] = joinB ((wordsN e).take 1) from rfl]
      refine gt_ ?_
      refine s_loop (fun i : Nat => [(3, .slice o 8 8), (4, .int .i64 (n : Int)), (5, .string (strB (joinB ((wordsN e).take i)))), (6, .int .i64 (i : Int))]) (fun _ => [SA (some 9) 1 (.slice o 8 8) 8 (txR (wordsN e)), D, F]) (fun i => 1 ≤ i ∧ i ≤ n) (fun i => n - i) 1 ⟨Nat.le_refl _, hn1⟩ ent_ ?_
      rintro i ⟨hi1, hi2⟩ next2
      have hJi := hJ i
      have hWi := hWl i
      refine gt_ ?_
      refine s_if (fun hlt => ?_) (fun hlt => ?_)
      · have hi3 : i < n := by omega
        refine gt_ ?_
        refine s_look (lk_cat (a := joinB ((wordsN e).take i)) (b := [32]) (by simp only [List.length_singleton]; omega)) ?_
        refine gt_ ?_
        try refine s_look (lk_cat (a := joinB ((wordsN e).take i) ++ [32]) (b := (wordsN e).getD i []) (by simp only [List.length_append, List.length_singleton]; omega)) ?_
        rw [← joinB_step e hi1 (by omega)]
        refine gt_ ?_
        exact s_entF ent_ (s_keep _ (next2 (i + 1) ⟨by omega, by omega⟩ (by omega)))
      · have hin : i = n := by omega
        subst hin
        rw [hJl _ (hn.trans e1)]
        refine gt_ ?_
        exact s_ret1 (rs := [.tmp 2]) Tryd.func31 rfl (by intro j; refine RVS.tmp _ rfl ?_; exact RVS.nil) (⟨rfl, rfl⟩) ent_
    | true =>
      have hg2 := of_decide_eq_true hg
      refine gt_ ?_
      cases hg5 : decide ((n : Int) ≤ 5) with
      | true =>
        have hg6 := of_decide_eq_true hg5
        have hlow := dW_low hn1 (by omega : n ≤ 5)
        refine gt_ ?_
        rw [show ((n : Int) - 1) = ((n - 1 : Nat) : Int) by omega]
        refine s_look (lk_ixs (v := .slice o 8 8) (i := n - 1)) ?_
        refine s_look (lk_lde (v := .slice o 8 8) (u := .string (strB ((wordsN e).getD (n - 1) [])))) ?_
        refine gt_ ?_
        rw [show ((strB ((wordsN e).getD (n - 1) [])).toList == (ByteArray.mk #[48]).toList) = decide ((wordsN e).getD (n - 1) [] = [48]) from strB_beq (hWb _) hb48]
        cases heq : decide ((wordsN e).getD (n - 1) [] = [48]) with
        | true =>
          have e1 : cntW (wordsN e) dW n = cntW (wordsN e) dW (n - 1) := by rw [cntW_step _ _ _ (by omega), hlow, if_pos (of_decide_eq_true heq)]
          refine gt_ ?_
          rw [show ((n : Int) - 1) = ((n - 1 : Nat) : Int) by omega]
          exact s_entF ent_ (s_keep _ (next (n - 1) ⟨by omega, by omega, hn.trans e1⟩ (by omega)))
        | false =>
          have e1 : cntW (wordsN e) dW n = n := by rw [cntW_step _ _ _ (by omega), hlow, if_neg (of_decide_eq_false heq)]
          refine gt_ ?_
          cases hx : decide ((n : Int) > 5) with
          | true => exact absurd (of_decide_eq_true hx) (by omega)
          | false =>
            refine gt_ ?_
            refine s_look (lk_ixs (v := .slice o 8 8) (i := 0)) ?_
            refine s_look (lk_lde (v := .slice o 8 8) (u := .string (strB ((wordsN e).getD 0 [])))) ?_
            rw [show (wordsN e).getD 0 [] = joinB ((wordsN e).take 1) from rfl]
            refine gt_ ?_
            refine s_loop (fun i : Nat => [(3, .slice o 8 8), (4, .int .i64 (n : Int)), (5, .string (strB (joinB ((wordsN e).take i)))), (6, .int .i64 (i : Int))]) (fun _ => [SA (some 9) 1 (.slice o 8 8) 8 (txR (wordsN e)), D, F]) (fun i => 1 ≤ i ∧ i ≤ n) (fun i => n - i) 1 ⟨Nat.le_refl _, hn1⟩ ent_ ?_
            rintro i ⟨hi1, hi2⟩ next2
            have hJi := hJ i
            have hWi := hWl i
            refine gt_ ?_
            refine s_if (fun hlt => ?_) (fun hlt => ?_)
            · have hi3 : i < n := by omega
              refine gt_ ?_
              refine s_look (lk_cat (a := joinB ((wordsN e).take i)) (b := [32]) (by simp only [List.length_singleton]; omega)) ?_
              refine gt_ ?_
              try refine s_look (lk_cat (a := joinB ((wordsN e).take i) ++ [32]) (b := (wordsN e).getD i []) (by simp only [List.length_append, List.length_singleton]; omega)) ?_
              rw [← joinB_step e hi1 (by omega)]
              refine gt_ ?_
              exact s_entF ent_ (s_keep _ (next2 (i + 1) ⟨by omega, by omega⟩ (by omega)))
            · have hin : i = n := by omega
              subst hin
              rw [hJl _ (hn.trans e1)]
              refine gt_ ?_
              exact s_ret1 (rs := [.tmp 2]) Tryd.func31 rfl (by intro j; refine RVS.tmp _ rfl ?_; exact RVS.nil) (⟨rfl, rfl⟩) ent_
      | false =>
        have hg6 := of_decide_eq_false hg5
        have hhigh := dW_high (by omega : 6 ≤ n) hn8
        refine gt_ ?_
        cases hx : decide ((n : Int) > 5) with
        | false => exact absurd (of_decide_eq_false hx) (by omega)
        | true =>
          refine gt_ ?_
          rw [show ((n : Int) - 1) = ((n - 1 : Nat) : Int) by omega]
          refine s_look (lk_ixs (v := .slice o 8 8) (i := n - 1)) ?_
          refine s_look (lk_lde (v := .slice o 8 8) (u := .string (strB ((wordsN e).getD (n - 1) [])))) ?_
          refine gt_ ?_
          rw [show ((strB ((wordsN e).getD (n - 1) [])).toList == (ByteArray.mk #[34, 34]).toList) = decide ((wordsN e).getD (n - 1) [] = [34, 34]) from strB_beq (hWb _) hb34]
          cases heq : decide ((wordsN e).getD (n - 1) [] = [34, 34]) with
          | true =>
            have e1 : cntW (wordsN e) dW n = cntW (wordsN e) dW (n - 1) := by rw [cntW_step _ _ _ (by omega), hhigh, if_pos (of_decide_eq_true heq)]
            refine gt_ ?_
            rw [show ((n : Int) - 1) = ((n - 1 : Nat) : Int) by omega]
            exact s_entF ent_ (s_keep _ (next (n - 1) ⟨by omega, by omega, hn.trans e1⟩ (by omega)))
          | false =>
            have e1 : cntW (wordsN e) dW n = n := by rw [cntW_step _ _ _ (by omega), hhigh, if_neg (of_decide_eq_false heq)]
            refine gt_ ?_
            refine s_look (lk_ixs (v := .slice o 8 8) (i := 0)) ?_
            refine s_look (lk_lde (v := .slice o 8 8) (u := .string (strB ((wordsN e).getD 0 [])))) ?_
            rw [show (wordsN e).getD 0 [] = joinB ((wordsN e).take 1) from rfl]
            refine gt_ ?_
            refine s_loop (fun i : Nat => [(3, .slice o 8 8), (4, .int .i64 (n : Int)), (5, .string (strB (joinB ((wordsN e).take i)))), (6, .int .i64 (i : Int))]) (fun _ => [SA (some 9) 1 (.slice o 8 8) 8 (txR (wordsN e)), D, F]) (fun i => 1 ≤ i ∧ i ≤ n) (fun i => n - i) 1 ⟨Nat.le_refl _, hn1⟩ ent_ ?_
            rintro i ⟨hi1, hi2⟩ next2
            have hJi := hJ i
            have hWi := hWl i
            refine gt_ ?_
            refine s_if (fun hlt => ?_) (fun hlt => ?_)
            · have hi3 : i < n := by omega
              refine gt_ ?_
              refine s_look (lk_cat (a := joinB ((wordsN e).take i)) (b := [32]) (by simp only [List.length_singleton]; omega)) ?_
              refine gt_ ?_
              try refine s_look (lk_cat (a := joinB ((wordsN e).take i) ++ [32]) (b := (wordsN e).getD i []) (by simp only [List.length_append, List.length_singleton]; omega)) ?_
              rw [← joinB_step e hi1 (by omega)]
              refine gt_ ?_
              exact s_entF ent_ (s_keep _ (next2 (i + 1) ⟨by omega, by omega⟩ (by omega)))
            · have hin : i = n := by omega
              subst hin
              rw [hJl _ (hn.trans e1)]
              refine gt_ ?_
              exact s_ret1 (rs := [.tmp 2]) Tryd.func31 rfl (by intro j; refine RVS.tmp _ rfl ?_; exact RVS.nil) (⟨rfl, rfl⟩) ent_
end Go.Proofs.YtmlddafbenfilaaDoor
