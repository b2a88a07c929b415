/- What the ties of this seat need: the library's variables as they are laid. -/
import Derived.Test.YtmlddafbenfilaaDoorDskS
import Derived.Test.YtmlddafbenfilaaDoorCamAU
import Derived.Test.YtmlddafbenfilaaDoorCards
import Derived.Test.YtmlddafbenfilaaDoorTie
import Derived.Handed
import Derived.HandedShaped
import Derived.Lay
import Derived.LaidMore
import Derived.SevenTiedAt
import Derived.Stop.LaidErr
import Derived.Stop.Joined
import Derived.Shelf.Vars
namespace Go.Proofs.YtmlddafbenfilaaDoor
open Go.Cam
set_option maxRecDepth 100000
theorem Tryd.own : ownKnob Tryd.prog.godebug = none := by kernel_rfl
theorem Tryd.laidOut : laidOutB Tryd.prog = true := by kernel_rfl
theorem Tryd.star : "*" ++ "errors.errorString" = "*errors.errorString" := by decide
theorem Tryd.rowErr (u : TypeId) (h : Tryd.prog.typeName? 3 u = some "*errors.errorString") : u = 117 :=
  typeName_ptr_named (nm := "errors.errorString") (by rw [Tryd.star]; kernel_rfl) (by kernel_rfl) (by decide) u (by rw [Tryd.star]; exact h)
abbrev laidL : List (String × DataW Unit) := Rows.deskQuotesRow.laid
theorem heap_of_var {P : Program} {W : World} {n : String} {g : Nat} {cs : Array Value} (hg : P.globalNamed n = some g) (h : W.var? P n = some cs) : ∃ t f, W.heap[g]? = some (.cells cs t f) := by
  unfold World.var? at h
  rw [hg, Option.bind_some] at h
  cases hh : W.heap[g]? with
  | none => rw [hh] at h; cases h
  | some o =>
    rw [hh] at h
    cases o with
    | cells c t f => cases h; exact ⟨t, f, rfl⟩
    | _ => cases h
theorem pow_is : (Rows.laid_internal_strconv_uint64pow10 : DataW Unit) = Go.Lib.tabData .u64 Go.Lib.pow10Tab := by kernel_rfl
theorem gl_of {W : World} (hL : laidMetH Tryd.prog laidL W) (hs : W.ShapedOpen Tryd.prog) : GLp (held W) := by
  rw [MakeChecks.laidMetH_plain _ _ _ (by kernel_rfl)] at hL
  have h2 : laidMet Tryd.prog (("internal/strconv.uint64pow10", Go.Lib.tabData .u64 Go.Lib.pow10Tab) :: laidL.drop 3) W := by rw [← pow_is]; exact hL.tail.tail
  have h4 := h2.tail.tail
  have h5 := h4.tail
  obtain ⟨m, hm⟩ := cell_of_shapedOpen_int (g := 0) (t := 3) (k := .i64) (zero := #[.int .i64 0]) hs (of_decide_eq_true (by kernel_rfl)) (by kernel_rfl) rfl (by kernel_rfl) (by kernel_rfl) (by kernel_rfl)
  obtain ⟨cs, hh, hsz, _⟩ := hs.1 0 #[.int .i64 0] 3 (of_decide_eq_true (by kernel_rfl)) (by kernel_rfl)
  have hcs : cs = #[.int .i64 m] := by
    have h1 : W.cell? ⟨0, 0, none⟩ = cs[0]? := cell_of hh 0
    rw [hm] at h1
    obtain ⟨l⟩ := cs
    match l, hsz, h1 with
    | [x], _, h1 => simp at h1; rw [h1]
  subst hcs
  obtain ⟨a1, s1, v1, _⟩ := laid_sentinel h5 (g := 1) (ti := 51) (tp := 117) (te := 119) (ts := 9) (by kernel_rfl) (by kernel_rfl) Tryd.underlying51 Tryd.rowErr Tryd.underlying117 Tryd.underlying119 rfl rfl Tryd.underlying9 (by kernel_rfl) (by kernel_rfl)
  obtain ⟨a2, s2, v2, _⟩ := laid_sentinel h4 (g := 2) (ti := 51) (tp := 117) (te := 119) (ts := 9) (by kernel_rfl) (by kernel_rfl) Tryd.underlying51 Tryd.rowErr Tryd.underlying117 Tryd.underlying119 rfl rfl Tryd.underlying9 (by kernel_rfl) (by kernel_rfl)
  have tab := Go.Lib.tabIs_of_head (g := 3) (t := 113) (e := 96) (n := 20) (by kernel_rfl) (by kernel_rfl) (by kernel_rfl) (by kernel_rfl) (by kernel_rfl) (by kernel_rfl) h2
  obtain ⟨t1, f1, e1⟩ := heap_of_var (g := 1) (by kernel_rfl) v1
  obtain ⟨t2, f2, e2⟩ := heap_of_var (g := 2) (by kernel_rfl) v2
  obtain ⟨t3, f3, e3⟩ := heap_of_var (g := 3) (by kernel_rfl) tab
  exact ⟨⟨m, _, _, hh⟩, ⟨_, _, t1, f1, e1⟩, ⟨_, _, t2, f2, e2⟩, t3, f3, e3⟩
/-- the wrap of a law over laid variables, with the world's shape -/
theorem returns_laid {H : Type} {enc : TypeId × Value → H} {C : Checked} {os : Os} {f : FuncId} {fn : Func} {s : OpenSpec} {cs : ChangeSpec} {conds : List PathCond} {apart fresh handsOn again : Bool} {X : World → Array Value → Prop} {Z : World → Array Value → Prop}
    (hX : ∀ (w w' : World) (args : Array Value), w.heap = w'.heap → X w args → X w' args)
    (own : ownKnob C.prog.godebug = none) (started : os.Started) (noInit : C.prog.inits.idxOf? f = none) (hfn : C.prog.funcs[f]? = some fn)
    (witness : ∃ (w : World) (tape : Tape) (i : Input), w.os = os ∧ (w.forCall tape i).Shaped C.prog ∧ i.vars = [] ∧ Input.okWide C.prog (w.forCall tape i) .any w.heap.size f i ∧
      ((cs.pre enc C.prog fn conds apart (w.forCall tape i).memory i.args ∧ X (w.forCall tape i).memory i.args) ∧ Z (w.forCall tape i).memory i.args) ∧ ({} : Assume).holds C.prog (lone (Frame.enter C.prog f i.args .normal) [] (w.forCall tape i)))
    (contract : ∀ (W : World) (base : Nat) (args : Array Value) (ds gs : List (DataW H)) (before : List MemPlace),
      (∀ (j : Nat) t v, fn.params[j]? = some t → args[j]? = some v → Value.okWide C.prog W .any base t v) →
      DataW.Whole enc C.prog fn.params.toList cs.vars apart W args.toList ds gs before →
      W.ShapedOpen C.prog → X W args →
      Calls C.prog f args W fun e W' => ∃ v, e = .returned v ∧ cs.post enc C.prog fn apart fresh handsOn again W args v W') :
    ReturnsInHanded {} C os f .any (fun w args => (cs.pre enc C.prog fn conds apart w args ∧ X w args) ∧ Z w args) (cs.post enc C.prog fn apart fresh handsOn again) := by
  refine returnsInHanded_of_calls own started noInit witness ?_
  intro w tape i _ hsh _ hok hpre _
  obtain ⟨_, _, _, fn', hfn', _, _, _, _, hval⟩ := hok
  have e : fn' = fn := Option.some.inj (hfn'.symm.trans hfn)
  subst e
  obtain ⟨⟨⟨ds, gs, before, hw, hc⟩, hx⟩, hz⟩ := hpre
  have hw' := DataW.Whole.of_heap (w' := w.forCall tape i) (by rfl) hw
  refine (contract (w.forCall tape i) w.heap.size i.args ds gs before hval hw' hsh (hX _ _ _ (by rfl) hx)).mono fun e W' ⟨v, he, hp⟩ => ?_
  subst he
  exact ChangeSpec.post_blind hp
theorem str_list (s : ByteArray) : s = strB (s.data.toList.map UInt8.toNat) := by
  rw [← strB_of]
theorem str_bys (s : ByteArray) : Bys (s.data.toList.map UInt8.toNat) := fun c hc => by
  obtain ⟨x, _, rfl⟩ := List.mem_map.1 hc
  exact x.toNat_lt
theorem str_len (s : ByteArray) : (s.data.toList.map UInt8.toNat).length = s.size := by rw [List.length_map, Array.length_toList]; rfl
end Go.Proofs.YtmlddafbenfilaaDoor
/- The law of quotes. -/
namespace Go.Proofs.YtmlddafbenfilaaDoor
open Go.Cam
set_option maxRecDepth 100000
theorem take_bys {b : List Nat} (h : Bys b) (n : Nat) : Bys (b.take n) := fun x hx => h x (List.mem_of_mem_take hx)
theorem byR_take (b : List Nat) (m : Nat) (i : Nat) (hi : i < m) (hm : m ≤ b.length) : byR b (0 + i) = byR (b.take m) i := by
  simp [byR, List.getD_eq_getElem?_getD, List.getElem?_take, hi]
set_option maxHeartbeats 32000000 in
theorem quotes_c (a : Option Addr) (c : Nat) (b : List Nat) (hb : Bys b) (s : List Nat) (hs : Bys s) (hsl : s.length ≤ 9223372036854775807) : Ctr Tryd.prog 3 [.slice a b.length c, .string (strB s)] [GL, SA none 1 (.slice a b.length c) b.length (byR b)] (fun v Bs => v = .bool true ∧ Bs = []) := by
  refine s_enter 51 [(0, _), (1, _)] (fun F => [_, _, F]) Tryd.func3 fun F => ?_
  refine gt_ ?_
  refine s_call (sp := spl_) (hs := shown_c) (h := ?_)
  rintro v Bs ⟨rfl, rfl⟩
  refine gt_ ?_
  cases hb0 : decide ((b.length : Int) > 1000) with
  | false =>
    have hb1 := of_decide_eq_false hb0
    have hBL : b.length = b.length := rfl
    refine gt_ ?_
    cases hs0 : decide ((s.length : Int) > 3000) with
    | false =>
      have hs1 := of_decide_eq_false hs0
      refine gt_ ?_
      refine s_call (sp := spl_) (hs := unquote_c (s) hs (by omega)) (h := ?_)
      rintro v Bs ⟨a2, c2, x2, hx2, rfl, rfl⟩
      refine gt_ ?_
      refine s_call (sp := spl_) (hs := runquote_c (s) hs (by omega)) (h := ?_)
      rw [← unquote_same (s) hs]
      rintro v Bs ⟨a3, c3, x3, hx3, rfl, rfl⟩
      have hxx : x3 = x2 := hx3.trans hx2.symm
      subst hxx
      have hxb : Bys x3 := by
        rw [hx3]
        cases hu : unquoteP (s) with
        | none => exact emp_bys
        | some o => exact unquoteP_bys hs hu
      refine gt_ ?_
      refine s_call (sp := spl_) (hs := quote_c (A := SA none 1 (.slice a b.length c) b.length (byR b)) (a := a) (n := b.length) (c := c) (b) hb hBL (by omega)) (h := ?_)
      rintro v Bs ⟨rfl, rfl⟩
      refine gt_ ?_
      refine s_call (sp := spl_) (hs := rquote_c (A := SA none 1 (.slice a b.length c) b.length (byR b)) (a := a) (n := b.length) (c := c) (b) hb hBL (by omega)) (h := ?_)
      rintro v Bs ⟨rfl, rfl⟩
      have hqb := quoteN_bys hb
      refine gt_ ?_
      rw [decide_eq_true (rfl : quoteN (b) = quoteN (b))]
      refine gt_ ?_
      refine s_look (lk_b2s (s := x3) (a := a2) (m := x3.length) (c := c2) (by repeat (first | with_reducible exact SelR.here | with_reducible apply SelR.there)) rfl) ?_
      refine gt_ ?_
      refine s_look (lk_b2s (s := x3) (a := a3) (m := x3.length) (c := c3) (by repeat (first | with_reducible exact SelR.here | with_reducible apply SelR.there)) rfl) ?_
      refine gt_ ?_
      rw [decide_eq_true (rfl : x3 = x3)]
      refine gt_ ?_
      exact s_ret1 (rs := [.tmp 4]) Tryd.func3 rfl (by intro j; refine RVS.tmp _ rfl ?_; exact RVS.nil) (⟨by rw [beq_self_eq_true], rfl⟩) ent_
    | true =>
      have hs1 := of_decide_eq_true hs0
      have hs2 := take_bys hs 3000
      have hs3 : (s.take 3000).length ≤ 3000 := List.length_take_le _ _
      refine gt_ ?_
      refine s_look (lk_ssl 0 3000 (s := s) (by decide) (by omega)) ?_
      rw [List.drop_zero]
      refine gt_ ?_
      refine s_call (sp := spl_) (hs := unquote_c (s.take 3000) hs2 (by omega)) (h := ?_)
      rintro v Bs ⟨a2, c2, x2, hx2, rfl, rfl⟩
      refine gt_ ?_
      refine s_call (sp := spl_) (hs := runquote_c (s.take 3000) hs2 (by omega)) (h := ?_)
      rw [← unquote_same (s.take 3000) hs2]
      rintro v Bs ⟨a3, c3, x3, hx3, rfl, rfl⟩
      have hxx : x3 = x2 := hx3.trans hx2.symm
      subst hxx
      have hxb : Bys x3 := by
        rw [hx3]
        cases hu : unquoteP (s.take 3000) with
        | none => exact emp_bys
        | some o => exact unquoteP_bys hs2 hu
      refine gt_ ?_
      refine s_call (sp := spl_) (hs := quote_c (A := SA none 1 (.slice a b.length c) b.length (byR b)) (a := a) (n := b.length) (c := c) (b) hb hBL (by omega)) (h := ?_)
      rintro v Bs ⟨rfl, rfl⟩
      refine gt_ ?_
      refine s_call (sp := spl_) (hs := rquote_c (A := SA none 1 (.slice a b.length c) b.length (byR b)) (a := a) (n := b.length) (c := c) (b) hb hBL (by omega)) (h := ?_)
      rintro v Bs ⟨rfl, rfl⟩
      have hqb := quoteN_bys hb
      refine gt_ ?_
      rw [decide_eq_true (rfl : quoteN (b) = quoteN (b))]
      refine gt_ ?_
      refine s_look (lk_b2s (s := x3) (a := a2) (m := x3.length) (c := c2) (by repeat (first | with_reducible exact SelR.here | with_reducible apply SelR.there)) rfl) ?_
      refine gt_ ?_
      refine s_look (lk_b2s (s := x3) (a := a3) (m := x3.length) (c := c3) (by repeat (first | with_reducible exact SelR.here | with_reducible apply SelR.there)) rfl) ?_
      refine gt_ ?_
      rw [decide_eq_true (rfl : x3 = x3)]
      refine gt_ ?_
      exact s_ret1 (rs := [.tmp 4]) Tryd.func3 rfl (by intro j; refine RVS.tmp _ rfl ?_; exact RVS.nil) (⟨by rw [beq_self_eq_true], rfl⟩) ent_
  | true =>
    have hb1 := of_decide_eq_true hb0
    have hb2 := take_bys hb 1000
    have hBL : (b.take 1000).length = 1000 - 0 := by rw [List.length_take]; omega
    refine gt_ ?_
    refine s_know (a := SA none 1 (.slice a b.length c) b.length (byR b)) sel_ (rd_pure (a := a) (n := b.length) (c := c) (row := byR b)) fun hcap => ?_
    refine s_look (lk_slv 0 1000 (.slice (sladdr a 1 0 c) 1000 (c - 0)) (len := b.length) (cap := c) (a := a) (hh := by have := hcap.1; omega)) ?_
    refine s_part 0 1000 (by decide) (by omega) (a := a) (cap := c) (m := b.length) sel_ ?_
    refine s_open (SA.cg (byR (b.take 1000)) fun i hi => byR_take b 1000 i hi (by omega)) ?_
    refine gt_ ?_
    cases hs0 : decide ((s.length : Int) > 3000) with
    | false =>
      have hs1 := of_decide_eq_false hs0
      refine gt_ ?_
      refine s_call (sp := spl_) (hs := unquote_c (s) hs (by omega)) (h := ?_)
      rintro v Bs ⟨a2, c2, x2, hx2, rfl, rfl⟩
      refine gt_ ?_
      refine s_call (sp := spl_) (hs := runquote_c (s) hs (by omega)) (h := ?_)
      rw [← unquote_same (s) hs]
      rintro v Bs ⟨a3, c3, x3, hx3, rfl, rfl⟩
      have hxx : x3 = x2 := hx3.trans hx2.symm
      subst hxx
      have hxb : Bys x3 := by
        rw [hx3]
        cases hu : unquoteP (s) with
        | none => exact emp_bys
        | some o => exact unquoteP_bys hs hu
      refine gt_ ?_
      refine s_call (sp := spl_) (hs := quote_c (A := SA none 1 (.slice (sladdr a 1 0 c) (1000 - 0) (c - 0)) (1000 - 0) (byR (b.take 1000))) (a := sladdr a 1 0 c) (n := 1000 - 0) (c := c - 0) (b.take 1000) hb2 hBL (by omega)) (h := ?_)
      rintro v Bs ⟨rfl, rfl⟩
      refine gt_ ?_
      refine s_call (sp := spl_) (hs := rquote_c (A := SA none 1 (.slice (sladdr a 1 0 c) (1000 - 0) (c - 0)) (1000 - 0) (byR (b.take 1000))) (a := sladdr a 1 0 c) (n := 1000 - 0) (c := c - 0) (b.take 1000) hb2 hBL (by omega)) (h := ?_)
      rintro v Bs ⟨rfl, rfl⟩
      have hqb := quoteN_bys hb2
      refine gt_ ?_
      rw [decide_eq_true (rfl : quoteN (b.take 1000) = quoteN (b.take 1000))]
      refine gt_ ?_
      refine s_look (lk_b2s (s := x3) (a := a2) (m := x3.length) (c := c2) (by repeat (first | with_reducible exact SelR.here | with_reducible apply SelR.there)) rfl) ?_
      refine gt_ ?_
      refine s_look (lk_b2s (s := x3) (a := a3) (m := x3.length) (c := c3) (by repeat (first | with_reducible exact SelR.here | with_reducible apply SelR.there)) rfl) ?_
      refine gt_ ?_
      rw [decide_eq_true (rfl : x3 = x3)]
      refine gt_ ?_
      exact s_ret1 (rs := [.tmp 4]) Tryd.func3 rfl (by intro j; refine RVS.tmp _ rfl ?_; exact RVS.nil) (⟨by rw [beq_self_eq_true], rfl⟩) ent_
    | true =>
      have hs1 := of_decide_eq_true hs0
      have hs2 := take_bys hs 3000
      have hs3 : (s.take 3000).length ≤ 3000 := List.length_take_le _ _
      refine gt_ ?_
      refine s_look (lk_ssl 0 3000 (s := s) (by decide) (by omega)) ?_
      rw [List.drop_zero]
      refine gt_ ?_
      refine s_call (sp := spl_) (hs := unquote_c (s.take 3000) hs2 (by omega)) (h := ?_)
      rintro v Bs ⟨a2, c2, x2, hx2, rfl, rfl⟩
      refine gt_ ?_
      refine s_call (sp := spl_) (hs := runquote_c (s.take 3000) hs2 (by omega)) (h := ?_)
      rw [← unquote_same (s.take 3000) hs2]
      rintro v Bs ⟨a3, c3, x3, hx3, rfl, rfl⟩
      have hxx : x3 = x2 := hx3.trans hx2.symm
      subst hxx
      have hxb : Bys x3 := by
        rw [hx3]
        cases hu : unquoteP (s.take 3000) with
        | none => exact emp_bys
        | some o => exact unquoteP_bys hs2 hu
      refine gt_ ?_
      refine s_call (sp := spl_) (hs := quote_c (A := SA none 1 (.slice (sladdr a 1 0 c) (1000 - 0) (c - 0)) (1000 - 0) (byR (b.take 1000))) (a := sladdr a 1 0 c) (n := 1000 - 0) (c := c - 0) (b.take 1000) hb2 hBL (by omega)) (h := ?_)
      rintro v Bs ⟨rfl, rfl⟩
      refine gt_ ?_
      refine s_call (sp := spl_) (hs := rquote_c (A := SA none 1 (.slice (sladdr a 1 0 c) (1000 - 0) (c - 0)) (1000 - 0) (byR (b.take 1000))) (a := sladdr a 1 0 c) (n := 1000 - 0) (c := c - 0) (b.take 1000) hb2 hBL (by omega)) (h := ?_)
      rintro v Bs ⟨rfl, rfl⟩
      have hqb := quoteN_bys hb2
      refine gt_ ?_
      rw [decide_eq_true (rfl : quoteN (b.take 1000) = quoteN (b.take 1000))]
      refine gt_ ?_
      refine s_look (lk_b2s (s := x3) (a := a2) (m := x3.length) (c := c2) (by repeat (first | with_reducible exact SelR.here | with_reducible apply SelR.there)) rfl) ?_
      refine gt_ ?_
      refine s_look (lk_b2s (s := x3) (a := a3) (m := x3.length) (c := c3) (by repeat (first | with_reducible exact SelR.here | with_reducible apply SelR.there)) rfl) ?_
      refine gt_ ?_
      rw [decide_eq_true (rfl : x3 = x3)]
      refine gt_ ?_
      exact s_ret1 (rs := [.tmp 4]) Tryd.func3 rfl (by intro j; refine RVS.tmp _ rfl ?_; exact RVS.nil) (⟨by rw [beq_self_eq_true], rfl⟩) ent_
end Go.Proofs.YtmlddafbenfilaaDoor
