/- The words of an event. -/
import Derived.Test.YtmlddafbenfilaaDoorDskN
import Derived.Test.YtmlddafbenfilaaDoorDskB
namespace Go.Proofs.YtmlddafbenfilaaDoor
open Go.Cam
set_option maxRecDepth 100000
/-- bytes that a text was turned into -/
def RO (e r : Nat) (s : List Nat) (c : Nat) : HP := ⟨fun _ M => ∃ (cs : Array Value) (f : Nat × Nat), cs.size = c ∧ s.length ≤ c ∧ cs.toList.take s.length = bcl s ∧ M r = some (.cells cs e f), fun _ hl ⟨cs, f, h1, h2, h3, h4⟩ => ⟨cs, f, h1, h2, h3, hl _ _ h4⟩⟩
instance {e r : Nat} {s : List Nat} {c : Nat} : Rd (RO e r s c) 1 (.slice (some ⟨r, 0, none⟩) s.length c) s.length (byR s) := ⟨fun H M ⟨cs, f, h1, h2, h3, h4⟩ => ⟨_, _, rfl, h2, fun _ _ => rfl, fun _ => ⟨r, 0, cs, e, f, rfl, .inl h4, by omega, by
  apply Array.ext'
  rw [Array.toList_extract, List.extract_eq_take_drop, flat_byR']
  simpa using h3⟩⟩⟩
section
variable {P : Program} {l : List (Nat × Value)} {As : List HP} {dd : Option Nat} {oty : TypeId} {pos : String} {af : Array Edge} {g : Option (Nat × Bool)}
theorem st_s2R {t t2 e : TypeId} {x : Operand} {s : List Nat} [sc : SC P t e] [sy : STY P t2] [u8 : U8T P e] (hb : Bys s)
    (hx : ∀ j, ev (mk l j) x = .string (strB s) := by intro j; rfl) :
    StepL P ⟨dd, .convert t2 t x, oty, pos, af, g⟩ l As (fun v Bs => ∃ r c, v = .slice (some ⟨r, 0, none⟩) s.length c ∧ Bs = RO e r s c :: As) := .mk fun j Fs H M q => by
  refine hmc_mono ((st_s2b hb hx).h j Fs H M q) fun v H' M' ⟨Cs, ⟨r, cs, c, h1, h2, h3, h4, h5⟩, h6⟩ => ?_
  subst h5
  exact ⟨_, ⟨r, c, h1, rfl⟩, star_monoL (C := RO e r s c) (fun H M h => ⟨cs, _, h3, h2, h4, h⟩) h6⟩
end
abbrev evL (e : Ev) (a : Option Addr) (c : Nat) : List Value := [.int .i64 e.kind, .int .i64 e.pid, .int .i64 e.fd, .int .i64 e.n, .int .i64 e.m, .string (strB e.path), .string (strB e.name), .slice a e.data.length c]
abbrev wdL (e : Ev) : List Value := [.string (strB (itoaN e.kind)), .string (strB (itoaN e.pid)), .string (strB (itoaN e.fd)), .string (strB (itoaN e.n)), .string (strB (itoaN e.m)), .string (strB (quoteN e.path)), .string (strB (quoteN e.name)), .string (strB (quoteN e.data))]
/-- an event that is short enough -/
structure Ev.fit (e : Ev) : Prop where
  ok : e.ok
  l1 : e.path.length ≤ 10000000000000
  l2 : e.name.length ≤ 10000000000000
  l3 : e.data.length ≤ 10000000000000
set_option maxHeartbeats 16000000 in
theorem words_c (e : Ev) (he : e.fit) {D : HP} {a : Option Addr} {c : Nat} [Rd D 1 (.slice a e.data.length c) e.data.length (byR e.data)] : Ctr Tryd.prog 42 [.agg (evL e a c).toArray] [GL, D] (fun v Bs => v = .agg (wdL e).toArray ∧ Bs = [D]) := by
  refine s_enter 43 [(0, _)] (fun F => [_, _, F]) Tryd.func42 fun F => ?_
  refine gt_ ?_
  refine s_box fun r1 => ?_
  refine gt_ ?_
  refine s_alloc fun r2 => ?_
  refine gt_ ?_
  refine s_alloc fun r3 => ?_
  refine gt_ ?_
  refine s_bs (cells := [.int .i64 e.kind, .int .i64 e.pid, .int .i64 e.fd, .int .i64 e.n, .int .i64 e.m]) (fun o => ?_) (fun j => rfl)
  refine gt_ ?_
  refine s_unroll ?_
  refine gt_ ?_
  refine s_look (lk_ixs (v := .slice o 5 5) (i := 0)) ?_
  refine s_look (lk_lde (v := .slice o 5 5) (u := .int .i64 e.kind)) ?_
  refine gt_ ?_
  refine s_call (sp := spl_) (hs := itoa_c (n := e.kind) he.ok.k1) (h := ?_)
  rintro v Bs ⟨rfl, rfl⟩
  refine s_nrm ?_
  refine s_look (lk_zix (b := r3) (i := 0)) ?_
  refine s_stepU (st_st (b := r3) (off := 0) (c := [.string ByteArray.empty, .string ByteArray.empty, .string ByteArray.empty, .string ByteArray.empty, .string ByteArray.empty, .string ByteArray.empty, .string ByteArray.empty, .string ByteArray.empty]) (c' := [.string (strB (itoaN e.kind)), .string ByteArray.empty, .string ByteArray.empty, .string ByteArray.empty, .string ByteArray.empty, .string ByteArray.empty, .string ByteArray.empty, .string ByteArray.empty]) (v := .string (strB (itoaN e.kind)))) ?_
  rintro _ _ rfl
  refine gt_ ?_
  refine s_again ?_
  refine gt_ ?_
  refine s_look (lk_ixs (v := .slice o 5 5) (i := 1)) ?_
  refine s_look (lk_lde (v := .slice o 5 5) (u := .int .i64 e.pid)) ?_
  refine gt_ ?_
  refine s_call (sp := spl_) (hs := itoa_c (n := e.pid) he.ok.k2) (h := ?_)
  rintro v Bs ⟨rfl, rfl⟩
  refine s_nrm ?_
  refine s_look (lk_zix (b := r3) (i := 1)) ?_
  refine s_stepU (st_st (b := r3) (off := 1) (c := [.string (strB (itoaN e.kind)), .string ByteArray.empty, .string ByteArray.empty, .string ByteArray.empty, .string ByteArray.empty, .string ByteArray.empty, .string ByteArray.empty, .string ByteArray.empty]) (c' := [.string (strB (itoaN e.kind)), .string (strB (itoaN e.pid)), .string ByteArray.empty, .string ByteArray.empty, .string ByteArray.empty, .string ByteArray.empty, .string ByteArray.empty, .string ByteArray.empty]) (v := .string (strB (itoaN e.pid)))) ?_
  rintro _ _ rfl
  refine gt_ ?_
  refine s_again ?_
  refine gt_ ?_
  refine s_look (lk_ixs (v := .slice o 5 5) (i := 2)) ?_
  refine s_look (lk_lde (v := .slice o 5 5) (u := .int .i64 e.fd)) ?_
  refine gt_ ?_
  refine s_call (sp := spl_) (hs := itoa_c (n := e.fd) he.ok.k3) (h := ?_)
  rintro v Bs ⟨rfl, rfl⟩
  refine s_nrm ?_
  refine s_look (lk_zix (b := r3) (i := 2)) ?_
  refine s_stepU (st_st (b := r3) (off := 2) (c := [.string (strB (itoaN e.kind)), .string (strB (itoaN e.pid)), .string ByteArray.empty, .string ByteArray.empty, .string ByteArray.empty, .string ByteArray.empty, .string ByteArray.empty, .string ByteArray.empty]) (c' := [.string (strB (itoaN e.kind)), .string (strB (itoaN e.pid)), .string (strB (itoaN e.fd)), .string ByteArray.empty, .string ByteArray.empty, .string ByteArray.empty, .string ByteArray.empty, .string ByteArray.empty]) (v := .string (strB (itoaN e.fd)))) ?_
  rintro _ _ rfl
  refine gt_ ?_
  refine s_again ?_
  refine gt_ ?_
  refine s_look (lk_ixs (v := .slice o 5 5) (i := 3)) ?_
  refine s_look (lk_lde (v := .slice o 5 5) (u := .int .i64 e.n)) ?_
  refine gt_ ?_
  refine s_call (sp := spl_) (hs := itoa_c (n := e.n) he.ok.k4) (h := ?_)
  rintro v Bs ⟨rfl, rfl⟩
  refine s_nrm ?_
  refine s_look (lk_zix (b := r3) (i := 3)) ?_
  refine s_stepU (st_st (b := r3) (off := 3) (c := [.string (strB (itoaN e.kind)), .string (strB (itoaN e.pid)), .string (strB (itoaN e.fd)), .string ByteArray.empty, .string ByteArray.empty, .string ByteArray.empty, .string ByteArray.empty, .string ByteArray.empty]) (c' := [.string (strB (itoaN e.kind)), .string (strB (itoaN e.pid)), .string (strB (itoaN e.fd)), .string (strB (itoaN e.n)), .string ByteArray.empty, .string ByteArray.empty, .string ByteArray.empty, .string ByteArray.empty]) (v := .string (strB (itoaN e.n)))) ?_
  rintro _ _ rfl
  refine gt_ ?_
  refine s_again ?_
  refine gt_ ?_
  refine s_look (lk_ixs (v := .slice o 5 5) (i := 4)) ?_
  refine s_look (lk_lde (v := .slice o 5 5) (u := .int .i64 e.m)) ?_
  refine gt_ ?_
  refine s_call (sp := spl_) (hs := itoa_c (n := e.m) he.ok.k5) (h := ?_)
  rintro v Bs ⟨rfl, rfl⟩
  refine s_nrm ?_
  refine s_look (lk_zix (b := r3) (i := 4)) ?_
  refine s_stepU (st_st (b := r3) (off := 4) (c := [.string (strB (itoaN e.kind)), .string (strB (itoaN e.pid)), .string (strB (itoaN e.fd)), .string (strB (itoaN e.n)), .string ByteArray.empty, .string ByteArray.empty, .string ByteArray.empty, .string ByteArray.empty]) (c' := [.string (strB (itoaN e.kind)), .string (strB (itoaN e.pid)), .string (strB (itoaN e.fd)), .string (strB (itoaN e.n)), .string (strB (itoaN e.m)), .string ByteArray.empty, .string ByteArray.empty, .string ByteArray.empty]) (v := .string (strB (itoaN e.m)))) ?_
  rintro _ _ rfl
  refine gt_ ?_
  refine s_again ?_
  refine gt_ ?_
  refine s_front (a := Box r3 74 [.string (strB (itoaN e.kind)), .string (strB (itoaN e.pid)), .string (strB (itoaN e.fd)), .string (strB (itoaN e.n)), .string (strB (itoaN e.m)), .string ByteArray.empty, .string ByteArray.empty, .string ByteArray.empty]) sel_ ?_
  refine s_front (a := D) sel_ ?_
  refine s_drawN 2 [.q 0, .q 1, .q 4, .q 5, .q 8, .q 9, .altq 2 3 11 6, .s 7, .s 10, .s 12, .q 13, .s 14, .q 15, .s 16] ?_
  refine dt_ ?_
  refine d_altq ?_ ?_
  · refine d_step rfl (st_s2R (s := e.path) he.ok.k6) ?_
    rintro v Bs ⟨rA, cA, rfl, rfl⟩
    refine dt_ ?_
    refine d_altq1 ?_ ?_
    · refine d_step rfl (st_call (sp := spl_) (hs := quote_c (A := RO 5 rA e.path cA) (a := some ⟨rA, 0, none⟩) (n := e.path.length) (c := cA) e.path he.ok.k6 rfl he.l1)) ?_
      rintro v Bs ⟨Cs, ⟨rfl, rfl⟩, rfl⟩
      refine dt_ ?_
      refine d_step rfl (st_s2R (s := e.name) he.ok.k7) ?_
      rintro v Bs ⟨rB, cB, rfl, rfl⟩
      refine dt_ ?_
      refine d_step rfl (st_call (sp := spl_) (hs := quote_c (A := RO 5 rB e.name cB) (a := some ⟨rB, 0, none⟩) (n := e.name.length) (c := cB) e.name he.ok.k7 rfl he.l2)) ?_
      rintro v Bs ⟨Cs, ⟨rfl, rfl⟩, rfl⟩
      refine dt_ ?_
      refine d_step rfl (st_call (sp := spl_) (hs := quote_c (A := D) (a := a) (n := e.data.length) (c := c) e.data he.ok.k8 rfl he.l3)) ?_
      rintro v Bs ⟨Cs, ⟨rfl, rfl⟩, rfl⟩
      refine dt_ ?_
      refine d_stepU rfl (st_st (b := r3) (off := 5) (c := [.string (strB (itoaN e.kind)), .string (strB (itoaN e.pid)), .string (strB (itoaN e.fd)), .string (strB (itoaN e.n)), .string (strB (itoaN e.m)), .string ByteArray.empty, .string ByteArray.empty, .string ByteArray.empty]) (c' := [.string (strB (itoaN e.kind)), .string (strB (itoaN e.pid)), .string (strB (itoaN e.fd)), .string (strB (itoaN e.n)), .string (strB (itoaN e.m)), .string (strB (quoteN e.path)), .string ByteArray.empty, .string ByteArray.empty]) (v := .string (strB (quoteN e.path)))) ?_
      rintro _ _ rfl
      refine dt_ ?_
      refine d_stepU rfl (st_st (b := r3) (off := 6) (c := [.string (strB (itoaN e.kind)), .string (strB (itoaN e.pid)), .string (strB (itoaN e.fd)), .string (strB (itoaN e.n)), .string (strB (itoaN e.m)), .string (strB (quoteN e.path)), .string ByteArray.empty, .string ByteArray.empty]) (c' := [.string (strB (itoaN e.kind)), .string (strB (itoaN e.pid)), .string (strB (itoaN e.fd)), .string (strB (itoaN e.n)), .string (strB (itoaN e.m)), .string (strB (quoteN e.path)), .string (strB (quoteN e.name)), .string ByteArray.empty]) (v := .string (strB (quoteN e.name)))) ?_
      rintro _ _ rfl
      refine dt_ ?_
      refine d_stepU rfl (st_st (b := r3) (off := 7) (c := [.string (strB (itoaN e.kind)), .string (strB (itoaN e.pid)), .string (strB (itoaN e.fd)), .string (strB (itoaN e.n)), .string (strB (itoaN e.m)), .string (strB (quoteN e.path)), .string (strB (quoteN e.name)), .string ByteArray.empty]) (c' := [.string (strB (itoaN e.kind)), .string (strB (itoaN e.pid)), .string (strB (itoaN e.fd)), .string (strB (itoaN e.n)), .string (strB (itoaN e.m)), .string (strB (quoteN e.path)), .string (strB (quoteN e.name)), .string (strB (quoteN e.data))]) (v := .string (strB (quoteN e.data)))) ?_
      rintro _ _ rfl
      refine dt_ ?_
      refine gt_ ?_
      exact s_ret1 (rs := [.cell 2 74]) Tryd.func42 rfl (by intro j; refine RVS.cell _ _ rfl sel_ (by rfl) ?_; exact RVS.nil) (⟨rfl, rfl⟩) ent_
    · refine d_step rfl (st_s2R (s := e.name) he.ok.k7) ?_
      rintro v Bs ⟨rB, cB, rfl, rfl⟩
      refine dt_ ?_
      refine d_step rfl (st_call (sp := spl_) (hs := quote_c (A := RO 5 rA e.path cA) (a := some ⟨rA, 0, none⟩) (n := e.path.length) (c := cA) e.path he.ok.k6 rfl he.l1)) ?_
      rintro v Bs ⟨Cs, ⟨rfl, rfl⟩, rfl⟩
      refine dt_ ?_
      refine d_step rfl (st_call (sp := spl_) (hs := quote_c (A := RO 5 rB e.name cB) (a := some ⟨rB, 0, none⟩) (n := e.name.length) (c := cB) e.name he.ok.k7 rfl he.l2)) ?_
      rintro v Bs ⟨Cs, ⟨rfl, rfl⟩, rfl⟩
      refine dt_ ?_
      refine d_step rfl (st_call (sp := spl_) (hs := quote_c (A := D) (a := a) (n := e.data.length) (c := c) e.data he.ok.k8 rfl he.l3)) ?_
      rintro v Bs ⟨Cs, ⟨rfl, rfl⟩, rfl⟩
      refine dt_ ?_
      refine d_stepU rfl (st_st (b := r3) (off := 5) (c := [.string (strB (itoaN e.kind)), .string (strB (itoaN e.pid)), .string (strB (itoaN e.fd)), .string (strB (itoaN e.n)), .string (strB (itoaN e.m)), .string ByteArray.empty, .string ByteArray.empty, .string ByteArray.empty]) (c' := [.string (strB (itoaN e.kind)), .string (strB (itoaN e.pid)), .string (strB (itoaN e.fd)), .string (strB (itoaN e.n)), .string (strB (itoaN e.m)), .string (strB (quoteN e.path)), .string ByteArray.empty, .string ByteArray.empty]) (v := .string (strB (quoteN e.path)))) ?_
      rintro _ _ rfl
      refine dt_ ?_
      refine d_stepU rfl (st_st (b := r3) (off := 6) (c := [.string (strB (itoaN e.kind)), .string (strB (itoaN e.pid)), .string (strB (itoaN e.fd)), .string (strB (itoaN e.n)), .string (strB (itoaN e.m)), .string (strB (quoteN e.path)), .string ByteArray.empty, .string ByteArray.empty]) (c' := [.string (strB (itoaN e.kind)), .string (strB (itoaN e.pid)), .string (strB (itoaN e.fd)), .string (strB (itoaN e.n)), .string (strB (itoaN e.m)), .string (strB (quoteN e.path)), .string (strB (quoteN e.name)), .string ByteArray.empty]) (v := .string (strB (quoteN e.name)))) ?_
      rintro _ _ rfl
      refine dt_ ?_
      refine d_stepU rfl (st_st (b := r3) (off := 7) (c := [.string (strB (itoaN e.kind)), .string (strB (itoaN e.pid)), .string (strB (itoaN e.fd)), .string (strB (itoaN e.n)), .string (strB (itoaN e.m)), .string (strB (quoteN e.path)), .string (strB (quoteN e.name)), .string ByteArray.empty]) (c' := [.string (strB (itoaN e.kind)), .string (strB (itoaN e.pid)), .string (strB (itoaN e.fd)), .string (strB (itoaN e.n)), .string (strB (itoaN e.m)), .string (strB (quoteN e.path)), .string (strB (quoteN e.name)), .string (strB (quoteN e.data))]) (v := .string (strB (quoteN e.data)))) ?_
      rintro _ _ rfl
      refine dt_ ?_
      refine gt_ ?_
      exact s_ret1 (rs := [.cell 2 74]) Tryd.func42 rfl (by intro j; refine RVS.cell _ _ rfl sel_ (by rfl) ?_; exact RVS.nil) (⟨rfl, rfl⟩) ent_
  · refine d_step rfl (st_s2R (s := e.name) he.ok.k7) ?_
    rintro v Bs ⟨rB, cB, rfl, rfl⟩
    refine dt_ ?_
    refine d_step rfl (st_s2R (s := e.path) he.ok.k6) ?_
    rintro v Bs ⟨rA, cA, rfl, rfl⟩
    refine dt_ ?_
    refine d_step rfl (st_call (sp := spl_) (hs := quote_c (A := RO 5 rA e.path cA) (a := some ⟨rA, 0, none⟩) (n := e.path.length) (c := cA) e.path he.ok.k6 rfl he.l1)) ?_
    rintro v Bs ⟨Cs, ⟨rfl, rfl⟩, rfl⟩
    refine dt_ ?_
    refine d_step rfl (st_call (sp := spl_) (hs := quote_c (A := RO 5 rB e.name cB) (a := some ⟨rB, 0, none⟩) (n := e.name.length) (c := cB) e.name he.ok.k7 rfl he.l2)) ?_
    rintro v Bs ⟨Cs, ⟨rfl, rfl⟩, rfl⟩
    refine dt_ ?_
    refine d_step rfl (st_call (sp := spl_) (hs := quote_c (A := D) (a := a) (n := e.data.length) (c := c) e.data he.ok.k8 rfl he.l3)) ?_
    rintro v Bs ⟨Cs, ⟨rfl, rfl⟩, rfl⟩
    refine dt_ ?_
    refine d_stepU rfl (st_st (b := r3) (off := 5) (c := [.string (strB (itoaN e.kind)), .string (strB (itoaN e.pid)), .string (strB (itoaN e.fd)), .string (strB (itoaN e.n)), .string (strB (itoaN e.m)), .string ByteArray.empty, .string ByteArray.empty, .string ByteArray.empty]) (c' := [.string (strB (itoaN e.kind)), .string (strB (itoaN e.pid)), .string (strB (itoaN e.fd)), .string (strB (itoaN e.n)), .string (strB (itoaN e.m)), .string (strB (quoteN e.path)), .string ByteArray.empty, .string ByteArray.empty]) (v := .string (strB (quoteN e.path)))) ?_
    rintro _ _ rfl
    refine dt_ ?_
    refine d_stepU rfl (st_st (b := r3) (off := 6) (c := [.string (strB (itoaN e.kind)), .string (strB (itoaN e.pid)), .string (strB (itoaN e.fd)), .string (strB (itoaN e.n)), .string (strB (itoaN e.m)), .string (strB (quoteN e.path)), .string ByteArray.empty, .string ByteArray.empty]) (c' := [.string (strB (itoaN e.kind)), .string (strB (itoaN e.pid)), .string (strB (itoaN e.fd)), .string (strB (itoaN e.n)), .string (strB (itoaN e.m)), .string (strB (quoteN e.path)), .string (strB (quoteN e.name)), .string ByteArray.empty]) (v := .string (strB (quoteN e.name)))) ?_
    rintro _ _ rfl
    refine dt_ ?_
    refine d_stepU rfl (st_st (b := r3) (off := 7) (c := [.string (strB (itoaN e.kind)), .string (strB (itoaN e.pid)), .string (strB (itoaN e.fd)), .string (strB (itoaN e.n)), .string (strB (itoaN e.m)), .string (strB (quoteN e.path)), .string (strB (quoteN e.name)), .string ByteArray.empty]) (c' := [.string (strB (itoaN e.kind)), .string (strB (itoaN e.pid)), .string (strB (itoaN e.fd)), .string (strB (itoaN e.n)), .string (strB (itoaN e.m)), .string (strB (quoteN e.path)), .string (strB (quoteN e.name)), .string (strB (quoteN e.data))]) (v := .string (strB (quoteN e.data)))) ?_
    rintro _ _ rfl
    refine dt_ ?_
    refine gt_ ?_
    exact s_ret1 (rs := [.cell 2 74]) Tryd.func42 rfl (by intro j; refine RVS.cell _ _ rfl sel_ (by rfl) ?_; exact RVS.nil) (⟨rfl, rfl⟩) ent_
end Go.Proofs.YtmlddafbenfilaaDoor
/- The line of an event. -/
namespace Go.Proofs.YtmlddafbenfilaaDoor
open Go.Cam Go.RowKit
set_option maxRecDepth 100000
theorem itoaN_bys (n : Int) : Bys (itoaN n) := fun x hx => by
  unfold itoaN at hx
  obtain ⟨c, _, rfl⟩ := List.mem_map.1 hx
  exact c.toNat_lt
theorem wordsN_bys {e : Ev} (h : e.ok) : ∀ w ∈ wordsN e, Bys w := fun w hw => by
  unfold wordsN at hw
  simp only [List.mem_cons, List.not_mem_nil, or_false] at hw
  rcases hw with rfl | rfl | rfl | rfl | rfl | rfl | rfl | rfl
  · exact itoaN_bys _
  · exact itoaN_bys _
  · exact itoaN_bys _
  · exact itoaN_bys _
  · exact itoaN_bys _
  · exact quoteN_bys h.k6
  · exact quoteN_bys h.k7
  · exact quoteN_bys h.k8
theorem getD_bys {ws : List (List Nat)} (h : ∀ w ∈ ws, Bys w) (i : Nat) : Bys (ws.getD i []) := by
  rw [List.getD_eq_getElem?_getD]
  cases e : ws[i]? with
  | none => exact emp_bys
  | some x => exact h x (List.mem_of_getElem? e)
theorem joinB_bys : ∀ (ws : List (List Nat)), (∀ w ∈ ws, Bys w) → Bys (joinB ws)
  | [], _ => emp_bys
  | [w], h => h w (List.mem_cons_self ..)
  | w :: v :: ws, h => by
    have ih := joinB_bys (v :: ws) fun x hx => h x (List.mem_cons_of_mem _ hx)
    intro x hx
    rcases List.mem_append.1 (show x ∈ w ++ 32 :: joinB (v :: ws) from hx) with hx | hx
    · exact h w (List.mem_cons_self ..) x hx
    · rcases List.mem_cons.1 hx with rfl | hx
      · decide
      · exact ih x hx
theorem lineN_bys {e : Ev} (h : e.ok) : Bys (lineN e) := joinB_bys _ fun w hw => wordsN_bys h w (List.mem_of_mem_take hw)
theorem joinB_len : ∀ (ws : List (List Nat)), (joinB ws).length ≤ (ws.map (·.length)).sum + ws.length
  | [] => Nat.zero_le _
  | [w] => by simp [joinB]
  | w :: v :: ws => by
    have ih := joinB_len (v :: ws)
    show (w ++ 32 :: joinB (v :: ws)).length ≤ _
    rw [List.length_append, List.length_cons, List.map_cons, List.sum_cons, List.length_cons]
    omega
theorem take_sum : ∀ (l : List Nat) (n : Nat), (l.take n).sum ≤ l.sum
  | [], n => by simp
  | x :: l, 0 => by simp
  | x :: l, n + 1 => by
    have := take_sum l n
    simp only [List.take_succ_cons, List.sum_cons]; omega
theorem itoaN_len {n : Int} (h : I64 n) : (itoaN n).length ≤ 20 := by
  unfold itoaN Go.Lib.itoa
  rw [List.length_map]
  split
  · have := dec_len (u := n.natAbs) (by omega)
    rw [List.length_cons]; omega
  · have := dec_len (u := n.toNat) (by omega)
    omega
theorem lineN_len {e : Ev} (h : e.ok) : (lineN e).length ≤ 3 * (e.path.length + e.name.length + e.data.length) + 114 := by
  have h1 := joinB_len ((wordsN e).take (cntW (wordsN e) dW 8))
  have h2 := take_sum ((wordsN e).map (·.length)) (cntW (wordsN e) dW 8)
  rw [← List.map_take] at h2
  have h3 : ((wordsN e).map (·.length)).sum ≤ 3 * (e.path.length + e.name.length + e.data.length) + 106 := by
    have a1 := itoaN_len h.k1
    have a2 := itoaN_len h.k2
    have a3 := itoaN_len h.k3
    have a4 := itoaN_len h.k4
    have a5 := itoaN_len h.k5
    have a6 := quoteN_len e.path
    have a7 := quoteN_len e.name
    have a8 := quoteN_len e.data
    simp only [wordsN, List.map_cons, List.map_nil, List.sum_cons, List.sum_nil]
    omega
  have h4 : ((wordsN e).take (cntW (wordsN e) dW 8)).length ≤ 8 := by
    rw [List.length_take]; have := cntW_le (wordsN e) dW 8; omega
  unfold lineN
  omega
theorem cntW_step (w d : List (List Nat)) (n : Nat) (h : 1 < n) : cntW w d n = if w.getD (n - 1) [] = d.getD (n - 1) [] then cntW w d (n - 1) else n := by
  match n, h with
  | n + 2, _ => rw [cntW]; rfl
theorem cntW_one (w d : List (List Nat)) (n : Nat) (h : n = 1) : cntW w d n = n := by subst h; rfl
theorem joinw_c {A : HP} {a : Option Addr} {n c : Nat} {row : Nat → List Value} [rd : Rd A 1 (.slice a n c) n row] (ws : List (List Nat)) (hn : ws.length = n) (h0 : 0 < n) (hrow : ∀ i, i < n → row i = txR ws i) (hsmall : n ≤ 100) (hlen : (joinB ws).length ≤ 100000000000000) : Ctr Tryd.prog 47 [.slice a n c, .string (strB [32])] [A] (fun v Bs => v = .string (strB (joinB ws)) ∧ Bs = []) := ctr_bel fun F H M w0 w q hh => by
  subst hn
  have hr := rd.h H M (star_fst q)
  obtain ⟨base, cap, e, hc, hl, hk⟩ := hr
  cases e
  obtain ⟨b, off, cs, ty, fr, rfl, hk, hs, hx⟩ := hk h0
  have hb := hh.look hk
  have hx2 : cs.extract off (off + ws.length * 1) = (ws.map fun w => Value.string (strB w)).toArray := by
    rw [hx, flat_congr hrow, flat_tx]
  have e1 : (ws.map strB).map (·.data.toList) = ws.map fun w => w.map UInt8.ofNat := by
    rw [List.map_map]; exact List.map_congr_left fun x _ => strB_list x
  have e2 : (strB [32]).data.toList = [32] := rfl
  have := Tryd.strings_Join b off c (ws.map strB) (strB [32]) w (fun j x hj => by
    rw [cell_of hb]
    rw [List.getElem?_map] at hj
    obtain ⟨y, hy, rfl⟩ := Option.map_eq_some_iff.1 hj
    have hjl : j < ws.length := by rcases Nat.lt_or_ge j ws.length with g | g; exact g; rw [List.getElem?_eq_none g] at hy; cases hy
    have h5 := congrArg (fun z => z[j]?) hx2
    simp only [Array.getElem?_extract, List.getElem?_toArray, List.getElem?_map, hy, Option.map_some] at h5
    rw [if_pos (by omega)] at h5
    exact h5) (by rcases Nat.lt_or_ge b w.heap.size with g | g; exact g; rw [Array.getElem?_eq_none g] at hb; cases hb) (by rw [List.length_map]; omega) (by rw [List.length_map]; exact hc) (by rw [e1, e2, join_is, List.length_map]; omega)
  rw [List.length_map] at this
  refine this.mono fun e w' ⟨he, hb⟩ => ?_
  subst he
  refine ⟨_, rfl, ⟨?_, rfl⟩, hb⟩
  rw [e1, e2, join_is]
  rfl
/-- the event of noughts -/
abbrev ev0 : Ev := ⟨0, 0, 0, 0, 0, [], [], []⟩
theorem ev0_fit : ev0.fit where
  ok := ⟨by decide, by decide, by decide, by decide, by decide, emp_bys, emp_bys, emp_bys⟩
  l1 := by decide
  l2 := by decide
  l3 := by decide
theorem wd_at (e : Ev) {i : Nat} (h : i < 8) : (wdL e)[i]? = some (.string (strB ((wordsN e).getD i []))) := by
  have e1 : wdL e = (wordsN e).map fun w => .string (strB w) := rfl
  have hl : i < (wordsN e).length := h
  rw [e1, List.getElem?_map, List.getElem?_eq_getElem hl, List.getD_eq_getElem?_getD, List.getElem?_eq_getElem hl]; rfl
theorem wd_take (e : Ev) (_ n : Nat) (hn : n ≤ 8) : (wdL e).toArray.extract 0 (0 + n * 1) = (flat n (txR ((wordsN e).take n))).toArray := by
  apply Array.ext'
  rw [Array.toList_extract, List.extract_eq_take_drop]
  have e1 : wdL e = (wordsN e).map fun w => .string (strB w) := rfl
  have e2 : ((wordsN e).take n).length = n := by rw [List.length_take]; exact Nat.min_eq_left hn
  have e3 := flat_tx ((wordsN e).take n)
  rw [e2] at e3
  rw [e3]
  show List.take (0 + n * 1 - 0) (List.drop 0 (wdL e)) = _
  rw [List.drop_zero, Nat.sub_zero, Nat.zero_add, Nat.mul_one, e1, List.map_take]
set_option maxHeartbeats 16000000 in
theorem line_c (e : Ev) (he : e.fit) {D : HP} {a : Option Addr} {c : Nat} [Rd D 1 (.slice a e.data.length c) e.data.length (byR e.data)] : Ctr Tryd.prog 33 [.agg (evL e a c).toArray] [GL, D] (fun v Bs => v = .string (strB (lineN e)) ∧ Bs = [D]) := by
  have hlen := lineN_len he.ok
  have hl1 := he.l1
  have hl2 := he.l2
  have hl3 := he.l3
  have hxt := wd_take e 0
  have hjl : ∀ n, cntW (wordsN e) dW 8 = n → joinB ((wordsN e).take n) = lineN e := fun n h => by unfold lineN; rw [h]
  refine s_enter 29 [(0, _)] (fun F => [_, _, F]) Tryd.func33 fun F => ?_
  refine gt_ ?_
  refine s_box fun r1 => ?_
  refine gt_ ?_
  refine s_call (sp := spl_) (hs := words_c e he (D := D) (a := a) (c := c)) (h := ?_)
  rintro v Bs ⟨rfl, rfl⟩
  refine gt_ ?_
  refine s_new0 (e := 5) (sz := 1) (row := byR []) ?_
  refine s_call (sp := spl_) (hs := words_c ev0 ev0_fit (D := SA (some 5) 1 (.slice none 0 0) 0 (byR [])) (a := none) (c := 0)) (h := ?_)
  rintro v Bs ⟨rfl, rfl⟩
  refine gt_ ?_
  refine s_alloc fun r3 => ?_
  refine gt_ ?_
  refine s_alloc fun r4 => ?_
  refine gt_ ?_
  refine s_loop (fun n : Nat => [(3, .pointer (some ⟨r3, 0, none⟩)), (4, .pointer (some ⟨r4, 0, none⟩)), (5, .int .i64 (n : Int))]) (fun _ => [Box r3 74 (wdL e), Box r4 74 (wdL ev0), D, F]) (fun n => 1 ≤ n ∧ n ≤ 8 ∧ cntW (wordsN e) dW 8 = cntW (wordsN e) dW n) (fun n => n) 8 ⟨by decide, by decide, rfl⟩ ent_ ?_
  rintro n ⟨hn1, hn8, hn⟩ next
  have hcell : ∀ i, i < 8 → (wdL ev0)[i]? = some (.string (strB (dW.getD i []))) := fun i hi => by rw [wd_at ev0 hi, dW_is]
  have hdb : ∀ i, Bys (dW.getD i []) := fun i => by rw [← dW_is]; exact getD_bys (wordsN_bys ev0_fit.ok) i
  refine gt_ ?_
  refine s_drawN 0 [.q 0, .q 1, .q 2, .q 3, .q 4, .q 5, .q 6, .q 7, .q 8, .q 9, .q 10, .q 11, .q 12] ?_
  refine dt_ ?_
  cases hg : decide ((n : Int) > 1) with
  | false =>
    have hg2 := of_decide_eq_false hg
    have e1 : cntW (wordsN e) dW n = n := cntW_one _ _ _ (by omega)
    refine dt_ ?_
    refine gt_ ?_
    refine s_look (lk_slcm n (by omega) (by omega)) ?_
    refine s_fzo (b := r3) (off := 0) (m := n) (c := n) (sz := 1) (row := txR ((wordsN e).take n)) sel_ (fun _ _ => rfl) (Nat.le_refl _) (by show 0 + n * 1 ≤ 8; omega) (hxt n hn8) ?_
    refine s_call (sp := spl_) (hs := joinw_c (A := SA none 1 (.slice (some ⟨r3, 0, none⟩) n n) n (txR ((wordsN e).take n))) (a := some ⟨r3, 0, none⟩) (n := n) (c := n) ((wordsN e).take n) (by rw [List.length_take]; exact Nat.min_eq_left hn8) (by omega) (fun _ _ => rfl) (by omega) (by rw [hjl n (hn.trans e1)]; omega)) (h := ?_)
    rintro v Bs ⟨rfl, rfl⟩
    refine gt_ ?_
    exact s_ret1 (rs := [.tmp 2]) Tryd.func33 rfl (by intro j; refine RVS.tmp _ rfl ?_; exact RVS.nil) (⟨by unfold lineN; rw [hn, e1], rfl⟩) ent_
  | true =>
    have hg2 := of_decide_eq_true hg
    have hb1 := getD_bys (wordsN_bys he.ok) (n - 1)
    have hb2 := hdb (n - 1)
    refine dt_ ?_
    rw [show ((n : Int) - 1) = ((n - 1 : Nat) : Int) by omega]
    refine d_look rfl (lk_zix (b := r3) (i := n - 1)) ?_
    refine d_look rfl (lk_ldx (b := r3) (off := (n - 1) * 1) (v := .string (strB ((wordsN e).getD (n - 1) []))) sel_ (by rw [Nat.mul_one]; exact wd_at e (by omega))) ?_
    refine dt_ ?_
    rw [show ((n : Int) - 1) = ((n - 1 : Nat) : Int) by omega]
    refine d_look rfl (lk_zix (b := r4) (i := n - 1)) ?_
    refine d_look rfl (lk_ldx (b := r4) (off := (n - 1) * 1) (v := .string (strB (dW.getD (n - 1) []))) sel_ (by rw [Nat.mul_one]; exact hcell _ (by omega))) ?_
    refine dt_ ?_
    cases heq : decide ((wordsN e).getD (n - 1) [] = dW.getD (n - 1) []) with
    | false =>
      have e1 : cntW (wordsN e) dW n = n := by rw [cntW_step _ _ _ (by omega), if_neg (of_decide_eq_false heq)]
      refine gt_ ?_
      refine s_look (lk_slcm n (by omega) (by omega)) ?_
      refine s_fzo (b := r3) (off := 0) (m := n) (c := n) (sz := 1) (row := txR ((wordsN e).take n)) sel_ (fun _ _ => rfl) (Nat.le_refl _) (by show 0 + n * 1 ≤ 8; omega) (hxt n hn8) ?_
      refine s_call (sp := spl_) (hs := joinw_c (A := SA none 1 (.slice (some ⟨r3, 0, none⟩) n n) n (txR ((wordsN e).take n))) (a := some ⟨r3, 0, none⟩) (n := n) (c := n) ((wordsN e).take n) (by rw [List.length_take]; exact Nat.min_eq_left hn8) (by omega) (fun _ _ => rfl) (by omega) (by rw [hjl n (hn.trans e1)]; omega)) (h := ?_)
      rintro v Bs ⟨rfl, rfl⟩
      refine gt_ ?_
      exact s_ret1 (rs := [.tmp 2]) Tryd.func33 rfl (by intro j; refine RVS.tmp _ rfl ?_; exact RVS.nil) (⟨by unfold lineN; rw [hn, e1], rfl⟩) ent_
    | true =>
      have e1 : cntW (wordsN e) dW n = cntW (wordsN e) dW (n - 1) := by rw [cntW_step _ _ _ (by omega), if_pos (of_decide_eq_true heq)]
      refine gt_ ?_
      rw [show ((n : Int) - 1) = ((n - 1 : Nat) : Int) by omega]
      exact s_entF ent_ (s_keep _ (next (n - 1) ⟨by omega, by omega, hn.trans e1⟩ (by omega)))
end Go.Proofs.YtmlddafbenfilaaDoor
