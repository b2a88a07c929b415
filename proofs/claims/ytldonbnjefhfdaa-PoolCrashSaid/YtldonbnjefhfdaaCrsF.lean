/- Keys: their order. -/
import Derived.Test.YtldonbnjefhfdaaCrsFacts
import Derived.Test.YtldonbnjefhfdaaCamAA
import Derived.Test.YtldonbnjefhfdaaCamAM
import Derived.Test.YtldonbnjefhfdaaCamAE
namespace Go.Proofs.Ytldonbnjefhfdaa
open Go.Cam
set_option maxRecDepth 100000
theorem isNaN_ok (x : Int) : Ctr Try.prog 97 [.int .i64 x] [] (fun r Bs => r = .bool false ∧ Bs = []) := by
  refine s_enter 6 [(0, _)] (fun F => [F]) Try.func97 fun F => ?_
  refine go_ ?_
  exact s_ret1 (rs := [.tmp 2]) Try.func97 rfl (by intro j; refine RVS.tmp _ rfl ?_; exact RVS.nil) (⟨by simp, rfl⟩) (by repeat (first | exact Ent.nil | refine Ent.per (by repeat (first | with_reducible exact Sel.here | with_reducible apply Sel.there)) ?_ | refine Ent.cons (by repeat (first | with_reducible exact Sel.here | with_reducible apply Sel.there)) ?_))
def cmpI (a b : Int) : Int := if a < b then -1 else if a > b then 1 else 0
theorem compare_ok (a b : Int) : Ctr Try.prog 100 [.int .i64 a, .int .i64 b] [] (fun r Bs => r = .int .i64 (cmpI a b) ∧ Bs = []) := by
  refine s_enter 20 [(0, _), (1, _)] (fun F => [F]) Try.func100 fun F => ?_
  refine go_ ?_
  refine s_call (sp := (by repeat (first | exact Split.nil | apply Split.perx (by repeat (first | with_reducible exact Sel.here | with_reducible apply Sel.there)) (by infer_instance) | apply Split.cons (by repeat (first | with_reducible exact Sel.here | with_reducible apply Sel.there))))) (hs := isNaN_ok a) (h := ?_)
  rintro v Bs ⟨rfl, rfl⟩
  refine go_ ?_
  refine s_call (sp := (by repeat (first | exact Split.nil | apply Split.perx (by repeat (first | with_reducible exact Sel.here | with_reducible apply Sel.there)) (by infer_instance) | apply Split.cons (by repeat (first | with_reducible exact Sel.here | with_reducible apply Sel.there))))) (hs := isNaN_ok b) (h := ?_)
  rintro v Bs ⟨rfl, rfl⟩
  refine go_ ?_
  refine s_if (fun h => ?_) (fun h => ?_)
  · refine go_ ?_
    exact s_ret1 (rs := [.tmp 4]) Try.func100 rfl (by intro j; refine RVS.tmp _ rfl ?_; exact RVS.nil) (⟨by simp [cmpI, h], rfl⟩) (by repeat (first | exact Ent.nil | refine Ent.per (by repeat (first | with_reducible exact Sel.here | with_reducible apply Sel.there)) ?_ | refine Ent.cons (by repeat (first | with_reducible exact Sel.here | with_reducible apply Sel.there)) ?_))
  · refine go_ ?_
    refine s_if (fun h2 => ?_) (fun h2 => ?_)
    · refine go_ ?_
      exact s_ret1 (rs := [.tmp 4]) Try.func100 rfl (by intro j; refine RVS.tmp _ rfl ?_; exact RVS.nil) (⟨by simp [cmpI, h, h2], rfl⟩) (by repeat (first | exact Ent.nil | refine Ent.per (by repeat (first | with_reducible exact Sel.here | with_reducible apply Sel.there)) ?_ | refine Ent.cons (by repeat (first | with_reducible exact Sel.here | with_reducible apply Sel.there)) ?_))
    · refine go_ ?_
      exact s_ret1 (rs := [.tmp 4]) Try.func100 rfl (by intro j; refine RVS.tmp _ rfl ?_; exact RVS.nil) (⟨by simp [cmpI, h, h2], rfl⟩) (by repeat (first | exact Ent.nil | refine Ent.per (by repeat (first | with_reducible exact Sel.here | with_reducible apply Sel.there)) ?_ | refine Ent.cons (by repeat (first | with_reducible exact Sel.here | with_reducible apply Sel.there)) ?_))
def orI (g : Nat → Int) : Nat → Nat → Int
  | 0, _ => 0
  | k + 1, i => if g i ≠ 0 then g i else orI g k (i + 1)
theorem or_ok {m : Option Nat} {a : Option Addr} {n c : Nat} {g : Nat → Int} (hn : n < 1000000) :
    Ctr Try.prog 99 [.slice a n c] [SA m 1 (.slice a n c) n (fun i => [.int .i64 (g i)])] (fun r Bs => r = .int .i64 (orI g n 0) ∧ Bs = []) := by
  refine s_enter 18 [(0, _)] (fun F => [_, F]) Try.func99 fun F => ?_
  refine go_ ?_
  refine s_loop (fun i : Nat => [(3, .int .i64 0), (6, .slice a n c), (7, .int .i64 n), (8, .int .i64 i)]) (fun _ => [SA m 1 (.slice a n c) n (fun i => [.int .i64 (g i)]), F]) (fun i => i ≤ n ∧ orI g (n - i) i = orI g n 0) (fun i => n - i) 0 ⟨by omega, rfl⟩ (by repeat (first | exact Ent.nil | refine Ent.per (by repeat (first | with_reducible exact Sel.here | with_reducible apply Sel.there)) ?_ | refine Ent.cons (by repeat (first | with_reducible exact Sel.here | with_reducible apply Sel.there)) ?_)) ?_
  rintro i ⟨hi, he⟩ next
  refine go_ ?_
  refine s_if (fun h => ?_) (fun h => ?_)
  · refine go_ ?_
    obtain ⟨k, hk⟩ : ∃ k, n - i = k + 1 := ⟨n - i - 1, by omega⟩
    rw [hk, orI] at he
    refine s_ine (fun h2 => ?_) (fun h2 => ?_)
    · rw [if_pos h2] at he
      refine go_ ?_
      exact s_ret1 (rs := [.tmp 2]) Try.func99 rfl (by intro j; refine RVS.tmp _ rfl ?_; exact RVS.nil) (⟨by rw [← he], rfl⟩) (by repeat (first | exact Ent.nil | refine Ent.per (by repeat (first | with_reducible exact Sel.here | with_reducible apply Sel.there)) ?_ | refine Ent.cons (by repeat (first | with_reducible exact Sel.here | with_reducible apply Sel.there)) ?_))
    · rw [if_neg (by simpa using h2)] at he
      refine go_ ?_
      exact s_keep _ (next (i + 1) ⟨by omega, by rw [show n - (i + 1) = k by omega]; exact he⟩ (by omega))
  · refine go_ ?_
    have : n - i = 0 := by omega
    rw [this] at he
    exact s_ret1 (rs := [.tmp 2]) Try.func99 rfl (by intro j; refine RVS.tmp _ rfl ?_; exact RVS.nil) (⟨by rw [← he]; rfl, rfl⟩) (by repeat (first | exact Ent.nil | refine Ent.per (by repeat (first | with_reducible exact Sel.here | with_reducible apply Sel.there)) ?_ | refine Ent.cons (by repeat (first | with_reducible exact Sel.here | with_reducible apply Sel.there)) ?_))
structure Key where
  obj : Int
  kind : Int
  off : Int
  deriving DecidableEq
def Key.cells (k : Key) : List Value := [.int .i64 k.obj, .int .i64 k.kind, .int .i64 k.off]
abbrev Key.v (k : Key) : Value := .agg #[.int .i64 k.obj, .int .i64 k.kind, .int .i64 k.off]
def Key.lt (a b : Key) : Bool := decide (orI (fun i => match i with | 0 => cmpI a.obj b.obj | 1 => cmpI a.kind b.kind | _ => cmpI a.off b.off) 3 0 < 0)
theorem less_ok (a b : Key) : Ctr Try.prog 89 [a.v, b.v] [] (fun r Bs => r = .bool (a.lt b) ∧ Bs = []) := by
  refine s_enter 23 [(0, _), (1, _)] (fun F => [F]) Try.func89 fun F => ?_
  refine go_ ?_
  refine s_box fun r2 => ?_
  refine s_box fun r3 => ?_
  refine go_ ?_
  refine s_drawN 0 [.q 0, .q 1, .q 2, .q 3, .q 5, .q 6, .q 7, .q 8, .q 10, .q 11, .q 12, .q 13, .s 4, .s 9, .s 14, .s 15, .s 16, .q 17, .q 18] ?_
  refine do_ ?_
  refine d_step rfl (st_call (sp := (by repeat (first | exact Split.nil | apply Split.perx (by repeat (first | with_reducible exact Sel.here | with_reducible apply Sel.there)) (by infer_instance) | apply Split.cons (by repeat (first | with_reducible exact Sel.here | with_reducible apply Sel.there))))) (hs := compare_ok _ _)) ?_
  rintro v Bs ⟨Cs, ⟨rfl, rfl⟩, rfl⟩
  refine do_ ?_
  refine d_step rfl (st_call (sp := (by repeat (first | exact Split.nil | apply Split.perx (by repeat (first | with_reducible exact Sel.here | with_reducible apply Sel.there)) (by infer_instance) | apply Split.cons (by repeat (first | with_reducible exact Sel.here | with_reducible apply Sel.there))))) (hs := compare_ok _ _)) ?_
  rintro v Bs ⟨Cs, ⟨rfl, rfl⟩, rfl⟩
  refine do_ ?_
  refine d_step rfl (st_call (sp := (by repeat (first | exact Split.nil | apply Split.perx (by repeat (first | with_reducible exact Sel.here | with_reducible apply Sel.there)) (by infer_instance) | apply Split.cons (by repeat (first | with_reducible exact Sel.here | with_reducible apply Sel.there))))) (hs := compare_ok _ _)) ?_
  rintro v Bs ⟨Cs, ⟨rfl, rfl⟩, rfl⟩
  refine do_ ?_
  refine d_step rfl (st_bs (cells := [.int .i64 (cmpI a.obj b.obj), .int .i64 (cmpI a.kind b.kind), .int .i64 (cmpI a.off b.off)]) (by intro j; rfl)) ?_
  rintro v Bs ⟨s, rfl, rfl⟩
  refine d_open (SA.cg (fun i => [.int .i64 (match i with | 0 => cmpI a.obj b.obj | 1 => cmpI a.kind b.kind | _ => cmpI a.off b.off)]) fun i hi => by match i, hi with | 0, _ => rfl | 1, _ => rfl | 2, _ => rfl) ?_
  refine do_ ?_
  refine d_step rfl (st_call (sp := (by repeat (first | exact Split.nil | apply Split.perx (by repeat (first | with_reducible exact Sel.here | with_reducible apply Sel.there)) (by infer_instance) | apply Split.cons (by repeat (first | with_reducible exact Sel.here | with_reducible apply Sel.there))))) (hs := or_ok (by omega))) ?_
  rintro v Bs ⟨Cs, ⟨rfl, rfl⟩, rfl⟩
  refine do_ ?_
  refine go_ ?_
  exact s_ret1 (rs := [.tmp 4]) Try.func89 rfl (by intro j; refine RVS.tmp _ rfl ?_; exact RVS.nil) (⟨rfl, rfl⟩) (by repeat (first | exact Ent.nil | refine Ent.per (by repeat (first | with_reducible exact Sel.here | with_reducible apply Sel.there)) ?_ | refine Ent.cons (by repeat (first | with_reducible exact Sel.here | with_reducible apply Sel.there)) ?_))
end Go.Proofs.Ytldonbnjefhfdaa
/- slices.Grow and slices.Concat of bytes. -/
namespace Go.Proofs.Ytldonbnjefhfdaa
open Go.Cam
set_option maxRecDepth 100000
theorem grow_c (m : Nat) (hm : m + 512 ≤ 140737488355328) : Ctr Try.prog 101 [.slice none 0 0, .int .i64 (m : Int)] [] (fun v Bs => ∃ a cap, v = .slice a 0 cap ∧ Bs = [SA (some 5) 1 (.slice a 0 cap) 0 (fun _ => [])]) := by
  refine s_enter 27 [(0, _), (1, _)] (fun F => [F]) Try.func101 fun F => ?_
  refine go_ ?_
  rw [show decide ((m : Int) < 0) = false from decide_eq_false (by omega)]
  refine go_ ?_
  refine s_look lk_cap ?_
  refine go_ ?_
  rw [show (m : Int) - (((0 : Nat) : Int) - ((0 : Nat) : Int)) = (m : Int) by omega]
  refine go_ ?_
  refine s_if (fun h1 => ?_) (fun h1 => ?_)
  · refine go_ ?_
    refine s_look lk_cap ?_
    refine s_look (lk_slc 0 0 (by omega) (by omega)) ?_
    rw [show Value.slice (sladdr none 1 0 0) (0 - 0) (0 - 0) = Value.slice none 0 0 from rfl]
    refine go_ ?_
    refine s_step (st_appz (m := m) (it := .i64) (o1 := ⟨rfl⟩) (by kernel_rfl) (by omega)) ?_
    rintro _ _ ⟨a, cap, rfl, hc, rfl⟩
    refine go_ ?_
    refine s_open (SA.cut 0 (by omega)) ?_
    refine s_open (SA.cg (fun _ => []) fun i hi => by omega) ?_
    exact s_ret1 (rs := [.tmp 4]) Try.func101 rfl (by intro j; refine RVS.tmp _ rfl ?_; exact RVS.nil) (⟨a, cap, by cases a <;> simp [Addr.add], rfl⟩) (by repeat (first | exact Ent.nil | refine Ent.per (by repeat (first | with_reducible exact Sel.here | with_reducible apply Sel.there)) ?_ | refine Ent.cons (by repeat (first | with_reducible exact Sel.here | with_reducible apply Sel.there)) ?_))
  · refine go_ ?_
    refine s_new0 (e := 5) (sz := 1) (row := fun _ => []) ?_
    exact s_ret1 (rs := [.tmp 4]) Try.func101 rfl (by intro j; refine RVS.tmp _ rfl ?_; exact RVS.nil) (⟨_, _, rfl, rfl⟩) (by repeat (first | exact Ent.nil | refine Ent.per (by repeat (first | with_reducible exact Sel.here | with_reducible apply Sel.there)) ?_ | refine Ent.cons (by repeat (first | with_reducible exact Sel.here | with_reducible apply Sel.there)) ?_))
theorem byR_one (l : List Nat) (n : Nat) : (flat n (byR l)).all one = true := by
  rw [List.all_eq_true]
  intro u hu
  obtain ⟨i, _, h2⟩ := List.mem_flatMap.1 hu
  simp at h2; subst h2; rfl
theorem byR_cat (l m : List Nat) : ∀ i, i < (l ++ m).length → rcat l.length (byR l) (byR m) i = byR (l ++ m) i := by
  intro i hi
  unfold rcat byR
  by_cases h : i < l.length
  · simp [h, List.getD_eq_getElem?_getD, List.getElem?_append_left h]
  · simp [h, List.getD_eq_getElem?_getD, List.getElem?_append_right (Nat.le_of_not_lt h)]
set_option maxHeartbeats 1000000 in
theorem concat_c {o a1 a2 : Option Addr} {c1 c2 : Nat} (l1 l2 : List Nat) (hl : l1.length + l2.length < 1099511627776) : Ctr Try.prog 90 [.slice o 2 2] [SA (some 37) 1 (.slice o 2 2) 2 (rowsOf 1 [.slice a1 l1.length c1, .slice a2 l2.length c2]), BS (.slice a1 l1.length c1) l1, BS (.slice a2 l2.length c2) l2]
    (fun v Bs => ∃ a cap, v = .slice a (l1 ++ l2).length cap ∧ Bs = [SA (some 5) 1 (.slice a (l1 ++ l2).length cap) (l1 ++ l2).length (byR (l1 ++ l2))]) := by
  refine s_enter 36 [(0, _)] (fun F => [_, _, _, F]) Try.func90 fun F => ?_
  refine go_ ?_
  refine s_unroll ?_
  refine go_ ?_
  refine s_look (lk_ixs (v := .slice o 2 2) (i := 0)) ?_
  refine s_look (lk_lde (v := .slice o 2 2) (u := .slice a1 l1.length c1)) ?_
  refine go_ ?_
  refine s_again ?_
  refine go_ ?_
  refine s_look (lk_ixs (v := .slice o 2 2) (i := 1)) ?_
  refine s_look (lk_lde (v := .slice o 2 2) (u := .slice a2 l2.length c2)) ?_
  refine go_ ?_
  refine s_again ?_
  refine go_ ?_
  rw [show (0 : Int) + (l1.length : Int) + (l2.length : Int) = ((l1.length + l2.length : Nat) : Int) by omega]
  refine s_call (sp := (by repeat (first | exact Split.nil | apply Split.perx (by repeat (first | with_reducible exact Sel.here | with_reducible apply Sel.there)) (by infer_instance) | apply Split.cons (by repeat (first | with_reducible exact Sel.here | with_reducible apply Sel.there))))) (hs := grow_c _ (by omega)) (h := ?_)
  rintro v Bs ⟨a, cap, rfl, rfl⟩
  refine go_ ?_
  refine s_unroll ?_
  refine go_ ?_
  refine s_look (lk_ixs (v := .slice o 2 2) (i := 0)) ?_
  refine s_look (lk_lde (v := .slice o 2 2) (u := .slice a1 l1.length c1)) ?_
  refine go_ ?_
  refine s_app (a := a) (len := 0) (cap := cap) (b := a1) (m := l1.length) (c := c1) (by repeat (first | with_reducible exact Sel.here | with_reducible apply Sel.there)) (by repeat (first | with_reducible exact SelR.here | with_reducible apply SelR.there)) (byR_one l1 _) (fun a3 cap3 => ?_)
  refine go_ ?_
  refine s_again ?_
  refine go_ ?_
  refine s_look (lk_ixs (v := .slice o 2 2) (i := 1)) ?_
  refine s_look (lk_lde (v := .slice o 2 2) (u := .slice a2 l2.length c2)) ?_
  refine go_ ?_
  refine s_app (a := a3) (len := 0 + l1.length) (cap := cap3) (b := a2) (m := l2.length) (c := c2) (by repeat (first | with_reducible exact Sel.here | with_reducible apply Sel.there)) (by repeat (first | with_reducible exact SelR.here | with_reducible apply SelR.there)) (byR_one l2 _) (fun a4 cap4 => ?_)
  refine go_ ?_
  refine s_again ?_
  refine go_ ?_
  refine s_open (SA.cg (byR (l1 ++ l2)) fun i hi => ?_) ?_
  · rw [← byR_cat l1 l2 i (by simp; omega)]
    unfold rcat
    simp
  rw [show 0 + l1.length + l2.length = (l1 ++ l2).length by simp]
  exact s_ret1 (rs := [.tmp 2]) Try.func90 rfl (by intro j; refine RVS.tmp _ rfl ?_; exact RVS.nil) (⟨_, _, rfl, rfl⟩) (by repeat (first | exact Ent.nil | refine Ent.per (by repeat (first | with_reducible exact Sel.here | with_reducible apply Sel.there)) ?_ | refine Ent.cons (by repeat (first | with_reducible exact Sel.here | with_reducible apply Sel.there)) ?_))
/-- bytes behind others, in memory of its own -/
theorem join_c {a1 a2 : Option Addr} {c1 c2 : Nat} (l1 l2 : List Nat) (hl : l1.length + l2.length < 1099511627776) : Ctr Try.prog 72 [.slice a1 l1.length c1, .slice a2 l2.length c2] [BS (.slice a1 l1.length c1) l1, BS (.slice a2 l2.length c2) l2]
    (fun v Bs => ∃ a cap, v = .slice a (l1 ++ l2).length cap ∧ Bs = [SA (some 5) 1 (.slice a (l1 ++ l2).length cap) (l1 ++ l2).length (byR (l1 ++ l2))]) := by
  refine s_enter 9 [(0, _), (1, _)] (fun F => [_, _, F]) Try.func72 fun F => ?_
  refine go_ ?_
  refine s_bs (cells := [.slice a1 l1.length c1, .slice a2 l2.length c2]) (fun o => ?_) (fun j => rfl)
  refine s_call (sp := (by repeat (first | exact Split.nil | apply Split.perx (by repeat (first | with_reducible exact Sel.here | with_reducible apply Sel.there)) (by infer_instance) | apply Split.cons (by repeat (first | with_reducible exact Sel.here | with_reducible apply Sel.there))))) (hs := concat_c l1 l2 hl) (h := ?_)
  rintro v Bs ⟨a, cap, rfl, rfl⟩
  refine go_ ?_
  exact s_ret1 (rs := [.tmp 4]) Try.func72 rfl (by intro j; refine RVS.tmp _ rfl ?_; exact RVS.nil) (⟨_, _, rfl, rfl⟩) (by repeat (first | exact Ent.nil | refine Ent.per (by repeat (first | with_reducible exact Sel.here | with_reducible apply Sel.there)) ?_ | refine Ent.cons (by repeat (first | with_reducible exact Sel.here | with_reducible apply Sel.there)) ?_))
end Go.Proofs.Ytldonbnjefhfdaa
/- drive: what a disk is; New, is, step, Size. -/
namespace Go.Proofs.Ytldonbnjefhfdaa
open Go.Cam
set_option maxRecDepth 100000
/-- a disk -/
structure Dr where
  n : Nat
  sure : Nat → List Nat
  cached : Int → List (List Nat)
  off : Bool
  fuse : Int
  steps : Nat
structure DrW where
  a : Option Addr
  c : Nat
  m : Nat
  vs : Int → Value
  ks : List Int
def Sec (l : List Nat) : Prop := l.length = 256 ∧ Bys l
structure DrOk (σ : Dr) (x : DrW) : Prop where
  n1 : 0 < σ.n
  n2 : σ.n ≤ 2048
  nd : x.ks.Nodup
  ne : ∀ k ∈ x.ks, σ.cached k ≠ []
  em : ∀ k, k ∉ x.ks → σ.cached k = []
  rg : ∀ k ∈ x.ks, 0 ≤ k ∧ k < σ.n
  ss : ∀ i, i < σ.n → Sec (σ.sure i)
  cs : ∀ k, ∀ s ∈ σ.cached k, Sec s
  cl : ∀ k, (σ.cached k).length ≤ σ.steps
  f1 : -1 ≤ σ.fuse
  f2 : σ.fuse < 9223372036854775808
def secR (l : List (List Nat)) (i : Nat) : List Value := bcl (l.getD i [])
def Dr.F (σ : Dr) (x : DrW) (k : Int) : HP := SO 90 256 (x.vs k) (σ.cached k).length (secR (σ.cached k))
def Dr.mg (x : DrW) (k : Int) : Option Value := if k ∈ x.ks then some (x.vs k) else none
def Dr.parts (b : Nat) (σ : Dr) (x : DrW) : List HP :=
  [Box b 58 [.slice x.a σ.n x.c, .map (some x.m), .bool σ.off, .int .i64 σ.fuse, .int .i64 (σ.steps : Int)],
   SA (some 90) 256 (.slice x.a σ.n x.c) σ.n (fun i => bcl (σ.sure i)), MG x.m (Dr.mg x), All x.ks (σ.F x)]
abbrev DrA (b : Nat) (σ : Dr) : HP := EX (DrOk σ) (Dr.parts b σ)
abbrev Dr.new (n : Nat) : Dr := ⟨n, fun _ => List.replicate 256 0, fun _ => [], false, -1, 0⟩
theorem sec0 : Sec (List.replicate 256 0) := ⟨by simp, Bys.zeros _⟩
abbrev Dr.box (b : Nat) (σ : Dr) (x : DrW) : HP := Box b 58 [.slice x.a σ.n x.c, .map (some x.m), .bool σ.off, .int .i64 σ.fuse, .int .i64 (σ.steps : Int)]
set_option maxHeartbeats 1000000 in
theorem dnew_c (n : Nat) (h1 : 32 ≤ n) (h2 : n ≤ 2048) : Ctr Try.prog 5 [.int .i64 (n : Int)] [] (fun v Bs => ∃ b, v = .tuple #[.pointer (some ⟨b, 0, none⟩), .int .i64 0] ∧ Bs = [DrA b (Dr.new n)]) := by
  refine s_enter 15 [(0, _)] (fun F => [F]) Try.func5 fun F => ?_
  refine go_ ?_
  rw [show decide ((n : Int) < 32) = false from decide_eq_false (by omega)]
  refine go_ ?_
  rw [show decide ((n : Int) > 2048) = false from decide_eq_false (by omega)]
  refine go_ ?_
  refine s_step (st_mk (len := n) (o1 := ⟨by rfl⟩)) ?_
  rintro _ _ ⟨a, rfl, rfl⟩
  refine s_open (SA.cg (fun i => bcl ((Dr.new n).sure i)) fun i hi => by simp [Dr.new, bcl]; rfl) ?_
  refine s_step st_mkm ?_
  rintro _ _ ⟨m, rfl, rfl⟩
  refine s_open (B := MG m (Dr.mg ⟨a, n, m, fun _ => .nilFunc, []⟩)) (fun _ _ q => by have e : Dr.mg ⟨a, n, m, fun _ => .nilFunc, []⟩ = fun _ => none := (by funext k; simp [Dr.mg]); rw [e]; exact q) ?_
  refine go_ ?_
  refine s_box fun b => ?_
  refine s_open (B := Dr.box b (Dr.new n) ⟨a, n, m, fun _ => .nilFunc, []⟩) (fun _ _ q => q) ?_
  refine go_ ?_
  refine s_all0 (F := (Dr.new n).F ⟨a, n, m, fun _ => .nilFunc, []⟩) ?_
  refine s_cls (φ := DrOk (Dr.new n)) (X := Dr.parts b (Dr.new n)) ⟨a, n, m, fun _ => .nilFunc, []⟩ ⟨by show 0 < n; omega, h2, List.nodup_nil, fun k hk => (nomatch hk), fun _ _ => rfl, fun k hk => (nomatch hk), fun _ _ => sec0, fun _ _ h => (nomatch h), fun _ => Nat.le_refl _, by show -1 ≤ (-1 : Int); omega, by show (-1 : Int) < _; omega⟩ (by repeat (first | exact Split.nil | apply Split.perx (by repeat (first | with_reducible exact Sel.here | with_reducible apply Sel.there)) (by infer_instance) | apply Split.cons (by repeat (first | with_reducible exact Sel.here | with_reducible apply Sel.there)))) ?_
  exact s_rett (rs := [.tmp 2, .tmp 3]) (vs := [_, _]) Try.func5 rfl (by intro j; refine RVS.tmp _ rfl ?_; refine RVS.tmp _ rfl ?_; exact RVS.nil) rfl (⟨b, rfl, rfl⟩) (by repeat (first | exact Ent.nil | refine Ent.per (by repeat (first | with_reducible exact Sel.here | with_reducible apply Sel.there)) ?_ | refine Ent.cons (by repeat (first | with_reducible exact Sel.here | with_reducible apply Sel.there)) ?_))
theorem is_c (b : Nat) (σ : Dr) (x : DrW) (k : Int) : Ctr Try.prog 54 [.pointer (some ⟨b, 0, none⟩), .int .i64 k] [Dr.box b σ x] (fun v Bs => v = .bool (decide (0 ≤ k ∧ k < σ.n)) ∧ Bs = [Dr.box b σ x]) := by
  refine s_enter 16 [(0, _), (1, _)] (fun F => [_, F]) Try.func54 fun F => ?_
  refine go_ ?_
  cases h : decide (k ≥ 0) with
  | false =>
    have := of_decide_eq_false h
    refine go_ ?_
    exact s_ret1 (rs := [.tmp 4]) Try.func54 rfl (by intro j; refine RVS.tmp _ rfl ?_; exact RVS.nil) (⟨by rw [decide_eq_false]; omega, rfl⟩) (by repeat (first | exact Ent.nil | refine Ent.per (by repeat (first | with_reducible exact Sel.here | with_reducible apply Sel.there)) ?_ | refine Ent.cons (by repeat (first | with_reducible exact Sel.here | with_reducible apply Sel.there)) ?_))
  | true =>
    have := of_decide_eq_true h
    refine go_ ?_
    exact s_ret1 (rs := [.tmp 4]) Try.func54 rfl (by intro j; refine RVS.tmp _ rfl ?_; exact RVS.nil) (⟨by congr 1; exact decide_eq_decide.2 (by omega), rfl⟩) (by repeat (first | exact Ent.nil | refine Ent.per (by repeat (first | with_reducible exact Sel.here | with_reducible apply Sel.there)) ?_ | refine Ent.cons (by repeat (first | with_reducible exact Sel.here | with_reducible apply Sel.there)) ?_))
theorem size_c (b : Nat) (σ : Dr) (x : DrW) : Ctr Try.prog 20 [.pointer (some ⟨b, 0, none⟩)] [Dr.box b σ x] (fun v Bs => v = .int .i64 (σ.n : Nat) ∧ Bs = [Dr.box b σ x]) := by
  refine s_enter 8 [(0, _)] (fun F => [_, F]) Try.func20 fun F => ?_
  refine go_ ?_
  exact s_ret1 (rs := [.tmp 2]) Try.func20 rfl (by intro j; refine RVS.tmp _ rfl ?_; exact RVS.nil) (⟨rfl, rfl⟩) (by repeat (first | exact Ent.nil | refine Ent.per (by repeat (first | with_reducible exact Sel.here | with_reducible apply Sel.there)) ?_ | refine Ent.cons (by repeat (first | with_reducible exact Sel.here | with_reducible apply Sel.there)) ?_))
/-- a step of the disk; false: the power is off -/
def Dr.step (σ : Dr) : Dr × Bool := if σ.fuse = 0 ∨ σ.off = true then ({ σ with off := true }, false) else ({ σ with fuse := if σ.fuse > 0 then σ.fuse - 1 else σ.fuse, steps := σ.steps + 1 }, true)
set_option maxHeartbeats 1000000 in
theorem step_c (b : Nat) (σ σ' : Dr) (ok : Bool) (x : DrW) (he : σ.step = (σ', ok)) (hs : σ.steps < 4611686018427387904) (hf : σ.fuse < 9223372036854775808) : Ctr Try.prog 55 [.pointer (some ⟨b, 0, none⟩)] [Dr.box b σ x] (fun v Bs => v = .int .i64 (if ok then 0 else 4) ∧ Bs = [Dr.box b σ' x]) := by
  refine s_enter 34 [(0, _)] (fun F => [_, F]) Try.func55 fun F => ?_
  refine go_ ?_
  refine s_ieq (fun h => ?_) (fun h => ?_)
  · have e : σ.step = ({ σ with off := true }, false) := by unfold Dr.step; rw [if_pos (.inl h)]
    refine go_ ?_
    rw [e] at he; cases he
    exact s_ret1 (rs := [.tmp 2]) Try.func55 rfl (by intro j; refine RVS.tmp _ rfl ?_; exact RVS.nil) (⟨rfl, rfl⟩) (by repeat (first | exact Ent.nil | refine Ent.per (by repeat (first | with_reducible exact Sel.here | with_reducible apply Sel.there)) ?_ | refine Ent.cons (by repeat (first | with_reducible exact Sel.here | with_reducible apply Sel.there)) ?_))
  · refine go_ ?_
    cases ho : σ.off with
    | true =>
      have e : σ.step = ({ σ with off := true }, false) := by unfold Dr.step; rw [if_pos (.inr ho)]
      have e2 : ({ σ with off := true } : Dr) = σ := by cases σ; dsimp only at ho; rw [ho]
      rw [e2] at e
      refine go_ ?_
      rw [e] at he; cases he
      exact s_ret1 (rs := [.tmp 2]) Try.func55 rfl (by intro j; refine RVS.tmp _ rfl ?_; exact RVS.nil) (⟨rfl, rfl⟩) (by repeat (first | exact Ent.nil | refine Ent.per (by repeat (first | with_reducible exact Sel.here | with_reducible apply Sel.there)) ?_ | refine Ent.cons (by repeat (first | with_reducible exact Sel.here | with_reducible apply Sel.there)) ?_))
    | false =>
      have e : σ.step = ({ σ with fuse := if σ.fuse > 0 then σ.fuse - 1 else σ.fuse, steps := σ.steps + 1 }, true) := by unfold Dr.step; rw [if_neg (by simp [h, ho])]
      refine go_ ?_
      refine s_if (fun h2 => ?_) (fun h2 => ?_)
      · rw [if_pos h2] at e
        rw [e] at he; cases he
        refine go_ ?_
        rw [show (σ.steps : Int) + 1 = ((σ.steps + 1 : Nat) : Int) by omega]
        exact s_ret1 (rs := [.tmp 2]) Try.func55 rfl (by intro j; refine RVS.tmp _ rfl ?_; exact RVS.nil) (⟨rfl, rfl⟩) (by repeat (first | exact Ent.nil | refine Ent.per (by repeat (first | with_reducible exact Sel.here | with_reducible apply Sel.there)) ?_ | refine Ent.cons (by repeat (first | with_reducible exact Sel.here | with_reducible apply Sel.there)) ?_))
      · rw [if_neg h2] at e
        rw [e] at he; cases he
        refine go_ ?_
        rw [show (σ.steps : Int) + 1 = ((σ.steps + 1 : Nat) : Int) by omega]
        exact s_ret1 (rs := [.tmp 2]) Try.func55 rfl (by intro j; refine RVS.tmp _ rfl ?_; exact RVS.nil) (⟨rfl, rfl⟩) (by repeat (first | exact Ent.nil | refine Ent.per (by repeat (first | with_reducible exact Sel.here | with_reducible apply Sel.there)) ?_ | refine Ent.cons (by repeat (first | with_reducible exact Sel.here | with_reducible apply Sel.there)) ?_))
end Go.Proofs.Ytldonbnjefhfdaa
/- num.Take, num.Put. -/
namespace Go.Proofs.Ytldonbnjefhfdaa
open Go.Cam
set_option maxRecDepth 100000
/-- a number's bytes, the greatest first -/
def numB (l : List Nat) : Nat := l.foldl (fun a c => a * 256 + c) 0
theorem numB_snoc (l : List Nat) (c : Nat) : numB (l ++ [c]) = numB l * 256 + c := by simp [numB]
theorem numB_lt (l : List Nat) (h : Bys l) : numB l < 256 ^ l.length := by
  have key : ∀ (l : List Nat) (a k : Nat), Bys l → a < 256 ^ k → l.foldl (fun a c => a * 256 + c) a < 256 ^ (k + l.length) := by
    intro l
    induction l with
    | nil => intro a k _ h; simpa using h
    | cons c l ih =>
      intro a k hb h
      have := ih (a * 256 + c) (k + 1) (fun x hx => hb x (List.mem_cons_of_mem _ hx)) (by have := hb c (List.mem_cons_self ..); rw [Nat.pow_succ]; omega)
      rw [List.foldl_cons, List.length_cons, show k + (l.length + 1) = k + 1 + l.length by omega]; exact this
  have := key l 0 0 h (by simp)
  simpa [numB] using this
set_option maxHeartbeats 1000000 in
theorem take_c {a : Option Addr} {c : Nat} (l : List Nat) (n : Nat) (h1 : 1 ≤ n) (h7 : n ≤ 7) (hs : n ≤ l.length) (hb : Bys l) (hl : l.length < 1000000) : Ctr Try.prog 58 [.slice a l.length c, .int .i64 (n : Int)] [BS (.slice a l.length c) l]
    (fun v Bs => ∃ a' cap, v = .tuple #[.int .i64 (numB (l.take n) : Nat), .slice a' (l.drop n).length cap, .int .i64 0] ∧ Bs = [SA (some 5) 1 (.slice a' (l.drop n).length cap) (l.drop n).length (byR (l.drop n))]) := by
  refine s_enter 41 [(0, _), (1, _)] (fun F => [_, F]) Try.func58 fun F => ?_
  refine go_ ?_
  rw [show decide ((n : Int) < 1) = false from decide_eq_false (by omega)]
  refine go_ ?_
  rw [show decide ((n : Int) > 7) = false from decide_eq_false (by omega)]
  refine go_ ?_
  rw [show decide ((l.length : Int) < (n : Int)) = false from decide_eq_false (by omega)]
  refine go_ ?_
  refine s_know (by repeat (first | with_reducible exact Sel.here | with_reducible apply Sel.there)) SA.cap (fun hc => ?_)
  refine s_look (lk_slc 0 n (cap := c) (by omega) (by omega)) ?_
  refine s_part 0 n (by omega) hs (by repeat (first | with_reducible exact Sel.here | with_reducible apply Sel.there)) ?_
  rw [sladdr0, Nat.sub_zero, Nat.sub_zero]
  refine go_ ?_
  refine s_loop (fun i : Nat => [(0, .slice a l.length c), (1, .int .i64 (n : Int)), (7, .int .i64 (numB (l.take i) : Nat)), (24, .slice a n c), (25, .int .i64 n), (26, .int .i64 i)]) (fun _ => [SA none 1 (.slice a n c) n (fun i => byR l (0 + i)), BS (.slice a l.length c) l, F]) (fun i => i ≤ n) (fun i => n - i) 0 (by omega) (by repeat (first | exact Ent.nil | refine Ent.per (by repeat (first | with_reducible exact Sel.here | with_reducible apply Sel.there)) ?_ | refine Ent.cons (by repeat (first | with_reducible exact Sel.here | with_reducible apply Sel.there)) ?_)) ?_
  rintro i hi next
  refine go_ ?_
  refine s_if (fun h2 => ?_) (fun h2 => ?_)
  · refine go_ ?_
    have hi2 : i < l.length := by omega
    have e1 : (l.getD (0 + i) 0) = l[i] := by simp [List.getD_eq_getElem?_getD, hi2]
    have hx : numB (l.take i) < 281474976710656 := by
      have h3 := numB_lt (l.take i) fun x hx => hb x (List.mem_of_mem_take hx)
      have h4 : (l.take i).length = i := by simp; omega
      rw [h4] at h3
      exact Nat.lt_of_lt_of_le h3 (Nat.le_trans (Nat.pow_le_pow_right (by omega) (show i ≤ 6 by omega)) (by decide))
    rw [e1, shl8_or _ _ hx (hb _ (List.getElem_mem hi2)), show numB (l.take i) * 256 + l[i] = numB (l.take (i + 1)) by rw [← numB_snoc, List.take_append_getElem]]
    exact s_entF (by repeat (first | exact Ent.nil | refine Ent.per (by repeat (first | with_reducible exact Sel.here | with_reducible apply Sel.there)) ?_ | refine Ent.cons (by repeat (first | with_reducible exact Sel.here | with_reducible apply Sel.there)) ?_)) (s_keep _ (next (i + 1) (by omega) (by omega)))
  · have : i = n := by omega
    subst this
    refine go_ ?_
    refine s_look (lk_slc i l.length (cap := c) (by omega) (by omega)) ?_
    refine s_part i l.length (by omega) (Nat.le_refl _) (a := a) (cap := c) (by repeat (first | with_reducible exact Sel.here | with_reducible apply Sel.there)) ?_
    rw [show l.length - i = (l.drop i).length by simp]
    refine s_open (SA.cg (byR (l.drop i)) fun q hq => by simp [byR, List.getD_eq_getElem?_getD]) ?_
    refine s_nilN (sz := 1) (m := ([] : List Nat).length) (row := byR []) rfl ?_
    refine s_call (sp := (by repeat (first | exact Split.nil | apply Split.perx (by repeat (first | with_reducible exact Sel.here | with_reducible apply Sel.there)) (by infer_instance) | apply Split.cons (by repeat (first | with_reducible exact Sel.here | with_reducible apply Sel.there))))) (hs := join_c (a1 := none) (c1 := 0) [] (l.drop i) (by simp; omega)) (h := ?_)
    rintro v Bs ⟨a2, cap2, rfl, rfl⟩
    rw [List.nil_append]
    refine go_ ?_
    exact s_rett (rs := [.tmp 4, .tmp 5, .tmp 6]) (vs := [_, _, _]) Try.func58 rfl (by intro j; refine RVS.tmp _ rfl ?_; refine RVS.tmp _ rfl ?_; refine RVS.tmp _ rfl ?_; exact RVS.nil) rfl (⟨_, _, rfl, rfl⟩) (by repeat (first | exact Ent.nil | refine Ent.per (by repeat (first | with_reducible exact Sel.here | with_reducible apply Sel.there)) ?_ | refine Ent.cons (by repeat (first | with_reducible exact Sel.here | with_reducible apply Sel.there)) ?_))
end Go.Proofs.Ytldonbnjefhfdaa
/- num.Put. -/
namespace Go.Proofs.Ytldonbnjefhfdaa
open Go.Cam
set_option maxRecDepth 100000
/-- the n bytes of a number, the greatest first -/
def putN (x n : Nat) : List Nat := (List.range n).map fun i => x / 256 ^ (n - 1 - i) % 256
def putC (x i j : Nat) : Value := .int .u8 ((if j < i then x / 256 ^ (7 - j) % 256 else 0 : Nat) : Int)
theorem putN_len (x n : Nat) : (putN x n).length = n := by simp [putN]
theorem putC_step (x i : Nat) : fset (putC x i) (i * 1) (.int .u8 ((x / 2 ^ (8 * (7 - i)) % 256 : Nat) : Int)) = putC x (i + 1) := by
  funext j
  unfold fset putC
  by_cases h : j = i
  · subst h; simp [Nat.pow_mul]
  · rw [if_neg (by omega)]
    by_cases h2 : j < i
    · rw [if_pos h2, if_pos (by omega)]
    · rw [if_neg h2, if_neg (by omega)]
theorem flat_byR (n : Nat) (l : List Nat) : flat n (byR l) = (List.range n).map fun i => .int .u8 ((l.getD i 0 : Nat) : Int) := by
  unfold flat byR
  induction List.range n with
  | nil => rfl
  | cons x xs ih => rw [List.flatMap_cons, ih]; rfl
theorem join_n {a1 a2 : Option Addr} {c1 c2 n1 n2 : Nat} (l1 l2 : List Nat) (h1 : l1.length = n1) (h2 : l2.length = n2) (hl : n1 + n2 < 1099511627776) : Ctr Try.prog 72 [.slice a1 n1 c1, .slice a2 n2 c2] [SA none 1 (.slice a1 n1 c1) n1 (byR l1), SA none 1 (.slice a2 n2 c2) n2 (byR l2)]
    (fun v Bs => ∃ a cap, v = .slice a (l1 ++ l2).length cap ∧ Bs = [SA (some 5) 1 (.slice a (l1 ++ l2).length cap) (l1 ++ l2).length (byR (l1 ++ l2))]) := by
  subst h1 h2; exact join_c l1 l2 hl
set_option maxHeartbeats 2000000 in
theorem put_c {a : Option Addr} {c : Nat} (l : List Nat) (x n : Nat) (h1 : 1 ≤ n) (h8 : n ≤ 8) (hx : x < 9223372036854775808) (hl : l.length < 1000000) : Ctr Try.prog 50 [.slice a l.length c, .int .i64 (x : Int), .int .i64 (n : Int)] [BS (.slice a l.length c) l]
    (fun v Bs => ∃ a' cap, v = .slice a' (l ++ putN x n).length cap ∧ Bs = [SA (some 5) 1 (.slice a' (l ++ putN x n).length cap) (l ++ putN x n).length (byR (l ++ putN x n))]) := by
  refine s_enter 35 [(0, _), (1, _), (2, _)] (fun F => [_, F]) Try.func50 fun F => ?_
  refine go_ ?_
  rw [show decide ((n : Int) < 1) = false from decide_eq_false (by omega)]
  refine go_ ?_
  rw [show decide ((n : Int) > 8) = false from decide_eq_false (by omega)]
  refine go_ ?_
  refine s_alloc fun r7 => ?_
  refine s_open (B := .own r7 (.cells (tab 8 (putC x 0)) 142 (0, 0))) (fun _ _ h => h) ?_
  refine go_ ?_
  refine s_loop (fun i : Nat => [(0, .slice a l.length c), (1, .int .i64 (x : Int)), (2, .int .i64 (n : Int)), (7, .pointer (some ⟨r7, 0, none⟩)), (17, .int .i64 i)]) (fun i => [.own r7 (.cells (tab 8 (putC x i)) 142 (0, 0)), BS (.slice a l.length c) l, F]) (fun i => i ≤ 8) (fun i => 8 - i) 0 (by omega) (by repeat (first | exact Ent.nil | refine Ent.per (by repeat (first | with_reducible exact Sel.here | with_reducible apply Sel.there)) ?_ | refine Ent.cons (by repeat (first | with_reducible exact Sel.here | with_reducible apply Sel.there)) ?_)) ?_
  rintro i hi next
  refine go_ ?_
  refine s_if (fun h2 => ?_) (fun h2 => ?_)
  · refine go_ ?_
    have hi8 : i < 8 := by omega
    rw [show IntKind.i64.wrap (8 * (7 - (i : Int))) = ((8 * (7 - i) : Nat) : Int) by rw [wrap_id (by omega) (by omega)]; omega, wrap_u64 x (by omega)]
    refine s_look (lk_shr (a := x) (m := 8 * (7 - i)) (hm := by show _ ≤ 64; omega)) ?_
    refine go_ ?_
    rw [wrap_u8]
    refine s_stt ?_
    rw [putC_step]
    refine go_ ?_
    exact s_entF (by repeat (first | exact Ent.nil | refine Ent.per (by repeat (first | with_reducible exact Sel.here | with_reducible apply Sel.there)) ?_ | refine Ent.cons (by repeat (first | with_reducible exact Sel.here | with_reducible apply Sel.there)) ?_)) (s_keep _ (next (i + 1) (by omega) (by omega)))
  · have : i = 8 := by omega
    subst this
    refine go_ ?_
    rw [show (8 : Int) - (n : Int) = ((8 - n : Nat) : Int) by omega]
    refine s_look (lk_slca (8 - n) 8 (m := 8) (b := r7) (off := 0) (by omega) (by omega) (by omega)) ?_
    rw [show 8 - (8 - n) = n by omega]
    refine s_fzo (off := 0 + (8 - n) * 1) (m := n) (c := n) (sz := 1) (row := byR (putN x n)) (by repeat (first | with_reducible exact Sel.here | with_reducible apply Sel.there)) (fun _ _ => rfl) (Nat.le_refl _) (by rw [tab_size]; omega) ?_ ?_
    · rw [extract_tab (by omega), flat_byR]
      symm
      refine arr_eq_tab (by simp) fun i hi => ?_
      have hi' : i < n := by omega
      have e : 7 - (8 - n + i) = n - 1 - i := by omega
      simp [hi', putC, putN, e, show 8 - n + i < 8 by omega]
    refine s_call (sp := (by repeat (first | exact Split.nil | apply Split.perx (by repeat (first | with_reducible exact Sel.here | with_reducible apply Sel.there)) (by infer_instance) | apply Split.cons (by repeat (first | with_reducible exact Sel.here | with_reducible apply Sel.there))))) (hs := join_n l (putN x n) rfl (putN_len x n) (by omega)) (h := ?_)
    rintro v Bs ⟨a2, cap2, rfl, rfl⟩
    refine go_ ?_
    exact s_ret1 (rs := [.tmp 6]) Try.func50 rfl (by intro j; refine RVS.tmp _ rfl ?_; exact RVS.nil) (⟨_, _, rfl, rfl⟩) (by repeat (first | exact Ent.nil | refine Ent.per (by repeat (first | with_reducible exact Sel.here | with_reducible apply Sel.there)) ?_ | refine Ent.cons (by repeat (first | with_reducible exact Sel.here | with_reducible apply Sel.there)) ?_))
end Go.Proofs.Ytldonbnjefhfdaa
/- Keys that may be. -/
namespace Go.Proofs.Ytldonbnjefhfdaa
open Go.Cam
set_option maxRecDepth 100000
def Key.ok (k : Key) : Bool := decide (0 ≤ k.obj ∧ 0 ≤ k.kind ∧ 0 ≤ k.off ∧ k.obj ≤ 2147483647 ∧ k.kind ≤ 255 ∧ k.off ≤ 2147483647)
theorem end_ok : Ctr Try.prog 98 [] [] (fun r Bs => r = .agg #[.int .i64 2147483647, .int .i64 255, .int .i64 2147483647] ∧ Bs = []) := by
  refine s_enter 2 [] (fun F => [F]) Try.func98 fun F => ?_
  refine go_ ?_
  refine s_alloc fun r0 => ?_
  refine go_ ?_
  exact s_ret1 (rs := [.cell 0 112]) Try.func98 rfl (by intro j; refine RVS.cell _ _ rfl (by repeat (first | with_reducible exact Sel.here | with_reducible apply Sel.there)) (by rfl) ?_; exact RVS.nil) (⟨rfl, rfl⟩) (by repeat (first | exact Ent.nil | refine Ent.per (by repeat (first | with_reducible exact Sel.here | with_reducible apply Sel.there)) ?_ | refine Ent.cons (by repeat (first | with_reducible exact Sel.here | with_reducible apply Sel.there)) ?_))
set_option maxHeartbeats 1000000 in
theorem may_ok (k : Key) : Ctr Try.prog 88 [k.v] [] (fun r Bs => r = .bool k.ok ∧ Bs = []) := by
  refine s_enter 39 [(0, _)] (fun F => [F]) Try.func88 fun F => ?_
  refine go_ ?_
  refine s_box fun r1 => ?_
  refine go_ ?_
  refine s_call (sp := (by repeat (first | exact Split.nil | apply Split.perx (by repeat (first | with_reducible exact Sel.here | with_reducible apply Sel.there)) (by infer_instance) | apply Split.cons (by repeat (first | with_reducible exact Sel.here | with_reducible apply Sel.there))))) (hs := end_ok) (h := ?_)
  rintro v Bs ⟨rfl, rfl⟩
  refine go_ ?_
  refine s_alloc fun r3 => ?_
  refine go_ ?_
  cases h0 : decide (k.obj ≥ 0)
  · refine go_ ?_
    exact s_ret1 (rs := [.tmp 2]) Try.func88 rfl (by intro j; refine RVS.tmp _ rfl ?_; exact RVS.nil) (⟨by simp at h0; simp [Key.ok]; omega, rfl⟩) (by repeat (first | exact Ent.nil | refine Ent.per (by repeat (first | with_reducible exact Sel.here | with_reducible apply Sel.there)) ?_ | refine Ent.cons (by repeat (first | with_reducible exact Sel.here | with_reducible apply Sel.there)) ?_))
  refine go_ ?_
  cases h1 : decide (k.kind ≥ 0)
  · refine go_ ?_
    exact s_ret1 (rs := [.tmp 2]) Try.func88 rfl (by intro j; refine RVS.tmp _ rfl ?_; exact RVS.nil) (⟨by simp at h1; simp [Key.ok]; omega, rfl⟩) (by repeat (first | exact Ent.nil | refine Ent.per (by repeat (first | with_reducible exact Sel.here | with_reducible apply Sel.there)) ?_ | refine Ent.cons (by repeat (first | with_reducible exact Sel.here | with_reducible apply Sel.there)) ?_))
  refine go_ ?_
  cases h2 : decide (k.off ≥ 0)
  · refine go_ ?_
    exact s_ret1 (rs := [.tmp 2]) Try.func88 rfl (by intro j; refine RVS.tmp _ rfl ?_; exact RVS.nil) (⟨by simp at h2; simp [Key.ok]; omega, rfl⟩) (by repeat (first | exact Ent.nil | refine Ent.per (by repeat (first | with_reducible exact Sel.here | with_reducible apply Sel.there)) ?_ | refine Ent.cons (by repeat (first | with_reducible exact Sel.here | with_reducible apply Sel.there)) ?_))
  refine go_ ?_
  cases h3 : decide (k.obj ≤ 2147483647)
  · refine go_ ?_
    exact s_ret1 (rs := [.tmp 2]) Try.func88 rfl (by intro j; refine RVS.tmp _ rfl ?_; exact RVS.nil) (⟨by simp at h3; simp [Key.ok]; omega, rfl⟩) (by repeat (first | exact Ent.nil | refine Ent.per (by repeat (first | with_reducible exact Sel.here | with_reducible apply Sel.there)) ?_ | refine Ent.cons (by repeat (first | with_reducible exact Sel.here | with_reducible apply Sel.there)) ?_))
  refine go_ ?_
  cases h4 : decide (k.kind ≤ 255)
  · refine go_ ?_
    exact s_ret1 (rs := [.tmp 2]) Try.func88 rfl (by intro j; refine RVS.tmp _ rfl ?_; exact RVS.nil) (⟨by simp at h4; simp [Key.ok]; omega, rfl⟩) (by repeat (first | exact Ent.nil | refine Ent.per (by repeat (first | with_reducible exact Sel.here | with_reducible apply Sel.there)) ?_ | refine Ent.cons (by repeat (first | with_reducible exact Sel.here | with_reducible apply Sel.there)) ?_))
  refine go_ ?_
  exact s_ret1 (rs := [.tmp 2]) Try.func88 rfl (by intro j; refine RVS.tmp _ rfl ?_; exact RVS.nil) (⟨by simp at *; simp [Key.ok, *], rfl⟩) (by repeat (first | exact Ent.nil | refine Ent.per (by repeat (first | with_reducible exact Sel.here | with_reducible apply Sel.there)) ?_ | refine Ent.cons (by repeat (first | with_reducible exact Sel.here | with_reducible apply Sel.there)) ?_))
end Go.Proofs.Ytldonbnjefhfdaa
/- key.Take. -/
namespace Go.Proofs.Ytldonbnjefhfdaa
open Go.Cam
set_option maxRecDepth 100000
end Go.Proofs.Ytldonbnjefhfdaa
