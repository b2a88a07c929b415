/- drive: what a disk is; New, is, step, Size. -/
import Derived.Test.YtgbbcpfnmkeijaaCamAJ
import Derived.Test.YtgbbcpfnmkeijaaCamAD
namespace Go.Proofs.Ytgbbcpfnmkeijaa
open Go.Cam
set_option maxRecDepth 100000
/-- a disk -/
structure Dr where
  n : Nat
  sure : Nat → List Nat
  cached : Int → List (List Nat)
  off : Bool
  fuse : Int
  steps : Nat
structure DrW where
  a : Option Addr
  c : Nat
  m : Nat
  vs : Int → Value
  ks : List Int
def Sec (l : List Nat) : Prop := l.length = 256 ∧ Bys l
structure DrOk (σ : Dr) (x : DrW) : Prop where
  n1 : 0 < σ.n
  n2 : σ.n ≤ 2048
  nd : x.ks.Nodup
  ne : ∀ k ∈ x.ks, σ.cached k ≠ []
  em : ∀ k, k ∉ x.ks → σ.cached k = []
  rg : ∀ k ∈ x.ks, 0 ≤ k ∧ k < σ.n
  ss : ∀ i, i < σ.n → Sec (σ.sure i)
  cs : ∀ k, ∀ s ∈ σ.cached k, Sec s
  cl : ∀ k, (σ.cached k).length ≤ σ.steps
  f1 : -1 ≤ σ.fuse
  f2 : σ.fuse < 9223372036854775808
def secR (l : List (List Nat)) (i : Nat) : List Value := bcl (l.getD i [])
def Dr.F (σ : Dr) (x : DrW) (k : Int) : HP := SO 123 256 (x.vs k) (σ.cached k).length (secR (σ.cached k))
def Dr.mg (x : DrW) (k : Int) : Option Value := if k ∈ x.ks then some (x.vs k) else none
def Dr.parts (b : Nat) (σ : Dr) (x : DrW) : List HP :=
  [Box b 120 [.slice x.a σ.n x.c, .map (some x.m), .bool σ.off, .int .i64 σ.fuse, .int .i64 (σ.steps : Int)],
   SA (some 123) 256 (.slice x.a σ.n x.c) σ.n (fun i => bcl (σ.sure i)), MG x.m (Dr.mg x), All x.ks (σ.F x)]
abbrev DrA (b : Nat) (σ : Dr) : HP := EX (DrOk σ) (Dr.parts b σ)
abbrev Dr.new (n : Nat) : Dr := ⟨n, fun _ => List.replicate 256 0, fun _ => [], false, -1, 0⟩
theorem sec0 : Sec (List.replicate 256 0) := ⟨by simp, Bys.zeros _⟩
/-! parts of a disk -/
abbrev Dr.box (b : Nat) (σ : Dr) (x : DrW) : HP := Box b 120 [.slice x.a σ.n x.c, .map (some x.m), .bool σ.off, .int .i64 σ.fuse, .int .i64 (σ.steps : Int)]
set_option maxHeartbeats 1000000 in
theorem dnew_c (n : Nat) (h1 : 32 ≤ n) (h2 : n ≤ 2048) : Ctr Try.prog 27 [.int .i64 (n : Int)] [] (fun v Bs => ∃ b, v = .tuple #[.pointer (some ⟨b, 0, none⟩), .int .i64 0] ∧ Bs = [DrA b (Dr.new n)]) := by
  refine s_enter 15 [(0, _)] (fun F => [F]) Try.func27 fun F => ?_
  refine go_ ?_
  rw [show decide ((n : Int) < 32) = false from decide_eq_false (by omega)]
  refine go_ ?_
  rw [show decide ((n : Int) > 2048) = false from decide_eq_false (by omega)]
  refine go_ ?_
  refine s_step (st_mk (len := n) (o1 := ⟨by rfl⟩)) ?_
  rintro _ _ ⟨a, rfl, rfl⟩
  refine s_open (SA.cg (fun i => bcl ((Dr.new n).sure i)) fun i hi => by simp [Dr.new, bcl]; rfl) ?_
  refine s_step st_mkm ?_
  rintro _ _ ⟨m, rfl, rfl⟩
  refine s_open (B := MG m (Dr.mg ⟨a, n, m, fun _ => .nilFunc, []⟩)) (fun _ _ q => by have e : Dr.mg ⟨a, n, m, fun _ => .nilFunc, []⟩ = fun _ => none := (by funext k; simp [Dr.mg]); rw [e]; exact q) ?_
  refine go_ ?_
  refine s_box fun b => ?_
  refine s_open (B := Dr.box b (Dr.new n) ⟨a, n, m, fun _ => .nilFunc, []⟩) (fun _ _ q => q) ?_
  refine go_ ?_
  refine s_all0 (F := (Dr.new n).F ⟨a, n, m, fun _ => .nilFunc, []⟩) ?_
  refine s_cls (φ := DrOk (Dr.new n)) (X := Dr.parts b (Dr.new n)) ⟨a, n, m, fun _ => .nilFunc, []⟩ ⟨by show 0 < n; omega, h2, List.nodup_nil, fun k hk => (nomatch hk), fun _ _ => rfl, fun k hk => (nomatch hk), fun _ _ => sec0, fun _ _ h => (nomatch h), fun _ => Nat.le_refl _, by show -1 ≤ (-1 : Int); omega, by show (-1 : Int) < _; omega⟩ (by repeat (first | exact Split.nil | apply Split.perx (by repeat (first | with_reducible exact Sel.here | with_reducible apply Sel.there)) (by infer_instance) | apply Split.cons (by repeat (first | with_reducible exact Sel.here | with_reducible apply Sel.there)))) ?_
  exact s_rett (rs := [.tmp 2, .tmp 3]) (vs := [_, _]) Try.func27 rfl (by intro j; refine RVS.tmp _ rfl ?_; refine RVS.tmp _ rfl ?_; exact RVS.nil) rfl (⟨b, rfl, rfl⟩) (by repeat (first | exact Ent.nil | refine Ent.per (by repeat (first | with_reducible exact Sel.here | with_reducible apply Sel.there)) ?_ | refine Ent.cons (by repeat (first | with_reducible exact Sel.here | with_reducible apply Sel.there)) ?_))
theorem is_c (b : Nat) (σ : Dr) (x : DrW) (k : Int) : Ctr Try.prog 55 [.pointer (some ⟨b, 0, none⟩), .int .i64 k] [Dr.box b σ x] (fun v Bs => v = .bool (decide (0 ≤ k ∧ k < σ.n)) ∧ Bs = [Dr.box b σ x]) := by
  refine s_enter 16 [(0, _), (1, _)] (fun F => [_, F]) Try.func55 fun F => ?_
  refine go_ ?_
  cases h : decide (k ≥ 0) with
  | false =>
    have := of_decide_eq_false h
    refine go_ ?_
    exact s_ret1 (rs := [.tmp 4]) Try.func55 rfl (by intro j; refine RVS.tmp _ rfl ?_; exact RVS.nil) (⟨by rw [decide_eq_false]; omega, rfl⟩) (by repeat (first | exact Ent.nil | refine Ent.per (by repeat (first | with_reducible exact Sel.here | with_reducible apply Sel.there)) ?_ | refine Ent.cons (by repeat (first | with_reducible exact Sel.here | with_reducible apply Sel.there)) ?_))
  | true =>
    have := of_decide_eq_true h
    refine go_ ?_
    exact s_ret1 (rs := [.tmp 4]) Try.func55 rfl (by intro j; refine RVS.tmp _ rfl ?_; exact RVS.nil) (⟨by congr 1; exact decide_eq_decide.2 (by omega), rfl⟩) (by repeat (first | exact Ent.nil | refine Ent.per (by repeat (first | with_reducible exact Sel.here | with_reducible apply Sel.there)) ?_ | refine Ent.cons (by repeat (first | with_reducible exact Sel.here | with_reducible apply Sel.there)) ?_))
theorem size_c (b : Nat) (σ : Dr) (x : DrW) : Ctr Try.prog 59 [.pointer (some ⟨b, 0, none⟩)] [Dr.box b σ x] (fun v Bs => v = .int .i64 (σ.n : Nat) ∧ Bs = [Dr.box b σ x]) := by
  refine s_enter 8 [(0, _)] (fun F => [_, F]) Try.func59 fun F => ?_
  refine go_ ?_
  exact s_ret1 (rs := [.tmp 2]) Try.func59 rfl (by intro j; refine RVS.tmp _ rfl ?_; exact RVS.nil) (⟨rfl, rfl⟩) (by repeat (first | exact Ent.nil | refine Ent.per (by repeat (first | with_reducible exact Sel.here | with_reducible apply Sel.there)) ?_ | refine Ent.cons (by repeat (first | with_reducible exact Sel.here | with_reducible apply Sel.there)) ?_))
/-- a step of the disk; false: the power is off -/
def Dr.step (σ : Dr) : Dr × Bool := if σ.fuse = 0 ∨ σ.off = true then ({ σ with off := true }, false) else ({ σ with fuse := if σ.fuse > 0 then σ.fuse - 1 else σ.fuse, steps := σ.steps + 1 }, true)
set_option maxHeartbeats 1000000 in
theorem step_c (b : Nat) (σ σ' : Dr) (ok : Bool) (x : DrW) (he : σ.step = (σ', ok)) (hs : σ.steps < 4611686018427387904) (hf : σ.fuse < 9223372036854775808) : Ctr Try.prog 56 [.pointer (some ⟨b, 0, none⟩)] [Dr.box b σ x] (fun v Bs => v = .int .i64 (if ok then 0 else 4) ∧ Bs = [Dr.box b σ' x]) := by
  refine s_enter 34 [(0, _)] (fun F => [_, F]) Try.func56 fun F => ?_
  refine go_ ?_
  refine s_ieq (fun h => ?_) (fun h => ?_)
  · have e : σ.step = ({ σ with off := true }, false) := by unfold Dr.step; rw [if_pos (.inl h)]
    refine go_ ?_
    rw [e] at he; cases he
    exact s_ret1 (rs := [.tmp 2]) Try.func56 rfl (by intro j; refine RVS.tmp _ rfl ?_; exact RVS.nil) (⟨rfl, rfl⟩) (by repeat (first | exact Ent.nil | refine Ent.per (by repeat (first | with_reducible exact Sel.here | with_reducible apply Sel.there)) ?_ | refine Ent.cons (by repeat (first | with_reducible exact Sel.here | with_reducible apply Sel.there)) ?_))
  · refine go_ ?_
    cases ho : σ.off with
    | true =>
      have e : σ.step = ({ σ with off := true }, false) := by unfold Dr.step; rw [if_pos (.inr ho)]
      have e2 : ({ σ with off := true } : Dr) = σ := by cases σ; dsimp only at ho; rw [ho]
      rw [e2] at e
      refine go_ ?_
      rw [e] at he; cases he
      exact s_ret1 (rs := [.tmp 2]) Try.func56 rfl (by intro j; refine RVS.tmp _ rfl ?_; exact RVS.nil) (⟨rfl, rfl⟩) (by repeat (first | exact Ent.nil | refine Ent.per (by repeat (first | with_reducible exact Sel.here | with_reducible apply Sel.there)) ?_ | refine Ent.cons (by repeat (first | with_reducible exact Sel.here | with_reducible apply Sel.there)) ?_))
    | false =>
      have e : σ.step = ({ σ with fuse := if σ.fuse > 0 then σ.fuse - 1 else σ.fuse, steps := σ.steps + 1 }, true) := by unfold Dr.step; rw [if_neg (by simp [h, ho])]
      refine go_ ?_
      refine s_if (fun h2 => ?_) (fun h2 => ?_)
      · rw [if_pos h2] at e
        rw [e] at he; cases he
        refine go_ ?_
        rw [show (σ.steps : Int) + 1 = ((σ.steps + 1 : Nat) : Int) by omega]
        exact s_ret1 (rs := [.tmp 2]) Try.func56 rfl (by intro j; refine RVS.tmp _ rfl ?_; exact RVS.nil) (⟨rfl, rfl⟩) (by repeat (first | exact Ent.nil | refine Ent.per (by repeat (first | with_reducible exact Sel.here | with_reducible apply Sel.there)) ?_ | refine Ent.cons (by repeat (first | with_reducible exact Sel.here | with_reducible apply Sel.there)) ?_))
      · rw [if_neg h2] at e
        rw [e] at he; cases he
        refine go_ ?_
        rw [show (σ.steps : Int) + 1 = ((σ.steps + 1 : Nat) : Int) by omega]
        exact s_ret1 (rs := [.tmp 2]) Try.func56 rfl (by intro j; refine RVS.tmp _ rfl ?_; exact RVS.nil) (⟨rfl, rfl⟩) (by repeat (first | exact Ent.nil | refine Ent.per (by repeat (first | with_reducible exact Sel.here | with_reducible apply Sel.there)) ?_ | refine Ent.cons (by repeat (first | with_reducible exact Sel.here | with_reducible apply Sel.there)) ?_))
end Go.Proofs.Ytgbbcpfnmkeijaa
/- num.Take, num.Put. -/
namespace Go.Proofs.Ytgbbcpfnmkeijaa
open Go.Cam
set_option maxRecDepth 100000
/-- a number's bytes, the greatest first -/
def numB (l : List Nat) : Nat := l.foldl (fun a c => a * 256 + c) 0
theorem numB_snoc (l : List Nat) (c : Nat) : numB (l ++ [c]) = numB l * 256 + c := by simp [numB]
theorem numB_lt (l : List Nat) (h : Bys l) : numB l < 256 ^ l.length := by
  have key : ∀ (l : List Nat) (a k : Nat), Bys l → a < 256 ^ k → l.foldl (fun a c => a * 256 + c) a < 256 ^ (k + l.length) := by
    intro l
    induction l with
    | nil => intro a k _ h; simpa using h
    | cons c l ih =>
      intro a k hb h
      have := ih (a * 256 + c) (k + 1) (fun x hx => hb x (List.mem_cons_of_mem _ hx)) (by have := hb c (List.mem_cons_self ..); rw [Nat.pow_succ]; omega)
      rw [List.foldl_cons, List.length_cons, show k + (l.length + 1) = k + 1 + l.length by omega]; exact this
  have := key l 0 0 h (by simp)
  simpa [numB] using this
set_option maxHeartbeats 1000000 in
theorem take_short {a : Option Addr} {c : Nat} (l : List Nat) (n : Nat) (h1 : 1 ≤ n) (h7 : n ≤ 7) (hs : l.length < n) : Ctr Try.prog 88 [.slice a l.length c, .int .i64 (n : Int)] [] (fun v Bs => v = .tuple #[.int .i64 0, .slice none 0 0, .int .i64 2] ∧ Bs = []) := by
  refine s_enter 41 [(0, _), (1, _)] (fun F => [F]) Try.func88 fun F => ?_
  refine go_ ?_
  rw [show decide ((n : Int) < 1) = false from decide_eq_false (by omega)]
  refine go_ ?_
  rw [show decide ((n : Int) > 7) = false from decide_eq_false (by omega)]
  refine go_ ?_
  rw [show decide ((l.length : Int) < (n : Int)) = true from decide_eq_true (by omega)]
  refine go_ ?_
  exact s_rett (rs := [.tmp 4, .tmp 5, .tmp 6]) (vs := [_, _, _]) Try.func88 rfl (by intro j; refine RVS.tmp _ rfl ?_; refine RVS.tmp _ rfl ?_; refine RVS.tmp _ rfl ?_; exact RVS.nil) rfl (⟨rfl, rfl⟩) (by repeat (first | exact Ent.nil | refine Ent.per (by repeat (first | with_reducible exact Sel.here | with_reducible apply Sel.there)) ?_ | refine Ent.cons (by repeat (first | with_reducible exact Sel.here | with_reducible apply Sel.there)) ?_))
set_option maxHeartbeats 1000000 in
theorem take_c {a : Option Addr} {c : Nat} (l : List Nat) (n : Nat) (h1 : 1 ≤ n) (h7 : n ≤ 7) (hs : n ≤ l.length) (hb : Bys l) (hl : l.length < 1000000) : Ctr Try.prog 88 [.slice a l.length c, .int .i64 (n : Int)] [BS (.slice a l.length c) l]
    (fun v Bs => ∃ a' cap, v = .tuple #[.int .i64 (numB (l.take n) : Nat), .slice a' (l.drop n).length cap, .int .i64 0] ∧ Bs = [SA (some 5) 1 (.slice a' (l.drop n).length cap) (l.drop n).length (byR (l.drop n))]) := by
  refine s_enter 41 [(0, _), (1, _)] (fun F => [_, F]) Try.func88 fun F => ?_
  refine go_ ?_
  rw [show decide ((n : Int) < 1) = false from decide_eq_false (by omega)]
  refine go_ ?_
  rw [show decide ((n : Int) > 7) = false from decide_eq_false (by omega)]
  refine go_ ?_
  rw [show decide ((l.length : Int) < (n : Int)) = false from decide_eq_false (by omega)]
  refine go_ ?_
  refine s_know (by repeat (first | with_reducible exact Sel.here | with_reducible apply Sel.there)) SA.cap (fun hc => ?_)
  refine s_look (lk_slc 0 n (cap := c) (by omega) (by omega)) ?_
  refine s_part 0 n (by omega) hs (by repeat (first | with_reducible exact Sel.here | with_reducible apply Sel.there)) ?_
  rw [sladdr0, Nat.sub_zero, Nat.sub_zero]
  refine go_ ?_
  refine s_loop (fun i : Nat => [(0, .slice a l.length c), (1, .int .i64 (n : Int)), (7, .int .i64 (numB (l.take i) : Nat)), (24, .slice a n c), (25, .int .i64 n), (26, .int .i64 i)]) (fun _ => [SA none 1 (.slice a n c) n (fun i => byR l (0 + i)), BS (.slice a l.length c) l, F]) (fun i => i ≤ n) (fun i => n - i) 0 (by omega) (by repeat (first | exact Ent.nil | refine Ent.per (by repeat (first | with_reducible exact Sel.here | with_reducible apply Sel.there)) ?_ | refine Ent.cons (by repeat (first | with_reducible exact Sel.here | with_reducible apply Sel.there)) ?_)) ?_
  rintro i hi next
  refine go_ ?_
  refine s_if (fun h2 => ?_) (fun h2 => ?_)
  · refine go_ ?_
    have hi2 : i < l.length := by omega
    have e1 : (l.getD (0 + i) 0) = l[i] := by simp [List.getD_eq_getElem?_getD, hi2]
    have hx : numB (l.take i) < 281474976710656 := by
      have h3 := numB_lt (l.take i) fun x hx => hb x (List.mem_of_mem_take hx)
      have h4 : (l.take i).length = i := by simp; omega
      rw [h4] at h3
      exact Nat.lt_of_lt_of_le h3 (Nat.le_trans (Nat.pow_le_pow_right (by omega) (show i ≤ 6 by omega)) (by decide))
    rw [e1, shl8_or _ _ hx (hb _ (List.getElem_mem hi2)), show numB (l.take i) * 256 + l[i] = numB (l.take (i + 1)) by rw [← numB_snoc, List.take_append_getElem]]
    exact s_entF (by repeat (first | exact Ent.nil | refine Ent.per (by repeat (first | with_reducible exact Sel.here | with_reducible apply Sel.there)) ?_ | refine Ent.cons (by repeat (first | with_reducible exact Sel.here | with_reducible apply Sel.there)) ?_)) (s_keep _ (next (i + 1) (by omega) (by omega)))
  · have : i = n := by omega
    subst this
    refine go_ ?_
    refine s_look (lk_slc i l.length (cap := c) (by omega) (by omega)) ?_
    refine s_part i l.length (by omega) (Nat.le_refl _) (a := a) (cap := c) (by repeat (first | with_reducible exact Sel.here | with_reducible apply Sel.there)) ?_
    rw [show l.length - i = (l.drop i).length by simp]
    refine s_open (SA.cg (byR (l.drop i)) fun q hq => by simp [byR, List.getD_eq_getElem?_getD]) ?_
    refine s_nilN (sz := 1) (m := ([] : List Nat).length) (row := byR []) rfl ?_
    refine s_call (sp := (by repeat (first | exact Split.nil | apply Split.perx (by repeat (first | with_reducible exact Sel.here | with_reducible apply Sel.there)) (by infer_instance) | apply Split.cons (by repeat (first | with_reducible exact Sel.here | with_reducible apply Sel.there))))) (hs := join_c (a1 := none) (c1 := 0) [] (l.drop i) (by simp; omega)) (h := ?_)
    rintro v Bs ⟨a2, cap2, rfl, rfl⟩
    rw [List.nil_append]
    refine go_ ?_
    exact s_rett (rs := [.tmp 4, .tmp 5, .tmp 6]) (vs := [_, _, _]) Try.func88 rfl (by intro j; refine RVS.tmp _ rfl ?_; refine RVS.tmp _ rfl ?_; refine RVS.tmp _ rfl ?_; exact RVS.nil) rfl (⟨_, _, rfl, rfl⟩) (by repeat (first | exact Ent.nil | refine Ent.per (by repeat (first | with_reducible exact Sel.here | with_reducible apply Sel.there)) ?_ | refine Ent.cons (by repeat (first | with_reducible exact Sel.here | with_reducible apply Sel.there)) ?_))
end Go.Proofs.Ytgbbcpfnmkeijaa
/- num.Put. -/
namespace Go.Proofs.Ytgbbcpfnmkeijaa
open Go.Cam
set_option maxRecDepth 100000
/-- the n bytes of a number, the greatest first -/
def putN (x n : Nat) : List Nat := (List.range n).map fun i => x / 256 ^ (n - 1 - i) % 256
def putC (x i j : Nat) : Value := .int .u8 ((if j < i then x / 256 ^ (7 - j) % 256 else 0 : Nat) : Int)
theorem putN_len (x n : Nat) : (putN x n).length = n := by simp [putN]
theorem putC_step (x i : Nat) : fset (putC x i) (i * 1) (.int .u8 ((x / 2 ^ (8 * (7 - i)) % 256 : Nat) : Int)) = putC x (i + 1) := by
  funext j
  unfold fset putC
  by_cases h : j = i
  · subst h; simp [Nat.pow_mul]
  · rw [if_neg (by omega)]
    by_cases h2 : j < i
    · rw [if_pos h2, if_pos (by omega)]
    · rw [if_neg h2, if_neg (by omega)]
theorem flat_byR (n : Nat) (l : List Nat) : flat n (byR l) = (List.range n).map fun i => .int .u8 ((l.getD i 0 : Nat) : Int) := by
  unfold flat byR
  induction List.range n with
  | nil => rfl
  | cons x xs ih => rw [List.flatMap_cons, ih]; rfl
theorem join_n {a1 a2 : Option Addr} {c1 c2 n1 n2 : Nat} (l1 l2 : List Nat) (h1 : l1.length = n1) (h2 : l2.length = n2) (hl : n1 + n2 < 1099511627776) : Ctr Try.prog 114 [.slice a1 n1 c1, .slice a2 n2 c2] [SA none 1 (.slice a1 n1 c1) n1 (byR l1), SA none 1 (.slice a2 n2 c2) n2 (byR l2)]
    (fun v Bs => ∃ a cap, v = .slice a (l1 ++ l2).length cap ∧ Bs = [SA (some 5) 1 (.slice a (l1 ++ l2).length cap) (l1 ++ l2).length (byR (l1 ++ l2))]) := by
  subst h1 h2; exact join_c l1 l2 hl
set_option maxHeartbeats 2000000 in
theorem put_c {a : Option Addr} {c : Nat} (l : List Nat) (x n : Nat) (h1 : 1 ≤ n) (h8 : n ≤ 8) (hx : x < 9223372036854775808) (hl : l.length < 1000000) : Ctr Try.prog 102 [.slice a l.length c, .int .i64 (x : Int), .int .i64 (n : Int)] [BS (.slice a l.length c) l]
    (fun v Bs => ∃ a' cap, v = .slice a' (l ++ putN x n).length cap ∧ Bs = [SA (some 5) 1 (.slice a' (l ++ putN x n).length cap) (l ++ putN x n).length (byR (l ++ putN x n))]) := by
  refine s_enter 35 [(0, _), (1, _), (2, _)] (fun F => [_, F]) Try.func102 fun F => ?_
  refine go_ ?_
  rw [show decide ((n : Int) < 1) = false from decide_eq_false (by omega)]
  refine go_ ?_
  rw [show decide ((n : Int) > 8) = false from decide_eq_false (by omega)]
  refine go_ ?_
  refine s_alloc fun r7 => ?_
  refine s_open (B := .own r7 (.cells (tab 8 (putC x 0)) 196 (0, 0))) (fun _ _ h => h) ?_
  refine go_ ?_
  refine s_loop (fun i : Nat => [(0, .slice a l.length c), (1, .int .i64 (x : Int)), (2, .int .i64 (n : Int)), (7, .pointer (some ⟨r7, 0, none⟩)), (17, .int .i64 i)]) (fun i => [.own r7 (.cells (tab 8 (putC x i)) 196 (0, 0)), BS (.slice a l.length c) l, F]) (fun i => i ≤ 8) (fun i => 8 - i) 0 (by omega) (by repeat (first | exact Ent.nil | refine Ent.per (by repeat (first | with_reducible exact Sel.here | with_reducible apply Sel.there)) ?_ | refine Ent.cons (by repeat (first | with_reducible exact Sel.here | with_reducible apply Sel.there)) ?_)) ?_
  rintro i hi next
  refine go_ ?_
  refine s_if (fun h2 => ?_) (fun h2 => ?_)
  · refine go_ ?_
    have hi8 : i < 8 := by omega
    rw [show IntKind.i64.wrap (8 * (7 - (i : Int))) = ((8 * (7 - i) : Nat) : Int) by rw [wrap_id (by omega) (by omega)]; omega, wrap_u64 x (by omega)]
    refine s_look (lk_shr (a := x) (m := 8 * (7 - i)) (hm := by show _ ≤ 64; omega)) ?_
    refine go_ ?_
    rw [wrap_u8]
    refine s_stt ?_
    rw [putC_step]
    refine go_ ?_
    exact s_entF (by repeat (first | exact Ent.nil | refine Ent.per (by repeat (first | with_reducible exact Sel.here | with_reducible apply Sel.there)) ?_ | refine Ent.cons (by repeat (first | with_reducible exact Sel.here | with_reducible apply Sel.there)) ?_)) (s_keep _ (next (i + 1) (by omega) (by omega)))
  · have : i = 8 := by omega
    subst this
    refine go_ ?_
    rw [show (8 : Int) - (n : Int) = ((8 - n : Nat) : Int) by omega]
    refine s_look (lk_slca (8 - n) 8 (m := 8) (b := r7) (off := 0) (by omega) (by omega) (by omega)) ?_
    rw [show 8 - (8 - n) = n by omega]
    refine s_fzo (off := 0 + (8 - n) * 1) (m := n) (c := n) (sz := 1) (row := byR (putN x n)) (by repeat (first | with_reducible exact Sel.here | with_reducible apply Sel.there)) (fun _ _ => rfl) (Nat.le_refl _) (by rw [tab_size]; omega) ?_ ?_
    · rw [extract_tab (by omega), flat_byR]
      symm
      refine arr_eq_tab (by simp) fun i hi => ?_
      have hi' : i < n := by omega
      have e : 7 - (8 - n + i) = n - 1 - i := by omega
      simp [hi', putC, putN, e, show 8 - n + i < 8 by omega]
    refine s_call (sp := (by repeat (first | exact Split.nil | apply Split.perx (by repeat (first | with_reducible exact Sel.here | with_reducible apply Sel.there)) (by infer_instance) | apply Split.cons (by repeat (first | with_reducible exact Sel.here | with_reducible apply Sel.there))))) (hs := join_n l (putN x n) rfl (putN_len x n) (by omega)) (h := ?_)
    rintro v Bs ⟨a2, cap2, rfl, rfl⟩
    refine go_ ?_
    exact s_ret1 (rs := [.tmp 6]) Try.func102 rfl (by intro j; refine RVS.tmp _ rfl ?_; exact RVS.nil) (⟨_, _, rfl, rfl⟩) (by repeat (first | exact Ent.nil | refine Ent.per (by repeat (first | with_reducible exact Sel.here | with_reducible apply Sel.there)) ?_ | refine Ent.cons (by repeat (first | with_reducible exact Sel.here | with_reducible apply Sel.there)) ?_))
end Go.Proofs.Ytgbbcpfnmkeijaa
/- Keys that may be. -/
namespace Go.Proofs.Ytgbbcpfnmkeijaa
open Go.Cam
set_option maxRecDepth 100000
def Key.ok (k : Key) : Bool := decide (0 ≤ k.obj ∧ 0 ≤ k.kind ∧ 0 ≤ k.off ∧ k.obj ≤ 2147483647 ∧ k.kind ≤ 255 ∧ k.off ≤ 2147483647)
def Key.last : Key := ⟨2147483647, 255, 2147483647⟩
theorem end_ok : Ctr Try.prog 125 [] [] (fun r Bs => r = .agg #[.int .i64 2147483647, .int .i64 255, .int .i64 2147483647] ∧ Bs = []) := by
  refine s_enter 2 [] (fun F => [F]) Try.func125 fun F => ?_
  refine go_ ?_
  refine s_alloc fun r0 => ?_
  refine go_ ?_
  exact s_ret1 (rs := [.cell 0 27]) Try.func125 rfl (by intro j; refine RVS.cell _ _ rfl (by repeat (first | with_reducible exact Sel.here | with_reducible apply Sel.there)) (by rfl) ?_; exact RVS.nil) (⟨rfl, rfl⟩) (by repeat (first | exact Ent.nil | refine Ent.per (by repeat (first | with_reducible exact Sel.here | with_reducible apply Sel.there)) ?_ | refine Ent.cons (by repeat (first | with_reducible exact Sel.here | with_reducible apply Sel.there)) ?_))
set_option maxHeartbeats 1000000 in
theorem may_ok (k : Key) : Ctr Try.prog 113 [k.v] [] (fun r Bs => r = .bool k.ok ∧ Bs = []) := by
  refine s_enter 39 [(0, _)] (fun F => [F]) Try.func113 fun F => ?_
  refine go_ ?_
  refine s_box fun r1 => ?_
  refine go_ ?_
  refine s_call (sp := (by repeat (first | exact Split.nil | apply Split.perx (by repeat (first | with_reducible exact Sel.here | with_reducible apply Sel.there)) (by infer_instance) | apply Split.cons (by repeat (first | with_reducible exact Sel.here | with_reducible apply Sel.there))))) (hs := end_ok) (h := ?_)
  rintro v Bs ⟨rfl, rfl⟩
  refine go_ ?_
  refine s_alloc fun r3 => ?_
  refine go_ ?_
  cases h0 : decide (k.obj ≥ 0)
  · refine go_ ?_
    exact s_ret1 (rs := [.tmp 2]) Try.func113 rfl (by intro j; refine RVS.tmp _ rfl ?_; exact RVS.nil) (⟨by simp at h0; simp [Key.ok]; omega, rfl⟩) (by repeat (first | exact Ent.nil | refine Ent.per (by repeat (first | with_reducible exact Sel.here | with_reducible apply Sel.there)) ?_ | refine Ent.cons (by repeat (first | with_reducible exact Sel.here | with_reducible apply Sel.there)) ?_))
  refine go_ ?_
  cases h1 : decide (k.kind ≥ 0)
  · refine go_ ?_
    exact s_ret1 (rs := [.tmp 2]) Try.func113 rfl (by intro j; refine RVS.tmp _ rfl ?_; exact RVS.nil) (⟨by simp at h1; simp [Key.ok]; omega, rfl⟩) (by repeat (first | exact Ent.nil | refine Ent.per (by repeat (first | with_reducible exact Sel.here | with_reducible apply Sel.there)) ?_ | refine Ent.cons (by repeat (first | with_reducible exact Sel.here | with_reducible apply Sel.there)) ?_))
  refine go_ ?_
  cases h2 : decide (k.off ≥ 0)
  · refine go_ ?_
    exact s_ret1 (rs := [.tmp 2]) Try.func113 rfl (by intro j; refine RVS.tmp _ rfl ?_; exact RVS.nil) (⟨by simp at h2; simp [Key.ok]; omega, rfl⟩) (by repeat (first | exact Ent.nil | refine Ent.per (by repeat (first | with_reducible exact Sel.here | with_reducible apply Sel.there)) ?_ | refine Ent.cons (by repeat (first | with_reducible exact Sel.here | with_reducible apply Sel.there)) ?_))
  refine go_ ?_
  cases h3 : decide (k.obj ≤ 2147483647)
  · refine go_ ?_
    exact s_ret1 (rs := [.tmp 2]) Try.func113 rfl (by intro j; refine RVS.tmp _ rfl ?_; exact RVS.nil) (⟨by simp at h3; simp [Key.ok]; omega, rfl⟩) (by repeat (first | exact Ent.nil | refine Ent.per (by repeat (first | with_reducible exact Sel.here | with_reducible apply Sel.there)) ?_ | refine Ent.cons (by repeat (first | with_reducible exact Sel.here | with_reducible apply Sel.there)) ?_))
  refine go_ ?_
  cases h4 : decide (k.kind ≤ 255)
  · refine go_ ?_
    exact s_ret1 (rs := [.tmp 2]) Try.func113 rfl (by intro j; refine RVS.tmp _ rfl ?_; exact RVS.nil) (⟨by simp at h4; simp [Key.ok]; omega, rfl⟩) (by repeat (first | exact Ent.nil | refine Ent.per (by repeat (first | with_reducible exact Sel.here | with_reducible apply Sel.there)) ?_ | refine Ent.cons (by repeat (first | with_reducible exact Sel.here | with_reducible apply Sel.there)) ?_))
  refine go_ ?_
  exact s_ret1 (rs := [.tmp 2]) Try.func113 rfl (by intro j; refine RVS.tmp _ rfl ?_; exact RVS.nil) (⟨by simp at *; simp [Key.ok, *], rfl⟩) (by repeat (first | exact Ent.nil | refine Ent.per (by repeat (first | with_reducible exact Sel.here | with_reducible apply Sel.there)) ?_ | refine Ent.cons (by repeat (first | with_reducible exact Sel.here | with_reducible apply Sel.there)) ?_))
end Go.Proofs.Ytgbbcpfnmkeijaa
/- key.Take. -/
namespace Go.Proofs.Ytgbbcpfnmkeijaa
open Go.Cam
set_option maxRecDepth 100000
def keyB (l : List Nat) : Key := ⟨numB (l.take 4), numB ((l.drop 4).take 1), numB (((l.drop 4).drop 1).take 4)⟩
set_option maxHeartbeats 1000000 in
theorem ktake_c {a : Option Addr} {c : Nat} (l : List Nat) (hs : 9 ≤ l.length) (hb : Bys l) (hl : l.length < 1000000) : Ctr Try.prog 87 [.slice a l.length c] [BS (.slice a l.length c) l]
    (fun v Bs => ((keyB l).ok = false ∧ v = .tuple #[.agg #[.int .i64 0, .int .i64 0, .int .i64 0], .slice none 0 0, .int .i64 3] ∧ Bs = []) ∨
      ((keyB l).ok = true ∧ ∃ a' cap, v = .tuple #[.agg #[.int .i64 (numB (l.take 4) : Nat), .int .i64 (numB ((l.drop 4).take 1) : Nat), .int .i64 (numB (((l.drop 4).drop 1).take 4) : Nat)], .slice a' (((l.drop 4).drop 1).drop 4).length cap, .int .i64 0] ∧ Bs = [SA (some 5) 1 (.slice a' (((l.drop 4).drop 1).drop 4).length cap) (((l.drop 4).drop 1).drop 4).length (byR (((l.drop 4).drop 1).drop 4))])) := by
  refine s_enter 37 [(0, _)] (fun F => [_, F]) Try.func87 fun F => ?_
  refine s_seq (s_region ?_)
  refine s_alloc fun r2 => ?_
  refine go_ ?_
  rw [show decide ((l.length : Int) < 9) = false from decide_eq_false (by omega)]
  refine go_ ?_
  refine s_alloc fun r5 => ?_
  refine go_ ?_
  refine s_call (sp := (by repeat (first | exact Split.nil | apply Split.perx (by repeat (first | with_reducible exact Sel.here | with_reducible apply Sel.there)) (by infer_instance) | apply Split.cons (by repeat (first | with_reducible exact Sel.here | with_reducible apply Sel.there))))) (hs := take_c l 4 (by omega) (by omega) (by omega) hb hl) (h := ?_)
  rintro v Bs ⟨a1, c1, rfl, rfl⟩
  refine go_ ?_
  refine s_fz (e := 5) (by repeat (first | with_reducible exact Sel.here | with_reducible apply Sel.there)) ?_
  refine s_call (sp := (by repeat (first | exact Split.nil | apply Split.perx (by repeat (first | with_reducible exact Sel.here | with_reducible apply Sel.there)) (by infer_instance) | apply Split.cons (by repeat (first | with_reducible exact Sel.here | with_reducible apply Sel.there))))) (hs := take_c (l.drop 4) 1 (by omega) (by omega) (by simp; omega) (hb.drop 4) (by simp; omega)) (h := ?_)
  rintro v Bs ⟨a2, c2, rfl, rfl⟩
  refine go_ ?_
  refine s_fz (e := 5) (by repeat (first | with_reducible exact Sel.here | with_reducible apply Sel.there)) ?_
  refine s_call (sp := (by repeat (first | exact Split.nil | apply Split.perx (by repeat (first | with_reducible exact Sel.here | with_reducible apply Sel.there)) (by infer_instance) | apply Split.cons (by repeat (first | with_reducible exact Sel.here | with_reducible apply Sel.there))))) (hs := take_c ((l.drop 4).drop 1) 4 (by omega) (by omega) (by simp; omega) ((hb.drop 4).drop 1) (by simp; omega)) (h := ?_)
  rintro v Bs ⟨a3, c3, rfl, rfl⟩
  refine go_ ?_
  refine s_call (sp := (by repeat (first | exact Split.nil | apply Split.perx (by repeat (first | with_reducible exact Sel.here | with_reducible apply Sel.there)) (by infer_instance) | apply Split.cons (by repeat (first | with_reducible exact Sel.here | with_reducible apply Sel.there))))) (hs := may_ok (keyB l)) (h := ?_)
  rintro v Bs ⟨rfl, rfl⟩
  refine go_ ?_
  cases hk : (keyB l).ok
  · refine go_ ?_
    exact s_rett (rs := [.cell 2 27, .tmp 3, .tmp 4]) (vs := [_, _, _]) Try.func87 rfl (by intro j; refine RVS.cell _ _ rfl (by repeat (first | with_reducible exact Sel.here | with_reducible apply Sel.there)) (by rfl) ?_; refine RVS.tmp _ rfl ?_; refine RVS.tmp _ rfl ?_; exact RVS.nil) rfl (.inl ⟨rfl, rfl, rfl⟩) (by repeat (first | exact Ent.nil | refine Ent.per (by repeat (first | with_reducible exact Sel.here | with_reducible apply Sel.there)) ?_ | refine Ent.cons (by repeat (first | with_reducible exact Sel.here | with_reducible apply Sel.there)) ?_))
  · refine go_ ?_
    exact s_rett (rs := [.cell 2 27, .tmp 3, .tmp 4]) (vs := [_, _, _]) Try.func87 rfl (by intro j; refine RVS.cell _ _ rfl (by repeat (first | with_reducible exact Sel.here | with_reducible apply Sel.there)) (by rfl) ?_; refine RVS.tmp _ rfl ?_; refine RVS.tmp _ rfl ?_; exact RVS.nil) rfl (.inr ⟨rfl, _, _, rfl, rfl⟩) (by repeat (first | exact Ent.nil | refine Ent.per (by repeat (first | with_reducible exact Sel.here | with_reducible apply Sel.there)) ?_ | refine Ent.cons (by repeat (first | with_reducible exact Sel.here | with_reducible apply Sel.there)) ?_))
end Go.Proofs.Ytgbbcpfnmkeijaa
/- sum.nibbles, sum.More. -/
namespace Go.Proofs.Ytgbbcpfnmkeijaa
open Go.Cam
set_option maxRecDepth 100000
def nibS (r : Nat) : Nat := if r &&& 1 = 1 then (r / 2) ^^^ 2197175160 else r / 2
def nibD : Nat → Nat → Nat
  | 0, r => r
  | d + 1, r => nibD d (nibS r)
def nib (i : Nat) : Nat := nibD 4 i
def nibC (i j : Nat) : Value := .int .u32 ((if j < i then nib j else 0 : Nat) : Int)
theorem nibS_lt {r : Nat} (h : r < 4294967296) : nibS r < 4294967296 := by
  unfold nibS
  split
  · exact Nat.xor_lt_two_pow (n := 32) (by omega) (by omega)
  · omega
theorem nibC_step (i : Nat) : fset (nibC i) (i * 1) (.int .u32 ((nib i : Nat) : Int)) = nibC (i + 1) := by
  funext j
  unfold fset nibC
  by_cases h : j = i
  · subst h; simp
  · rw [if_neg (by omega)]
    by_cases h2 : j < i
    · rw [if_pos h2, if_pos (by omega)]
    · rw [if_neg h2, if_neg (by omega)]
set_option maxHeartbeats 1000000 in
theorem nibbles_c : Ctr Try.prog 139 [] [] (fun v Bs => v = .agg (tab 16 (nibC 16)) ∧ Bs = []) := by
  refine s_enter 25 [] (fun F => [F]) Try.func139 fun F => ?_
  refine go_ ?_
  refine s_alloc fun r0 => ?_
  refine s_open (B := .own r0 (.cells (tab 16 (nibC 0)) 214 (0, 0))) (fun _ _ h => h) ?_
  refine go_ ?_
  refine s_alloc fun r1 => ?_
  refine s_open (B := .own r1 (.cells (tab 16 (nibC 0)) 214 (0, 0))) (fun _ _ h => h) ?_
  refine go_ ?_
  refine s_loop (fun i : Nat => [(0, .pointer (some ⟨r0, 0, none⟩)), (1, .pointer (some ⟨r1, 0, none⟩)), (4, .int .i64 i)]) (fun i => [.own r1 (.cells (tab 16 (nibC i)) 214 (0, 0)), .own r0 (.cells (tab 16 (nibC 0)) 214 (0, 0)), F]) (fun i => i ≤ 16) (fun i => 16 - i) 0 (by omega) (by repeat (first | exact Ent.nil | refine Ent.per (by repeat (first | with_reducible exact Sel.here | with_reducible apply Sel.there)) ?_ | refine Ent.cons (by repeat (first | with_reducible exact Sel.here | with_reducible apply Sel.there)) ?_)) ?_
  rintro i hi next
  refine go_ ?_
  refine s_if (fun h2 => ?_) (fun h2 => ?_)
  · refine go_ ?_
    rw [wrap_u32 i (by omega)]
    refine s_loop (fun x : Nat × Nat => [(0, .pointer (some ⟨r0, 0, none⟩)), (1, .pointer (some ⟨r1, 0, none⟩)), (2, .int .i64 i), (3, .int .u32 (x.2 : Nat)), (4, .int .i64 i), (9, .int .i64 (x.1 : Nat))]) (fun _ => [.own r1 (.cells (tab 16 (nibC i)) 214 (0, 0)), .own r0 (.cells (tab 16 (nibC 0)) 214 (0, 0)), F]) (fun x => x.1 ≤ 4 ∧ x.2 < 4294967296 ∧ nibD (4 - x.1) x.2 = nib i) (fun x => 4 - x.1) (0, i) ⟨by simp, by simp; omega, rfl⟩ (by repeat (first | exact Ent.nil | refine Ent.per (by repeat (first | with_reducible exact Sel.here | with_reducible apply Sel.there)) ?_ | refine Ent.cons (by repeat (first | with_reducible exact Sel.here | with_reducible apply Sel.there)) ?_)) ?_
    rintro ⟨k, r⟩ ⟨hk, hr, he⟩ next2
    dsimp only at hk hr he next2 ⊢
    refine go_ ?_
    refine s_if (fun h3 => ?_) (fun h3 => ?_)
    · obtain ⟨d, hd⟩ : ∃ d, 4 - k = d + 1 := ⟨3 - k, by omega⟩
      have e4 : 4 - (k + 1) = d := by omega
      rw [hd, nibD] at he
      have hr2 := nibS_lt hr
      refine go_ ?_
      rw [and_u32 r 1 (y := 1) rfl rfl hr (by omega)]
      refine s_ieq (fun h4 => ?_) (fun h4 => ?_)
      · have e5 : nibS r = (r / 2) ^^^ 2197175160 := by unfold nibS; rw [if_pos (by omega)]
        refine go_ ?_
        rw [xor_u32 (r / 2 ^ 1) 2197175160 (x := (r : Int).fdiv (2 ^ min (Int.toNat 1) IntKind.u32.bits)) (y := 2197175160) (fdiv_pow r 1) rfl (by omega) (by omega)]
        exact s_entF (by repeat (first | exact Ent.nil | refine Ent.per (by repeat (first | with_reducible exact Sel.here | with_reducible apply Sel.there)) ?_ | refine Ent.cons (by repeat (first | with_reducible exact Sel.here | with_reducible apply Sel.there)) ?_)) (s_keep _ (next2 (k + 1, r / 2 ^ 1 ^^^ 2197175160) ⟨by dsimp only; omega, by dsimp only; rw [e5] at hr2; simpa using hr2, by dsimp only; rw [e4, ← he, e5]⟩ (by dsimp only; omega)))
      · have e5 : nibS r = r / 2 := by unfold nibS; rw [if_neg (by omega)]
        refine go_ ?_
        rw [show (r : Int).fdiv (2 ^ min (Int.toNat 1) IntKind.u32.bits) = ((r / 2 ^ 1 : Nat) : Int) from fdiv_pow r 1]
        exact s_entF (by repeat (first | exact Ent.nil | refine Ent.per (by repeat (first | with_reducible exact Sel.here | with_reducible apply Sel.there)) ?_ | refine Ent.cons (by repeat (first | with_reducible exact Sel.here | with_reducible apply Sel.there)) ?_)) (s_keep _ (next2 (k + 1, r / 2 ^ 1) ⟨by dsimp only; omega, by dsimp only; rw [e5] at hr2; simpa using hr2, by dsimp only; rw [e4, ← he, e5]⟩ (by dsimp only; omega)))
    · have e0 : 4 - k = 0 := by omega
      rw [e0, nibD] at he
      subst he
      refine go_ ?_
      refine s_stt ?_
      rw [nibC_step]
      refine go_ ?_
      exact s_entF (by repeat (first | exact Ent.nil | refine Ent.per (by repeat (first | with_reducible exact Sel.here | with_reducible apply Sel.there)) ?_ | refine Ent.cons (by repeat (first | with_reducible exact Sel.here | with_reducible apply Sel.there)) ?_)) (s_keep _ (next (i + 1) (by omega) (by omega)))
  · have : i = 16 := by omega
    subst this
    refine go_ ?_
    have hq : ∀ j, one (nibC 16 j) = true := fun _ => rfl
    generalize nibC 16 = q at hq ⊢
    refine s_stw (h1 := tab_size _ _) (h2 := tab_size _ _) (h3 := tab_all hq) ?_
    refine go_ ?_
    exact s_ret1 (rs := [.cell 0 214]) Try.func139 rfl (by intro j; refine RVS.cell _ _ rfl (by repeat (first | with_reducible exact Sel.here | with_reducible apply Sel.there)) (by rfl) ?_; exact RVS.nil) (⟨rfl, rfl⟩) (by repeat (first | exact Ent.nil | refine Ent.per (by repeat (first | with_reducible exact Sel.here | with_reducible apply Sel.there)) ?_ | refine Ent.cons (by repeat (first | with_reducible exact Sel.here | with_reducible apply Sel.there)) ?_))
end Go.Proofs.Ytgbbcpfnmkeijaa
/- sum.More, sum.Sum. -/
namespace Go.Proofs.Ytgbbcpfnmkeijaa
open Go.Cam
set_option maxRecDepth 100000
def crcH (x : Nat) : Nat := (x / 2 ^ 4) ^^^ nib (x &&& 15)
def crcS (r c : Nat) : Nat := crcH (crcH (r ^^^ c))
def notN (x : Nat) : Nat := 4294967295 ^^^ x
def moreB (s : Nat) (l : List Nat) : Nat := notN (l.foldl crcS (notN s))
def sumB (l : List Nat) : Nat := moreB 0 l
theorem nib_lt {i : Nat} (h : i < 4294967296) : nib i < 4294967296 := nibS_lt (nibS_lt (nibS_lt (nibS_lt h)))
theorem and15_lt (x : Nat) : x &&& 15 < 16 := Nat.lt_of_le_of_lt Nat.and_le_right (by decide)
theorem crcH_lt {x : Nat} (h : x < 4294967296) : crcH x < 4294967296 := by
  unfold crcH
  have h1 : x &&& 15 < 16 := Nat.lt_of_le_of_lt Nat.and_le_right (by decide)
  exact Nat.xor_lt_two_pow (n := 32) (by omega) (nib_lt (by omega))
theorem crcS_lt {r c : Nat} (h : r < 4294967296) (hc : c < 256) : crcS r c < 4294967296 := crcH_lt (crcH_lt (Nat.xor_lt_two_pow (n := 32) (by omega) (by omega)))
theorem notN_lt {x : Nat} (h : x < 4294967296) : notN x < 4294967296 := Nat.xor_lt_two_pow (n := 32) (by omega) (by omega)
theorem fold_lt : ∀ (l : List Nat) (r : Nat), Bys l → r < 4294967296 → l.foldl crcS r < 4294967296
  | [], _, _, h => h
  | c :: l, r, hb, h => fold_lt l _ (fun x hx => hb x (List.mem_cons_of_mem _ hx)) (crcS_lt h (hb c (List.mem_cons_self ..)))
theorem moreB_lt (s : Nat) (l : List Nat) (hs : s < 4294967296) (hb : Bys l) : moreB s l < 4294967296 := notN_lt (fold_lt l _ hb (notN_lt hs))
set_option maxHeartbeats 1000000 in
theorem more_c {A : HP} {a : Option Addr} {c : Nat} (s : Nat) (l : List Nat) [Rd A 1 (.slice a l.length c) l.length (byR l)] (hs : s < 4294967296) (hb : Bys l) (hl : l.length < 1000000) : Ctr Try.prog 124 [.int .u32 (s : Int), .slice a l.length c] [A] (fun v Bs => v = .int .u32 (moreB s l : Nat) ∧ Bs = [A]) := by
  refine s_enter 39 [(0, _), (1, _)] (fun F => [_, F]) Try.func124 fun F => ?_
  refine go_ ?_
  refine s_call (sp := (by repeat (first | exact Split.nil | apply Split.perx (by repeat (first | with_reducible exact Sel.here | with_reducible apply Sel.there)) (by infer_instance) | apply Split.cons (by repeat (first | with_reducible exact Sel.here | with_reducible apply Sel.there))))) (hs := nibbles_c) (h := ?_)
  rintro v Bs ⟨rfl, rfl⟩
  refine go_ ?_
  refine s_alloc fun r5 => ?_
  have hq : ∀ j, one (nibC 16 j) = true := fun _ => rfl
  have hn : ∀ j, j < 16 → nibC 16 j = .int .u32 (nib j : Nat) := fun j hj => by unfold nibC; rw [if_pos hj]
  generalize nibC 16 = q at hq hn ⊢
  refine s_stw (m := 16) (c' := tab 16 q) (h1 := by rfl) (h2 := tab_size _ _) (h3 := tab_all hq) ?_
  refine go_ ?_
  rw [xor_u32 4294967295 s (x := if IntKind.u32.signed = true then -1 else IntKind.u32.max) (y := s) rfl rfl (by decide) hs]
  refine s_loop (fun i : Nat => [(5, .pointer (some ⟨r5, 0, none⟩)), (6, .int .u32 ((l.take i).foldl crcS (notN s) : Nat)), (12, .slice a l.length c), (13, .int .i64 l.length), (14, .int .i64 i)]) (fun _ => [.own r5 (.cells (tab 16 q) 214 (0, 0)), A, F]) (fun i => i ≤ l.length) (fun i => l.length - i) 0 (by omega) (by repeat (first | exact Ent.nil | refine Ent.per (by repeat (first | with_reducible exact Sel.here | with_reducible apply Sel.there)) ?_ | refine Ent.cons (by repeat (first | with_reducible exact Sel.here | with_reducible apply Sel.there)) ?_)) ?_
  rintro i hi next
  refine go_ ?_
  refine s_if (fun h2 => ?_) (fun h2 => ?_)
  · refine go_ ?_
    have hi2 : i < l.length := by omega
    have e1 : (l.getD i 0) = l[i] := by simp [List.getD_eq_getElem?_getD, hi2]
    have hc := hb _ (List.getElem_mem hi2)
    have hf := fold_lt (l.take i) (notN s) (fun x hx => hb x (List.mem_of_mem_take hx)) (notN_lt hs)
    have e2 : (l.take (i + 1)).foldl crcS (notN s) = crcS ((l.take i).foldl crcS (notN s)) l[i] := by rw [← List.take_append_getElem, List.foldl_append]; rfl
    generalize (l.take i).foldl crcS (notN s) = r at hf e2 ⊢
    rw [e1]
    generalize l[i] = y at hc e2 ⊢
    rw [wrap_u32 y (by omega), xor_u32 r y rfl rfl hf (by omega)]
    have hx : r ^^^ y < 4294967296 := Nat.xor_lt_two_pow (n := 32) (by omega) (by omega)
    rw [show crcS r y = crcH (crcH (r ^^^ y)) from rfl] at e2
    generalize r ^^^ y = x at hx e2 ⊢
    have h15x := and15_lt x
    rw [and_u32 x 15 (x := (x : Nat)) (y := 15) rfl rfl hx (by decide)]
    refine go_ ?_
    refine s_look (lk_ldv (v := .int .u32 (nib (x &&& 15) : Nat)) (hv := by rw [Nat.mul_one]; exact hn _ (and15_lt x)) (hl := by omega)) ?_
    refine go_ ?_
    rw [xor_u32 (x / 2 ^ 4) (nib (x &&& 15)) (x := (x : Int).fdiv (2 ^ min (Int.toNat 4) IntKind.u32.bits)) (fdiv_pow x 4) rfl (by omega) (nib_lt (by omega)), show (x / 2 ^ 4) ^^^ nib (x &&& 15) = crcH x from rfl]
    have hz := crcH_lt hx
    generalize crcH x = z at hz e2 ⊢
    refine go_ ?_
    have h15z := and15_lt z
    rw [and_u32 z 15 (x := (z : Nat)) (y := 15) rfl rfl hz (by decide)]
    refine go_ ?_
    refine s_look (lk_ldv (v := .int .u32 (nib (z &&& 15) : Nat)) (hv := by rw [Nat.mul_one]; exact hn _ (and15_lt z)) (hl := by omega)) ?_
    refine go_ ?_
    rw [xor_u32 (z / 2 ^ 4) (nib (z &&& 15)) (x := (z : Int).fdiv (2 ^ min (Int.toNat 4) IntKind.u32.bits)) (fdiv_pow z 4) rfl (by omega) (nib_lt (by omega)), show (z / 2 ^ 4) ^^^ nib (z &&& 15) = crcH z from rfl]
    refine go_ ?_
    rw [← e2]
    exact s_entF (by repeat (first | exact Ent.nil | refine Ent.per (by repeat (first | with_reducible exact Sel.here | with_reducible apply Sel.there)) ?_ | refine Ent.cons (by repeat (first | with_reducible exact Sel.here | with_reducible apply Sel.there)) ?_)) (s_keep _ (next (i + 1) (by omega) (by omega)))
  · have : i = l.length := by omega
    subst this
    refine go_ ?_
    rw [List.take_length, xor_u32 4294967295 (l.foldl crcS (notN s)) (x := if IntKind.u32.signed = true then -1 else IntKind.u32.max) rfl rfl (by decide) (fold_lt _ _ hb (notN_lt hs))]
    exact s_ret1 (rs := [.tmp 4]) Try.func124 rfl (by intro j; refine RVS.tmp _ rfl ?_; exact RVS.nil) (⟨rfl, rfl⟩) (by repeat (first | exact Ent.nil | refine Ent.per (by repeat (first | with_reducible exact Sel.here | with_reducible apply Sel.there)) ?_ | refine Ent.cons (by repeat (first | with_reducible exact Sel.here | with_reducible apply Sel.there)) ?_))
theorem sum_c {A : HP} {a : Option Addr} {c : Nat} (l : List Nat) [Rd A 1 (.slice a l.length c) l.length (byR l)] (hb : Bys l) (hl : l.length < 1000000) : Ctr Try.prog 105 [.slice a l.length c] [A] (fun v Bs => v = .int .u32 (sumB l : Nat) ∧ Bs = [A]) := by
  refine s_enter 5 [(0, _)] (fun F => [_, F]) Try.func105 fun F => ?_
  refine go_ ?_
  refine s_call (sp := (by repeat (first | exact Split.nil | apply Split.perx (by repeat (first | with_reducible exact Sel.here | with_reducible apply Sel.there)) (by infer_instance) | apply Split.cons (by repeat (first | with_reducible exact Sel.here | with_reducible apply Sel.there))))) (hs := more_c 0 l (by decide) hb hl) (h := ?_)
  rintro v Bs ⟨rfl, rfl⟩
  refine go_ ?_
  exact s_ret1 (rs := [.tmp 2]) Try.func105 rfl (by intro j; refine RVS.tmp _ rfl ?_; exact RVS.nil) (⟨rfl, rfl⟩) (by repeat (first | exact Ent.nil | refine Ent.per (by repeat (first | with_reducible exact Sel.here | with_reducible apply Sel.there)) ?_ | refine Ent.cons (by repeat (first | with_reducible exact Sel.here | with_reducible apply Sel.there)) ?_))
theorem sum_n {A : HP} {a : Option Addr} {n c : Nat} (l : List Nat) (hn : l.length = n) [Rd A 1 (.slice a n c) n (byR l)] (hb : Bys l) (hl : n < 1000000) : Ctr Try.prog 105 [.slice a n c] [A] (fun v Bs => v = .int .u32 (sumB l : Nat) ∧ Bs = [A]) := by
  subst hn; exact sum_c l hb hl
end Go.Proofs.Ytgbbcpfnmkeijaa
