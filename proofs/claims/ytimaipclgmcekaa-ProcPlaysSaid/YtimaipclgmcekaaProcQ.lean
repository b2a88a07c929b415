/- The reference's table, as the program's table tells it. -/
import Derived.Test.YtimaipclgmcekaaProcY
namespace Go.Proofs.Ytimaipclgmcekaa
open Go.Cam
set_option maxRecDepth 100000
namespace RT
def rcell (T : Tb) (o : Nat) : Value := if o < 99 then T.cell o else if o < 211 then (T.op ((o - 99) / 7)).cell ((o - 99) % 7) else .bool (decide (T.us (o - 211) > 0))
variable (T : Tb)
theorem st {o : Nat} (p : Nat) (h : o = p * 11) (hp : p < 9) : rcell T o = .int .i64 (T.st p) := by unfold rcell; rw [if_pos (by omega), T.cell_st p h hp]
theorem par {o : Nat} (p : Nat) (h : o = p * 11 + 1) (hp : p < 9) : rcell T o = .int .i64 (T.par p) := by unfold rcell; rw [if_pos (by omega), T.cell_par p h hp]
theorem code {o : Nat} (p : Nat) (h : o = p * 11 + 2) (hp : p < 9) : rcell T o = .int .i64 (T.code p) := by unfold rcell; rw [if_pos (by omega), T.cell_code p h hp]
theorem fd {o : Nat} (p f : Nat) (h : o = p * 11 + 3 + f) (hp : p < 9) (hf : f < 8) : rcell T o = .int .i64 (T.fd p f) := by unfold rcell; rw [if_pos (by omega), T.cell_fd p f h hp hf]
theorem is {o : Nat} (n : Nat) (h : o = 211 + n) : rcell T o = .bool (decide (T.us n > 0)) := by unfold rcell; rw [if_neg (by omega), if_neg (by omega), show o - 211 = n by omega]
theorem op {o : Nat} (n r : Nat) (h : o = 99 + n * 7 + r) (hn : n < 16) (hr : r < 7) : rcell T o = (T.op n).cell r := by
  unfold rcell; rw [if_neg (by omega), if_pos (by omega), show (o - 99) / 7 = n by omega, show (o - 99) % 7 = r by omega]
theorem one (o : Nat) : Go.Cam.one (rcell T o) = true := by
  unfold rcell
  split
  · exact T.cell_one o
  · split
    · unfold Opn.cell; repeat (first | rfl | split)
    · rfl
/-- each place is one of these -/
theorem cases_ {q : Nat → Prop} (h1 : ∀ p, p < 9 → q (p * 11)) (h2 : ∀ p, p < 9 → q (p * 11 + 1)) (h3 : ∀ p, p < 9 → q (p * 11 + 2)) (h4 : ∀ p f, p < 9 → f < 8 → q (p * 11 + 3 + f))
    (h5 : ∀ n r, n < 16 → r < 7 → q (99 + n * 7 + r)) (h6 : ∀ n, n < 16 → q (211 + n)) : ∀ o, o < 227 → q o := by
  intro o ho
  by_cases c : o < 99
  · have e := h4 (o / 11) (o % 11 - 3)
    by_cases c0 : o % 11 = 0
    · have := h1 (o / 11) (by omega); rwa [show o / 11 * 11 = o by omega] at this
    by_cases c1 : o % 11 = 1
    · have := h2 (o / 11) (by omega); rwa [show o / 11 * 11 + 1 = o by omega] at this
    by_cases c2 : o % 11 = 2
    · have := h3 (o / 11) (by omega); rwa [show o / 11 * 11 + 2 = o by omega] at this
    have := e (by omega) (by omega); rwa [show o / 11 * 11 + 3 + (o % 11 - 3) = o by omega] at this
  · by_cases c2 : o < 211
    · have := h5 ((o - 99) / 7) ((o - 99) % 7) (by omega) (by omega); rwa [show 99 + (o - 99) / 7 * 7 + (o - 99) % 7 = o by omega] at this
    · have := h6 (o - 211) (by omega); rwa [show 211 + (o - 211) = o by omega] at this
theorem ext {T U : Tb} (a : ∀ p, T.st p = U.st p) (b : ∀ p, T.par p = U.par p) (c : ∀ p, T.code p = U.code p) (d : ∀ p f, T.fd p f = U.fd p f) (e : ∀ n, T.op n = U.op n) (g : ∀ n, T.us n > 0 ↔ U.us n > 0) : tab 227 (rcell T) = tab 227 (rcell U) := by
  refine tab_ext (cases_ (q := fun o => rcell T o = rcell U o) ?_ ?_ ?_ ?_ ?_ ?_)
  · intro p hp; rw [st T p rfl hp, st U p rfl hp, a]
  · intro p hp; rw [par T p rfl hp, par U p rfl hp, b]
  · intro p hp; rw [code T p rfl hp, code U p rfl hp, c]
  · intro p f hp hf; rw [fd T p f rfl hp hf, fd U p f rfl hp hf, d]
  · intro n r hn hr; rw [op T n r rfl hn hr, op U n r rfl hn hr, e]
  · intro n hn; rw [is T n rfl, is U n rfl]; congr 1; exact decide_eq_decide.2 (g n)
theorem put_of {T U : Tb} {o : Nat} {v : Value} (h : ∀ q, q < 227 → (if q = o then v else rcell T q) = rcell U q) : tab 227 (fset (rcell T) o v) = tab 227 (rcell U) := tab_ext h
end RT
abbrev Ref (b : Nat) (T : Tb) : HP := .own b (.cells (tab 227 (RT.rcell T)) 82 (0, 0))
theorem Ref.ext {b : Nat} {T U : Tb} (a : ∀ p, T.st p = U.st p) (bb : ∀ p, T.par p = U.par p) (c : ∀ p, T.code p = U.code p) (d : ∀ p f, T.fd p f = U.fd p f) (e : ∀ n, T.op n = U.op n) (g : ∀ n, T.us n > 0 ↔ U.us n > 0) : Ref b T = Ref b U := by
  show HP.own b (.cells (tab 227 (RT.rcell T)) 82 (0, 0)) = _
  rw [RT.ext a bb c d e g]
theorem put_fd (T : Tb) {o p f : Nat} {v : Int} (h : o = p * 11 + 3 + f) (hp : p < 9) (hf : f < 8) : tab 227 (fset (RT.rcell T) o (.int .i64 v)) = tab 227 (RT.rcell (T.setFd p f v)) := by
  subst h
  refine RT.put_of (RT.cases_ ?_ ?_ ?_ ?_ ?_ ?_)
  · intro q hq; rw [if_neg (by omega), RT.st _ q rfl hq, RT.st _ q rfl hq]; rfl
  · intro q hq; rw [if_neg (by omega), RT.par _ q rfl hq, RT.par _ q rfl hq]; rfl
  · intro q hq; rw [if_neg (by omega), RT.code _ q rfl hq, RT.code _ q rfl hq]; rfl
  · intro q g hq hg
    rw [RT.fd (T.setFd p f v) q g rfl hq hg]
    by_cases c : q = p ∧ g = f
    · obtain ⟨rfl, rfl⟩ := c; rw [if_pos rfl]; simp [Tb.setFd]
    · rw [if_neg (by omega), RT.fd _ q g rfl hq hg]; simp only [Tb.setFd, if_neg c]
  · intro n r hn hr; rw [if_neg (by omega), RT.op _ n r rfl hn hr, RT.op _ n r rfl hn hr]; rfl
  · intro n hn; rw [if_neg (by omega), RT.is _ n rfl, RT.is _ n rfl]; rfl
theorem put_st (T : Tb) {o p : Nat} {v : Int} (h : o = p * 11) (hp : p < 9) : tab 227 (fset (RT.rcell T) o (.int .i64 v)) = tab 227 (RT.rcell (T.setSt p v)) := by
  subst h
  refine RT.put_of (RT.cases_ ?_ ?_ ?_ ?_ ?_ ?_)
  · intro q hq
    rw [RT.st (T.setSt p v) q rfl hq]
    by_cases c : q = p
    · subst c; rw [if_pos rfl]; simp [Tb.setSt]
    · rw [if_neg (by omega), RT.st _ q rfl hq]; simp only [Tb.setSt, if_neg c]
  · intro q hq; rw [if_neg (by omega), RT.par _ q rfl hq, RT.par _ q rfl hq]; rfl
  · intro q hq; rw [if_neg (by omega), RT.code _ q rfl hq, RT.code _ q rfl hq]; rfl
  · intro q g hq hg; rw [if_neg (by omega), RT.fd _ q g rfl hq hg, RT.fd _ q g rfl hq hg]; rfl
  · intro n r hn hr; rw [if_neg (by omega), RT.op _ n r rfl hn hr, RT.op _ n r rfl hn hr]; rfl
  · intro n hn; rw [if_neg (by omega), RT.is _ n rfl, RT.is _ n rfl]; rfl
theorem put_par (T : Tb) {o p : Nat} {v : Int} (h : o = p * 11 + 1) (hp : p < 9) : tab 227 (fset (RT.rcell T) o (.int .i64 v)) = tab 227 (RT.rcell (T.setPar p v)) := by
  subst h
  refine RT.put_of (RT.cases_ ?_ ?_ ?_ ?_ ?_ ?_)
  · intro q hq; rw [if_neg (by omega), RT.st _ q rfl hq, RT.st _ q rfl hq]; rfl
  · intro q hq
    rw [RT.par (T.setPar p v) q rfl hq]
    by_cases c : q = p
    · subst c; rw [if_pos rfl]; simp [Tb.setPar]
    · rw [if_neg (by omega), RT.par _ q rfl hq]; simp only [Tb.setPar, if_neg c]
  · intro q hq; rw [if_neg (by omega), RT.code _ q rfl hq, RT.code _ q rfl hq]; rfl
  · intro q g hq hg; rw [if_neg (by omega), RT.fd _ q g rfl hq hg, RT.fd _ q g rfl hq hg]; rfl
  · intro n r hn hr; rw [if_neg (by omega), RT.op _ n r rfl hn hr, RT.op _ n r rfl hn hr]; rfl
  · intro n hn; rw [if_neg (by omega), RT.is _ n rfl, RT.is _ n rfl]; rfl
theorem put_code (T : Tb) {o p : Nat} {v : Int} (h : o = p * 11 + 2) (hp : p < 9) : tab 227 (fset (RT.rcell T) o (.int .i64 v)) = tab 227 (RT.rcell (T.setCode p v)) := by
  subst h
  refine RT.put_of (RT.cases_ ?_ ?_ ?_ ?_ ?_ ?_)
  · intro q hq; rw [if_neg (by omega), RT.st _ q rfl hq, RT.st _ q rfl hq]; rfl
  · intro q hq; rw [if_neg (by omega), RT.par _ q rfl hq, RT.par _ q rfl hq]; rfl
  · intro q hq
    rw [RT.code (T.setCode p v) q rfl hq]
    by_cases c : q = p
    · subst c; rw [if_pos rfl]; simp [Tb.setCode]
    · rw [if_neg (by omega), RT.code _ q rfl hq]; simp only [Tb.setCode, if_neg c]
  · intro q g hq hg; rw [if_neg (by omega), RT.fd _ q g rfl hq hg, RT.fd _ q g rfl hq hg]; rfl
  · intro n r hn hr; rw [if_neg (by omega), RT.op _ n r rfl hn hr, RT.op _ n r rfl hn hr]; rfl
  · intro n hn; rw [if_neg (by omega), RT.is _ n rfl, RT.is _ n rfl]; rfl
/-- whether an open file is there, by its users -/
theorem put_is (T : Tb) {o n : Nat} {v : Bool} {u : Int} (h : o = 211 + n) (hn : n < 16) (hv : v = decide (u > 0)) : tab 227 (fset (RT.rcell T) o (.bool v)) = tab 227 (RT.rcell (T.setUs n u)) := by
  subst h
  refine RT.put_of (RT.cases_ ?_ ?_ ?_ ?_ ?_ ?_)
  · intro q hq; rw [if_neg (by omega), RT.st _ q rfl hq, RT.st _ q rfl hq]; rfl
  · intro q hq; rw [if_neg (by omega), RT.par _ q rfl hq, RT.par _ q rfl hq]; rfl
  · intro q hq; rw [if_neg (by omega), RT.code _ q rfl hq, RT.code _ q rfl hq]; rfl
  · intro q g hq hg; rw [if_neg (by omega), RT.fd _ q g rfl hq hg, RT.fd _ q g rfl hq hg]; rfl
  · intro m r hm hr; rw [if_neg (by omega), RT.op _ m r rfl hm hr, RT.op _ m r rfl hm hr]; rfl
  · intro m hm
    rw [RT.is (T.setUs n u) m rfl]
    by_cases c : m = n
    · subst c; rw [if_pos rfl, hv]; simp [Tb.setUs]
    · rw [if_neg (by omega), RT.is _ m rfl]; simp only [Tb.setUs, if_neg c]
theorem put_op (T : Tb) {o n : Nat} (x : Opn) (h : o = 99 + n * 7) (hn : n < 16) : setL (tab 227 (RT.rcell T)) o x.vals.toList = tab 227 (RT.rcell (T.setOp n x)) := by
  subst h
  refine setL_tab (RT.cases_ ?_ ?_ ?_ ?_ ?_ ?_)
  · intro q hq; rw [if_neg (by simp [Opn.vals]; omega), RT.st _ q rfl hq, RT.st _ q rfl hq]; rfl
  · intro q hq; rw [if_neg (by simp [Opn.vals]; omega), RT.par _ q rfl hq, RT.par _ q rfl hq]; rfl
  · intro q hq; rw [if_neg (by simp [Opn.vals]; omega), RT.code _ q rfl hq, RT.code _ q rfl hq]; rfl
  · intro q g hq hg; rw [if_neg (by simp [Opn.vals]; omega), RT.fd _ q g rfl hq hg, RT.fd _ q g rfl hq hg]; rfl
  · intro m r hm hr
    rw [RT.op (T.setOp n x) m r rfl hm hr]
    by_cases c : m = n
    · subst c
      rw [if_pos (by simp [Opn.vals]; omega), show 99 + m * 7 + r - (99 + m * 7) = r by omega]
      simp only [Tb.setOp, if_true]
      match r, hr with
      | 0, _ => rfl
      | 1, _ => rfl
      | 2, _ => rfl
      | 3, _ => rfl
      | 4, _ => rfl
      | 5, _ => rfl
      | 6, _ => rfl
    · rw [if_neg (by simp [Opn.vals]; omega), RT.op _ m r rfl hm hr]; simp only [Tb.setOp, if_neg c]
  · intro m hm; rw [if_neg (by simp [Opn.vals]; omega), RT.is _ m rfl, RT.is _ m rfl]; rfl
theorem ext_op (T : Tb) {o n : Nat} (h : o = 99 + n * 7) (hn : n < 16) : (tab 227 (RT.rcell T)).extract o (o + 7) = (T.op n).vals := by
  subst h
  rw [extract_tab (by omega), tab_ext (g := fun i => (T.op n).cell i) fun i hi => RT.op T n i rfl hn hi]
  rfl
end Go.Proofs.Ytimaipclgmcekaa

/- The reference's calls, told by the program's table: looks. -/
namespace Go.Proofs.Ytimaipclgmcekaa
open Go.Cam
set_option maxRecDepth 100000
theorem r_runs {y : Nat} {T : Tb} (pid : Int) : Ctr Try.prog 38 [.pointer (some ⟨y,0,none⟩), .int .i64 pid] [Ref y T] (fun v Bs => v = .bool (T.runs pid) ∧ Bs = [Ref y T]) := by
  refine s_enter 21 [(0, _), (1, _)] (fun F => [_, F]) Try.func38 fun F => ?_
  refine go_ ?_
  cases h1 : decide (pid ≥ 1)
  · refine go_ ?_
    exact s_ret1 (rs := [.tmp 4]) Try.func38 rfl (by intro j; refine RVS.tmp _ rfl ?_; exact RVS.nil) (⟨by simp at h1; simp [Tb.runs]; omega, rfl⟩) (by repeat (first | exact Ent.nil | refine Ent.per (by repeat (first | with_reducible exact Sel.here | with_reducible apply Sel.there)) ?_ | refine Ent.cons (by repeat (first | with_reducible exact Sel.here | with_reducible apply Sel.there)) ?_))
  refine go_ ?_
  cases h2 : decide (pid ≤ 8)
  · refine go_ ?_
    exact s_ret1 (rs := [.tmp 4]) Try.func38 rfl (by intro j; refine RVS.tmp _ rfl ?_; exact RVS.nil) (⟨by simp at h2; simp [Tb.runs]; omega, rfl⟩) (by repeat (first | exact Ent.nil | refine Ent.per (by repeat (first | with_reducible exact Sel.here | with_reducible apply Sel.there)) ?_ | refine Ent.cons (by repeat (first | with_reducible exact Sel.here | with_reducible apply Sel.there)) ?_))
  simp only [decide_eq_true_eq] at h1 h2
  obtain ⟨p, rfl⟩ : ∃ p : Nat, pid = p := ⟨pid.toNat, by omega⟩
  refine go_ ?_
  refine s_look (lk_ldv (hv := RT.st T p rfl (by omega))) ?_
  refine go_ ?_
  exact s_ret1 (rs := [.tmp 4]) Try.func38 rfl (by intro j; refine RVS.tmp _ rfl ?_; exact RVS.nil) (⟨by simp [Tb.runs]; omega, rfl⟩) (by repeat (first | exact Ent.nil | refine Ent.per (by repeat (first | with_reducible exact Sel.here | with_reducible apply Sel.there)) ?_ | refine Ent.cons (by repeat (first | with_reducible exact Sel.here | with_reducible apply Sel.there)) ?_))
def usersF (T : Tb) (n p : Nat) : Nat → Nat → Nat → Nat
  | 0, _, k => k
  | d + 1, f, k => usersF T n p d (f + 1) (if T.st p = 1 ∧ T.fd p f = (n : Int) + 1 then k + 1 else k)
def usersP (T : Tb) (n : Nat) : Nat → Nat → Nat → Nat
  | 0, _, k => k
  | d + 1, p, k => usersP T n d (p + 1) (usersF T n p 8 0 k)
set_option maxHeartbeats 1000000 in
theorem r_users {y : Nat} {T : Tb} (n : Nat) (hn : n < 16) : Ctr Try.prog 43 [.pointer (some ⟨y,0,none⟩), .int .i64 n] [Ref y T] (fun v Bs => v = .int .i64 (usersP T n 8 1 0 : Nat) ∧ Bs = [Ref y T]) := by
  refine s_enter 41 [(0, _), (1, _)] (fun F => [_, F]) Try.func43 fun F => ?_
  refine go_ ?_
  refine s_loop (fun x : Nat × Nat => [(0, .pointer (some ⟨y, 0, none⟩)), (1, .int .i64 n), (5, .int .i64 (x.2 : Nat)), (6, .int .i64 (x.1 : Nat))]) (fun _ => [Ref y T, F])
    (fun x => x.1 ≤ 9 ∧ x.2 ≤ 8 * x.1 ∧ usersP T n (9 - x.1) x.1 x.2 = usersP T n 8 1 0) (fun x => 9 - x.1) (1, 0) ⟨by simp, by simp, rfl⟩ (by repeat (first | exact Ent.nil | refine Ent.per (by repeat (first | with_reducible exact Sel.here | with_reducible apply Sel.there)) ?_ | refine Ent.cons (by repeat (first | with_reducible exact Sel.here | with_reducible apply Sel.there)) ?_)) ?_
  rintro ⟨p, k⟩ ⟨hp, hk, he⟩ next
  dsimp only at hp hk he next ⊢
  refine go_ ?_
  refine s_if (fun h1 => ?_) (fun h1 => ?_)
  · obtain ⟨d, hd⟩ : ∃ d, 9 - p = d + 1 := ⟨8 - p, by omega⟩
    rw [hd, usersP] at he
    refine go_ ?_
    refine s_loop (fun x : Nat × Nat => [(0, .pointer (some ⟨y, 0, none⟩)), (1, .int .i64 n), (5, .int .i64 (x.2 : Nat)), (6, .int .i64 p), (7, .int .i64 (x.1 : Nat))]) (fun _ => [Ref y T, F])
      (fun x => x.1 ≤ 8 ∧ x.2 ≤ 8 * p + x.1 ∧ usersF T n p (8 - x.1) x.1 x.2 = usersF T n p 8 0 k) (fun x => 8 - x.1) (0, k) ⟨by simp, by simp; omega, rfl⟩ (by repeat (first | exact Ent.nil | refine Ent.per (by repeat (first | with_reducible exact Sel.here | with_reducible apply Sel.there)) ?_ | refine Ent.cons (by repeat (first | with_reducible exact Sel.here | with_reducible apply Sel.there)) ?_)) ?_
    rintro ⟨f, k2⟩ ⟨hf, hk2, hu⟩ next2
    dsimp only at hf hk2 hu next2 ⊢
    refine go_ ?_
    refine s_if (fun h2 => ?_) (fun h2 => ?_)
    · obtain ⟨d2, hd2⟩ : ∃ d, 8 - f = d + 1 := ⟨7 - f, by omega⟩
      rw [hd2, usersF] at hu
      have e8 : 8 - (f + 1) = d2 := by omega
      refine go_ ?_
      refine s_look (lk_ldv (hv := RT.st T p rfl (by omega))) ?_
      refine go_ ?_
      cases h3 : (T.st p == 1)
      · have h3' : ¬ T.st p = 1 := by simpa using h3
        rw [if_neg (fun c => h3' c.1)] at hu
        refine go_ ?_
        exact s_entF (by repeat (first | exact Ent.nil | refine Ent.per (by repeat (first | with_reducible exact Sel.here | with_reducible apply Sel.there)) ?_ | refine Ent.cons (by repeat (first | with_reducible exact Sel.here | with_reducible apply Sel.there)) ?_)) (s_keep _ (next2 (f + 1, k2) ⟨by dsimp only; omega, by dsimp only; omega, by dsimp only; rw [e8]; exact hu⟩ (by dsimp only; omega)))
      · have h3' : T.st p = 1 := by simpa using h3
        refine go_ ?_
        refine s_look (lk_ldv (hv := RT.fd T p f (by omega) (by omega) (by omega))) ?_
        refine go_ ?_
        refine s_ieq (fun h4 => ?_) (fun h4 => ?_)
        · rw [if_pos ⟨h3', h4⟩] at hu
          refine go_ ?_
          exact s_entF (by repeat (first | exact Ent.nil | refine Ent.per (by repeat (first | with_reducible exact Sel.here | with_reducible apply Sel.there)) ?_ | refine Ent.cons (by repeat (first | with_reducible exact Sel.here | with_reducible apply Sel.there)) ?_)) (s_keep _ (next2 (f + 1, k2 + 1) ⟨by dsimp only; omega, by dsimp only; omega, by dsimp only; rw [e8]; exact hu⟩ (by dsimp only; omega)))
        · rw [if_neg (fun c => h4 c.2)] at hu
          refine go_ ?_
          exact s_entF (by repeat (first | exact Ent.nil | refine Ent.per (by repeat (first | with_reducible exact Sel.here | with_reducible apply Sel.there)) ?_ | refine Ent.cons (by repeat (first | with_reducible exact Sel.here | with_reducible apply Sel.there)) ?_)) (s_keep _ (next2 (f + 1, k2) ⟨by dsimp only; omega, by dsimp only; omega, by dsimp only; rw [e8]; exact hu⟩ (by dsimp only; omega)))
    · have e0 : 8 - f = 0 := by omega
      rw [e0, usersF] at hu
      refine go_ ?_
      exact s_entF (by repeat (first | exact Ent.nil | refine Ent.per (by repeat (first | with_reducible exact Sel.here | with_reducible apply Sel.there)) ?_ | refine Ent.cons (by repeat (first | with_reducible exact Sel.here | with_reducible apply Sel.there)) ?_)) (s_keep _ (next (p + 1, k2) ⟨by dsimp only; omega, by dsimp only; omega, by dsimp only; rw [show 9 - (p + 1) = d by omega, hu]; exact he⟩ (by dsimp only; omega)))
  · have e0 : 9 - p = 0 := by omega
    rw [e0, usersP] at he
    refine go_ ?_
    exact s_ret1 (rs := [.tmp 4]) Try.func43 rfl (by intro j; refine RVS.tmp _ rfl ?_; exact RVS.nil) (⟨by rw [he], rfl⟩) (by repeat (first | exact Ent.nil | refine Ent.per (by repeat (first | with_reducible exact Sel.here | with_reducible apply Sel.there)) ?_ | refine Ent.cons (by repeat (first | with_reducible exact Sel.here | with_reducible apply Sel.there)) ?_))
theorem r_free {y : Nat} {T : Tb} (p : Nat) (hp : p < 9) : Ctr Try.prog 41 [.pointer (some ⟨y,0,none⟩), .int .i64 p] [Ref y T] (fun v Bs => v = .int .i64 (freeAt (T.fd p) 8 0) ∧ Bs = [Ref y T]) := by
  refine s_enter 21 [(0, _), (1, _)] (fun F => [_, F]) Try.func41 fun F => ?_
  refine go_ ?_
  refine s_loop (fun f : Nat => [(0, .pointer (some ⟨y, 0, none⟩)), (1, .int .i64 p), (5, .int .i64 f)]) (fun _ => [Ref y T, F])
    (fun f => f ≤ 8 ∧ freeAt (T.fd p) (8 - f) f = freeAt (T.fd p) 8 0) (fun f => 8 - f) 0 ⟨by omega, rfl⟩ (by repeat (first | exact Ent.nil | refine Ent.per (by repeat (first | with_reducible exact Sel.here | with_reducible apply Sel.there)) ?_ | refine Ent.cons (by repeat (first | with_reducible exact Sel.here | with_reducible apply Sel.there)) ?_)) ?_
  rintro f ⟨hf, he⟩ next
  refine go_ ?_
  refine s_if (fun h1 => ?_) (fun h1 => ?_)
  · obtain ⟨d, hd⟩ : ∃ d, 8 - f = d + 1 := ⟨7 - f, by omega⟩
    rw [hd, freeAt] at he
    refine go_ ?_
    refine s_look (lk_ldv (hv := RT.fd T p f (by omega) hp (by omega))) ?_
    refine go_ ?_
    refine s_ieq (fun h2 => ?_) (fun h2 => ?_)
    · rw [if_pos h2] at he
      refine go_ ?_
      exact s_ret1 (rs := [.tmp 4]) Try.func41 rfl (by intro j; refine RVS.tmp _ rfl ?_; exact RVS.nil) (⟨by rw [← he], rfl⟩) (by repeat (first | exact Ent.nil | refine Ent.per (by repeat (first | with_reducible exact Sel.here | with_reducible apply Sel.there)) ?_ | refine Ent.cons (by repeat (first | with_reducible exact Sel.here | with_reducible apply Sel.there)) ?_))
    · rw [if_neg h2] at he
      refine go_ ?_
      exact s_entF (by repeat (first | exact Ent.nil | refine Ent.per (by repeat (first | with_reducible exact Sel.here | with_reducible apply Sel.there)) ?_ | refine Ent.cons (by repeat (first | with_reducible exact Sel.here | with_reducible apply Sel.there)) ?_)) (s_keep _ (next (f + 1) ⟨by omega, by rw [show 8 - (f + 1) = d by omega]; exact he⟩ (by omega)))
  · have e0 : 8 - f = 0 := by omega
    rw [e0, freeAt] at he
    refine go_ ?_
    exact s_ret1 (rs := [.tmp 4]) Try.func41 rfl (by intro j; refine RVS.tmp _ rfl ?_; exact RVS.nil) (⟨by rw [← he], rfl⟩) (by repeat (first | exact Ent.nil | refine Ent.per (by repeat (first | with_reducible exact Sel.here | with_reducible apply Sel.there)) ?_ | refine Ent.cons (by repeat (first | with_reducible exact Sel.here | with_reducible apply Sel.there)) ?_))
set_option maxHeartbeats 1000000 in
theorem r_at {y : Nat} {T : Tb} (hb : T.Bd) (pid fd : Int) : Ctr Try.prog 42 [.pointer (some ⟨y,0,none⟩), .int .i64 pid, .int .i64 fd] [Ref y T]
    (fun v Bs => v = .tuple #[.int .i64 (if T.err pid fd = 0 then (T.no pid fd : Nat) else 0), .int .i64 (T.err pid fd)] ∧ Bs = [Ref y T]) := by
  refine s_enter 42 [(0, _), (1, _), (2, _)] (fun F => [_, F]) Try.func42 fun F => ?_
  refine go_ ?_
  refine s_call (sp := (by repeat (first | exact Split.nil | apply Split.perx (by repeat (first | with_reducible exact Sel.here | with_reducible apply Sel.there)) (by infer_instance) | apply Split.cons (by repeat (first | with_reducible exact Sel.here | with_reducible apply Sel.there))))) (hs := r_runs pid) (h := ?_)
  rintro v Bs ⟨rfl, rfl⟩
  refine go_ ?_
  cases hr : T.runs pid
  · refine go_ ?_
    exact s_rett (rs := [.tmp 6, .tmp 7]) (vs := [_, _]) Try.func42 rfl (by intro j; refine RVS.tmp _ rfl ?_; refine RVS.tmp _ rfl ?_; exact RVS.nil) rfl (⟨by simp [Tb.err, hr], rfl⟩) (by repeat (first | exact Ent.nil | refine Ent.per (by repeat (first | with_reducible exact Sel.here | with_reducible apply Sel.there)) ?_ | refine Ent.cons (by repeat (first | with_reducible exact Sel.here | with_reducible apply Sel.there)) ?_))
  have hp := runs_bd hr
  refine go_ ?_
  cases h1 : decide (fd < 0)
  rotate_left
  · refine go_ ?_
    exact s_rett (rs := [.tmp 6, .tmp 7]) (vs := [_, _]) Try.func42 rfl (by intro j; refine RVS.tmp _ rfl ?_; refine RVS.tmp _ rfl ?_; exact RVS.nil) rfl (⟨by simp at h1; simp [Tb.err, hr, h1], rfl⟩) (by repeat (first | exact Ent.nil | refine Ent.per (by repeat (first | with_reducible exact Sel.here | with_reducible apply Sel.there)) ?_ | refine Ent.cons (by repeat (first | with_reducible exact Sel.here | with_reducible apply Sel.there)) ?_))
  refine go_ ?_
  cases h2 : decide (fd > 7)
  rotate_left
  · refine go_ ?_
    exact s_rett (rs := [.tmp 6, .tmp 7]) (vs := [_, _]) Try.func42 rfl (by intro j; refine RVS.tmp _ rfl ?_; refine RVS.tmp _ rfl ?_; exact RVS.nil) rfl (⟨by simp at h2; rw [show T.err pid fd = 20 by unfold Tb.err; rw [hr, if_neg (by simp), if_pos (by omega)]]; rfl, rfl⟩) (by repeat (first | exact Ent.nil | refine Ent.per (by repeat (first | with_reducible exact Sel.here | with_reducible apply Sel.there)) ?_ | refine Ent.cons (by repeat (first | with_reducible exact Sel.here | with_reducible apply Sel.there)) ?_))
  simp only [decide_eq_false_iff_not] at h1 h2
  obtain ⟨p, rfl⟩ : ∃ p : Nat, pid = p := ⟨pid.toNat, by omega⟩
  obtain ⟨f, rfl⟩ : ∃ f : Nat, fd = f := ⟨fd.toNat, by omega⟩
  have hfd := hb.fd p f
  refine go_ ?_
  refine s_look (lk_ldv (hv := RT.fd T p f (by omega) (by omega) (by omega))) ?_
  refine go_ ?_
  refine s_ieq (fun h3 => ?_) (fun h3 => ?_)
  · refine go_ ?_
    exact s_rett (rs := [.tmp 6, .tmp 7]) (vs := [_, _]) Try.func42 rfl (by intro j; refine RVS.tmp _ rfl ?_; refine RVS.tmp _ rfl ?_; exact RVS.nil) rfl (⟨by rw [show T.err p f = 20 by unfold Tb.err; rw [hr, if_neg (by simp), if_neg (by omega), if_pos (by simpa using h3)]]; rfl, rfl⟩) (by repeat (first | exact Ent.nil | refine Ent.per (by repeat (first | with_reducible exact Sel.here | with_reducible apply Sel.there)) ?_ | refine Ent.cons (by repeat (first | with_reducible exact Sel.here | with_reducible apply Sel.there)) ?_))
  · refine go_ ?_
    refine s_look (lk_ldv (hv := RT.fd T p f (by omega) (by omega) (by omega))) ?_
    refine go_ ?_
    have he : T.err p f = 0 := by unfold Tb.err; rw [hr, if_neg (by simp), if_neg (by omega), if_neg (by simpa using h3)]
    exact s_rett (rs := [.tmp 6, .tmp 7]) (vs := [_, _]) Try.func42 rfl (by intro j; refine RVS.tmp _ rfl ?_; refine RVS.tmp _ rfl ?_; exact RVS.nil) rfl (⟨by rw [he, if_pos rfl]; simp [Tb.no]; omega, rfl⟩) (by repeat (first | exact Ent.nil | refine Ent.per (by repeat (first | with_reducible exact Sel.here | with_reducible apply Sel.there)) ?_ | refine Ent.cons (by repeat (first | with_reducible exact Sel.here | with_reducible apply Sel.there)) ?_))
end Go.Proofs.Ytimaipclgmcekaa
