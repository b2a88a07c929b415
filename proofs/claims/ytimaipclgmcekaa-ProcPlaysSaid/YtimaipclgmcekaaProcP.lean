/- The reference's calls, told by the program's table: what changes it. -/
import Derived.Test.YtimaipclgmcekaaProcQ
namespace Go.Proofs.Ytimaipclgmcekaa
open Go.Cam
set_option maxRecDepth 100000
theorem lk_ldtN {P : Program} {l : List (Nat × Value)} {As Bs : List HP} {d : Nat} {oty : TypeId} {pos : String} {af : Array Edge} {g : Option (Nat × Bool)} {t : TypeId} {x : Operand} {b off m k : Nat} {c : Nat → Value} {vs : Array Value} {ty : TypeId} {fr : Nat × Nat} [hag : AG P t true] [hs : SZ P t k] (hx : ∀ j, ev (mk l j) x = .pointer (some ⟨b, off, none⟩) := by intro j; rfl)
    (s : Sel (.own b (.cells (tab m c) ty fr)) As Bs := by repeat (first | with_reducible exact Sel.here | with_reducible apply Sel.there)) (hv : (tab m c).extract off (off + k) = vs) (hl : off + k ≤ m := by omega) :
    LookS P ⟨some d, .load t x, oty, pos, af, g⟩ l As (.agg vs) := lk_ldNv (m := m) hx s hv (tab_size _ _) hl
abbrev procL (s r c : Int) (g : Nat → Int) : List Value := [.int .i64 s, .int .i64 r, .int .i64 c, .int .i64 (g 0), .int .i64 (g 1), .int .i64 (g 2), .int .i64 (g 3), .int .i64 (g 4), .int .i64 (g 5), .int .i64 (g 6), .int .i64 (g 7)]
theorem put_proc (T : Tb) {o p : Nat} (s r c : Int) (g : Nat → Int) (h : o = p * 11) (hp : p < 9) : setL (tab 227 (RT.rcell T)) o (procL s r c g) = tab 227 (RT.rcell (T.setProc p s r c g)) := by
  subst h
  have hl : (procL s r c g).length = 11 := rfl
  refine setL_tab (RT.cases_ ?_ ?_ ?_ ?_ ?_ ?_)
  · intro q hq
    rw [RT.st (T.setProc p s r c g) q rfl hq]
    by_cases e : q = p
    · subst e; rw [if_pos (by omega), Nat.sub_self]; simp [Tb.setProc, Tb.setSt, Tb.setPar, Tb.setCode, Tb.setFds]
    · rw [if_neg (by omega), RT.st _ q rfl hq]; simp [Tb.setProc, Tb.setSt, Tb.setPar, Tb.setCode, Tb.setFds, e]
  · intro q hq
    rw [RT.par (T.setProc p s r c g) q rfl hq]
    by_cases e : q = p
    · subst e; rw [if_pos (by omega), Nat.add_sub_cancel_left]; simp [Tb.setProc, Tb.setSt, Tb.setPar, Tb.setCode, Tb.setFds]
    · rw [if_neg (by omega), RT.par _ q rfl hq]; simp [Tb.setProc, Tb.setSt, Tb.setPar, Tb.setCode, Tb.setFds, e]
  · intro q hq
    rw [RT.code (T.setProc p s r c g) q rfl hq]
    by_cases e : q = p
    · subst e; rw [if_pos (by omega), Nat.add_sub_cancel_left]; simp [Tb.setProc, Tb.setSt, Tb.setPar, Tb.setCode, Tb.setFds]
    · rw [if_neg (by omega), RT.code _ q rfl hq]; simp [Tb.setProc, Tb.setSt, Tb.setPar, Tb.setCode, Tb.setFds, e]
  · intro q f hq hf
    rw [RT.fd (T.setProc p s r c g) q f rfl hq hf]
    by_cases e : q = p
    · subst e; rw [if_pos (by omega), show q * 11 + 3 + f - q * 11 = f + 3 by omega]
      simp only [Tb.setProc, Tb.setSt, Tb.setPar, Tb.setCode, Tb.setFds, if_true]
      match f, hf with
      | 0, _ => rfl
      | 1, _ => rfl
      | 2, _ => rfl
      | 3, _ => rfl
      | 4, _ => rfl
      | 5, _ => rfl
      | 6, _ => rfl
      | 7, _ => rfl
    · rw [if_neg (by omega), RT.fd _ q f rfl hq hf]; simp [Tb.setProc, Tb.setSt, Tb.setPar, Tb.setCode, Tb.setFds, e]
  · intro n r' hn hr; rw [if_neg (by omega), RT.op _ n r' rfl hn hr, RT.op _ n r' rfl hn hr]; rfl
  · intro n hn; rw [if_neg (by omega), RT.is _ n rfl, RT.is _ n rfl]; rfl
theorem ext_fdsR (T : Tb) {o p : Nat} (h : o = p * 11 + 3) (hp : p < 9) : (tab 227 (RT.rcell T)).extract o (o + 8) = #[.int .i64 (T.fd p 0), .int .i64 (T.fd p 1), .int .i64 (T.fd p 2), .int .i64 (T.fd p 3), .int .i64 (T.fd p 4), .int .i64 (T.fd p 5), .int .i64 (T.fd p 6), .int .i64 (T.fd p 7)] := by
  subst h
  rw [extract_tab (by omega), tab_ext (g := fun i => .int .i64 (T.fd p i)) fun i hi => RT.fd T p i rfl hp hi]
  rfl
/-! the sum of a file's users -/
theorem usersF_eq (T : Tb) (n p : Nat) : ∀ d f k, T.st p = 1 → ((usersF T n p d f k : Nat) : Int) = k + (sumN (fun q => hit (T.fd p q) n) (f + d) - sumN (fun q => hit (T.fd p q) n) f)
  | 0, f, k, _ => by simp [usersF]
  | d + 1, f, k, h => by
    rw [usersF, usersF_eq T n p d (f + 1) _ h, show f + 1 + d = f + (d + 1) by omega, sumN]
    have : hit (T.fd p f) n = if T.fd p f = (n : Int) + 1 then 1 else 0 := rfl
    rw [this]
    by_cases c : T.fd p f = (n : Int) + 1
    · rw [if_pos ⟨h, c⟩, if_pos c]; omega
    · rw [if_neg (fun e => c e.2), if_neg c]; omega
theorem usersF_off (T : Tb) (n p : Nat) (h : T.st p ≠ 1) : ∀ d f k, usersF T n p d f k = k
  | 0, _, _ => rfl
  | d + 1, f, k => by rw [usersF, if_neg (fun e => h e.1)]; exact usersF_off T n p h d (f + 1) k
theorem usersP_eq (T : Tb) (n : Nat) (hz : ∀ p, T.st p ≠ 1 → ∀ f, f < 8 → T.fd p f = 0) : ∀ d p k, ((usersP T n d p k : Nat) : Int) = k + (sumN (fun q => row (T.fd q) n) (p + d) - sumN (fun q => row (T.fd q) n) p)
  | 0, p, k => by simp [usersP]
  | d + 1, p, k => by
    rw [usersP, usersP_eq T n hz d (p + 1), show p + 1 + d = p + (d + 1) by omega, sumN]
    by_cases h : T.st p = 1
    · rw [usersF_eq T n p 8 0 k h]
      have : row (T.fd p) n = sumN (fun q => hit (T.fd p q) n) (0 + 8) := rfl
      rw [this]
      have : sumN (fun q => hit (T.fd p q) n) 0 = 0 := rfl
      omega
    · rw [usersF_off T n p h, row_zero n fun f hf => hz p h f hf]; omega
theorem users_cnt (T : Tb) (n : Nat) (h0 : T.st 0 ≠ 1) (hz : ∀ p, T.st p ≠ 1 → ∀ f, f < 8 → T.fd p f = 0) : ((usersP T n 8 1 0 : Nat) : Int) = cnt T n := by
  rw [usersP_eq T n hz 8 1 0]
  show _ = sumN (fun p => row (T.fd p) n) (1 + 8)
  have : sumN (fun q => row (T.fd q) n) 1 = row (T.fd 0) n := by simp [sumN]
  rw [this, row_zero n fun f hf => hz 0 h0 f hf]; omega
set_option maxHeartbeats 2000000 in
theorem r_let {y : Nat} {T : Tb} (I : Inv T) (p f n : Nat) (hp : p < 9) (hf : f < 8) (hn : T.fd p f = (n : Int) + 1) (h16 : n < 16) : Ctr Try.prog 40 [.pointer (some ⟨y,0,none⟩), .int .i64 p, .int .i64 f] [Ref y T]
    (fun v Bs => v = .tuple #[.agg (T.op n).vals, .bool (!decide (T.us n - 1 > 0))] ∧ Bs = [Ref y (T.letT p f n)]) := by
  have hu := I.us0 n
  have hu1 := I.used hp hn
  have hcnt : ((usersP (T.setFd p f 0) n 8 1 0 : Nat) : Int) = T.us n - 1 := by
    rw [users_cnt (T.setFd p f 0) n (by show T.st 0 ≠ 1; rw [I.s0]; omega) (fun q hq g hg => by
      simp only [Tb.setFd]; split
      · rfl
      · exact I.z q hq g), cnt_fd T hp hf, hn, hit_zero, ← I.us n]
    unfold hit; rw [if_pos rfl]; omega
  refine s_enter 54 [(0, _), (1, _), (2, _)] (fun F => [_, F]) Try.func40 fun F => ?_
  refine s_seq (s_region ?_)
  refine s_alloc fun r6 => ?_
  refine go_ ?_
  refine s_look (lk_ldv (hv := RT.fd T p f (by omega) hp hf)) ?_
  rw [hn]
  refine go_ ?_
  rw [show (n : Int) + 1 - 1 = (n : Int) by omega]
  refine go_ ?_
  refine s_stt ?_
  rw [put_fd T (by omega) hp hf]
  refine go_ ?_
  refine s_look (lk_ldtN (hv := (ext_op (T.setFd p f 0) (n := n) (by omega) h16))) ?_
  refine s_alloc fun r9 => ?_
  refine s_stw ?_
  refine go_ ?_
  refine s_call (sp := (by repeat (first | exact Split.nil | apply Split.perx (by repeat (first | with_reducible exact Sel.here | with_reducible apply Sel.there)) (by infer_instance) | apply Split.cons (by repeat (first | with_reducible exact Sel.here | with_reducible apply Sel.there))))) (hs := r_users n h16) (h := ?_)
  rintro v Bs ⟨rfl, rfl⟩
  rw [hcnt]
  refine go_ ?_
  refine s_ieq (fun h1 => ?_) (fun h1 => ?_)
  · have e1 : T.letT p f n = (((T.setFd p f 0).setUs n (T.us n - 1)).setOp n Opn.zero).setUs n 0 := by unfold Tb.letT; rw [if_neg (by omega)]
    refine go_ ?_
    refine s_stt ?_
    rw [put_is (T.setFd p f 0) (n := n) (u := 0) (by omega) h16 (by simp)]
    refine go_ ?_
    refine s_sttN (hv := put_op ((T.setFd p f 0).setUs n 0) (n := n) Opn.zero (by omega) h16) (h := ?_)
    refine go_ ?_
    refine s_stw ?_
    refine go_ ?_
    have e2 : Ref y (((T.setFd p f 0).setUs n 0).setOp n Opn.zero) = Ref y (T.letT p f n) := by
      rw [e1]
      refine Ref.ext (fun _ => rfl) (fun _ => rfl) (fun _ => rfl) (fun _ _ => rfl) (fun _ => rfl) fun m => ?_
      simp only [Tb.setUs, Tb.setOp]
      by_cases c : m = n <;> simp [c]
    exact s_rett (rs := [.cell 6 41, .tmp 7]) (vs := [_, _]) Try.func40 rfl (by intro j; refine RVS.cell _ _ rfl (by repeat (first | with_reducible exact Sel.here | with_reducible apply Sel.there)) (by rfl) ?_; refine RVS.tmp _ rfl ?_; exact RVS.nil) rfl (⟨by rw [h1]; simp; rfl, congrArg (fun a => [a]) e2⟩) (by repeat (first | exact Ent.nil | refine Ent.per (by repeat (first | with_reducible exact Sel.here | with_reducible apply Sel.there)) ?_ | refine Ent.cons (by repeat (first | with_reducible exact Sel.here | with_reducible apply Sel.there)) ?_))
  · have e1 : T.letT p f n = (T.setFd p f 0).setUs n (T.us n - 1) := by unfold Tb.letT; rw [if_pos (by omega)]
    refine go_ ?_
    refine s_stw ?_
    refine go_ ?_
    have e2 : Ref y (T.setFd p f 0) = Ref y (T.letT p f n) := by
      rw [e1]
      refine Ref.ext (fun _ => rfl) (fun _ => rfl) (fun _ => rfl) (fun _ _ => rfl) (fun _ => rfl) fun m => ?_
      show T.us m > 0 ↔ (if m = n then T.us n - 1 else T.us m) > 0
      by_cases c : m = n
      · subst c; rw [if_pos rfl]; omega
      · rw [if_neg c]
    exact s_rett (rs := [.cell 6 41, .tmp 7]) (vs := [_, _]) Try.func40 rfl (by intro j; refine RVS.cell _ _ rfl (by repeat (first | with_reducible exact Sel.here | with_reducible apply Sel.there)) (by rfl) ?_; refine RVS.tmp _ rfl ?_; exact RVS.nil) rfl (⟨by rw [show decide (T.us n - 1 > 0) = true from decide_eq_true (by omega)]; simp [h1]; rfl, congrArg (fun a => [a]) e2⟩) (by repeat (first | exact Ent.nil | refine Ent.per (by repeat (first | with_reducible exact Sel.here | with_reducible apply Sel.there)) ?_ | refine Ent.cons (by repeat (first | with_reducible exact Sel.here | with_reducible apply Sel.there)) ?_))
theorem Tb.zero_r : RT.rcell Tb.zero = fun o => if o < 99 then .int .i64 0 else if o < 211 then (if (o - 99) % 7 = 1 then .string ByteArray.empty else if (o - 99) % 7 = 6 then .bool false else .int .i64 0) else .bool false := by
  funext o
  unfold RT.rcell Tb.cell Tb.zero Opn.zero Opn.cell
  by_cases h : o < 99
  · rw [if_pos h, if_pos h, if_pos h]; repeat (first | rfl | split)
  · rw [if_neg h, if_neg h]
    by_cases h2 : o < 211
    · rw [if_pos h2, if_pos h2]
      have := Nat.mod_lt (o - 99) (show 0 < 7 by omega)
      generalize (o - 99) % 7 = r at *
      match r, this with
      | 0, _ => rfl
      | 1, _ => rfl
      | 2, _ => rfl
      | 3, _ => rfl
      | 4, _ => rfl
      | 5, _ => rfl
      | 6, _ => rfl
    · rw [if_neg h2, if_neg h2]; rfl
instance : BD Try.prog 82 (tab 227 (RT.rcell Tb.zero)) [(0, 99), (99, 112), (211, 16)] := ⟨_, _, (by kernel_rfl : _ = some (.agg (tab 227 (RT.rcell Tb.zero)))), rfl, F2.Try.und81, by kernel_rfl⟩
theorem r_new : Ctr Try.prog 20 [] [] (fun v Bs => ∃ y, v = .pointer (some ⟨y, 0, none⟩) ∧ Bs = [Ref y S0]) := by
  refine s_enter 10 [] (fun F => [F]) Try.func20 fun F => ?_
  refine go_ ?_
  refine s_new (.cells (tab 227 (RT.rcell Tb.zero)) 82 (0, 0)) (fun y => ?_) (hx := fun _ => by kernel_rfl)
  refine go_ ?_
  refine s_keep [(1, .pointer (some ⟨y, 0, none⟩)), (8, .pointer (some ⟨y, 11, none⟩))] ?_ (hl := fun _ => ⟨rfl, by kernel_rfl, trivial⟩)
  refine s_stt ?_
  rw [put_st Tb.zero (p := 1) (by omega) (by omega)]
  refine go_ ?_
  exact s_ret1 (rs := [.tmp 0]) Try.func20 rfl (by intro j; refine RVS.tmp _ rfl ?_; exact RVS.nil) (⟨_, rfl, (show [Ref y (Tb.zero.setSt 1 1)] = [Ref y S0] from rfl)⟩) (by repeat (first | exact Ent.nil | refine Ent.per (by repeat (first | with_reducible exact Sel.here | with_reducible apply Sel.there)) ?_ | refine Ent.cons (by repeat (first | with_reducible exact Sel.here | with_reducible apply Sel.there)) ?_))
theorem r_get {y : Nat} {T : Tb} (hb : T.Bd) (pid fd : Int) : Ctr Try.prog 39 [.pointer (some ⟨y,0,none⟩), .int .i64 pid, .int .i64 fd] [Ref y T]
    (fun v Bs => v = .tuple #[.agg (if T.err pid fd = 0 then (T.op (T.no pid fd)).vals else Opn.zero.vals), .int .i64 (T.err pid fd)] ∧ Bs = [Ref y T]) := by
  refine s_enter 27 [(0, _), (1, _), (2, _)] (fun F => [_, F]) Try.func39 fun F => ?_
  refine s_seq (s_region ?_)
  refine s_alloc fun r6 => ?_
  refine go_ ?_
  refine s_call (sp := (by repeat (first | exact Split.nil | apply Split.perx (by repeat (first | with_reducible exact Sel.here | with_reducible apply Sel.there)) (by infer_instance) | apply Split.cons (by repeat (first | with_reducible exact Sel.here | with_reducible apply Sel.there))))) (hs := r_at hb pid fd) (h := ?_)
  rintro v Bs ⟨rfl, rfl⟩
  refine go_ ?_
  by_cases he : T.err pid fd = 0
  · obtain ⟨hr, hf, hn, h16⟩ := err0 he hb
    rw [show (if T.err pid fd = 0 then ((T.no pid fd : Nat) : Int) else 0) = (T.no pid fd : Nat) from if_pos he, show (T.err pid fd != 0) = false by simpa using he]
    refine go_ ?_
    refine s_look (lk_ldtN (hv := (ext_op T (n := T.no pid fd) (by omega) h16))) ?_
    refine s_stw ?_
    refine go_ ?_
    exact s_rett (rs := [.cell 6 41, .tmp 7]) (vs := [_, _]) Try.func39 rfl (by intro j; refine RVS.cell _ _ rfl (by repeat (first | with_reducible exact Sel.here | with_reducible apply Sel.there)) (by rfl) ?_; refine RVS.tmp _ rfl ?_; exact RVS.nil) rfl (⟨by rw [if_pos he, he], rfl⟩) (by repeat (first | exact Ent.nil | refine Ent.per (by repeat (first | with_reducible exact Sel.here | with_reducible apply Sel.there)) ?_ | refine Ent.cons (by repeat (first | with_reducible exact Sel.here | with_reducible apply Sel.there)) ?_))
  · rw [show (T.err pid fd != 0) = true by simpa using he]
    refine go_ ?_
    exact s_rett (rs := [.cell 6 41, .tmp 7]) (vs := [_, _]) Try.func39 rfl (by intro j; refine RVS.cell _ _ rfl (by repeat (first | with_reducible exact Sel.here | with_reducible apply Sel.there)) (by rfl) ?_; refine RVS.tmp _ rfl ?_; exact RVS.nil) rfl (⟨by rw [if_neg he]; rfl, rfl⟩) (by repeat (first | exact Ent.nil | refine Ent.per (by repeat (first | with_reducible exact Sel.here | with_reducible apply Sel.there)) ?_ | refine Ent.cons (by repeat (first | with_reducible exact Sel.here | with_reducible apply Sel.there)) ?_))
theorem r_set {y : Nat} {T : Tb} (hb : T.Bd) (pid fd : Int) (x : Opn) : Ctr Try.prog 35 [.pointer (some ⟨y,0,none⟩), .int .i64 pid, .int .i64 fd, .agg x.vals] [Ref y T]
    (fun v Bs => v = .int .i64 (T.err pid fd) ∧ Bs = [Ref y (if T.err pid fd = 0 then T.setOp (T.no pid fd) x else T)]) := by
  refine s_enter 27 [(0, _), (1, _), (2, _), (3, _)] (fun F => [_, F]) Try.func35 fun F => ?_
  refine s_seq (s_region ?_)
  refine s_box (c := x.vals.toList) (hc := ⟨rfl, rfl⟩) fun r7 => ?_
  refine go_ ?_
  refine s_call (sp := (by repeat (first | exact Split.nil | apply Split.perx (by repeat (first | with_reducible exact Sel.here | with_reducible apply Sel.there)) (by infer_instance) | apply Split.cons (by repeat (first | with_reducible exact Sel.here | with_reducible apply Sel.there))))) (hs := r_at hb pid fd) (h := ?_)
  rintro v Bs ⟨rfl, rfl⟩
  refine go_ ?_
  by_cases he : T.err pid fd = 0
  · obtain ⟨hr, hf, hn, h16⟩ := err0 he hb
    rw [show (if T.err pid fd = 0 then ((T.no pid fd : Nat) : Int) else 0) = (T.no pid fd : Nat) from if_pos he, show (T.err pid fd == 0) = true by simpa using he]
    refine go_ ?_
    refine s_drawN 1 [(true, 0), (true, 1), (true, 2), (true, 3), (true, 4), (true, 5), (false, 6)] ?_
    refine do_ ?_
    refine d_stepU rfl (st_sttN (vs := x.vals.toList) (hv := put_op T (n := T.no pid fd) x (by omega) h16)) ?_
    rintro _ _ rfl
    refine do_ ?_
    refine go_ ?_
    exact s_ret1 (rs := [.tmp 8]) Try.func35 rfl (by intro j; refine RVS.tmp _ rfl ?_; exact RVS.nil) (⟨rfl, congrArg (fun a => [Ref y a]) (if_pos he).symm⟩) (by repeat (first | exact Ent.nil | refine Ent.per (by repeat (first | with_reducible exact Sel.here | with_reducible apply Sel.there)) ?_ | refine Ent.cons (by repeat (first | with_reducible exact Sel.here | with_reducible apply Sel.there)) ?_))
  · rw [if_neg he, show (T.err pid fd == 0) = false by simpa using he]
    refine go_ ?_
    exact s_ret1 (rs := [.tmp 8]) Try.func35 rfl (by intro j; refine RVS.tmp _ rfl ?_; exact RVS.nil) (⟨rfl, rfl⟩) (by repeat (first | exact Ent.nil | refine Ent.per (by repeat (first | with_reducible exact Sel.here | with_reducible apply Sel.there)) ?_ | refine Ent.cons (by repeat (first | with_reducible exact Sel.here | with_reducible apply Sel.there)) ?_))
end Go.Proofs.Ytimaipclgmcekaa
