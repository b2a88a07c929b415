/- Exit. -/
import Derived.Test.YtimaipclgmcekaaProcF
namespace Go.Proofs.Ytimaipclgmcekaa
open Go.Cam
set_option maxRecDepth 100000
theorem exit_no {H M : Heap} {b : Nat} {T : Tb} (hT : M b = some T.obj) (pid code : Int) (hr : T.runs pid = false) :
    ACalls Try.prog 11 #[.pointer (some ⟨b,0,none⟩), .int .i64 pid, .int .i64 code] H M (fun v H' M' => v = .tuple #[.slice none 0 0, .int .i64 25] ∧ H' = H ∧ M' = M) := by
  refine enter (args := [_, _, _]) Try.func11 rfl rfl (by show (3 : Nat) ≤ 86; decide) ?_
  (repeat (first | first | refine run_zfa rfl (fun _ => by rfl) (fun _ => by rfl) ?_ | refine run_faz rfl (fun _ => by rfl) (fun _ => by rfl) ?_ | refine run_fa rfl (fun _ => by rfl) (fun _ => by rfl) ?_ | refine run_p (fun _ => rfl) rfl ?_ | refine run_n rfl (fun _ => rfl) ?_ | refine run_y (fun _ => rfl) rfl (fun _ => rfl) ?_ | refine run_seq ?_ | refine run_region ?_ | refine run_ops_nil ?_ | refine run_block ?_ | refine run_skip ?_ | refine run_inBlock ?_ | refine run_exit rfl ?_))
  refine run_call rfl (fun _ => by rfl) (fun _ => by kernel_rfl) (at_no hT pid hr) ?_
  rintro v H' M' ⟨rfl, rfl, rfl⟩
  (repeat (first | first | refine run_zfa rfl (fun _ => by rfl) (fun _ => by rfl) ?_ | refine run_faz rfl (fun _ => by rfl) (fun _ => by rfl) ?_ | refine run_fa rfl (fun _ => by rfl) (fun _ => by rfl) ?_ | refine run_p (fun _ => rfl) rfl ?_ | refine run_n rfl (fun _ => rfl) ?_ | refine run_y (fun _ => rfl) rfl (fun _ => rfl) ?_ | refine run_seq ?_ | refine run_region ?_ | refine run_ops_nil ?_ | refine run_block ?_ | refine run_skip ?_ | refine run_inBlock ?_ | refine run_exit rfl ?_))
  refine run_cond _ (fun _ => by rfl) (fun hc => ?_) (fun hc => ?_)
  · (repeat (first | first | refine run_zfa rfl (fun _ => by rfl) (fun _ => by rfl) ?_ | refine run_faz rfl (fun _ => by rfl) (fun _ => by rfl) ?_ | refine run_fa rfl (fun _ => by rfl) (fun _ => by rfl) ?_ | refine run_p (fun _ => rfl) rfl ?_ | refine run_n rfl (fun _ => rfl) ?_ | refine run_y (fun _ => rfl) rfl (fun _ => rfl) ?_ | refine run_seq ?_ | refine run_region ?_ | refine run_ops_nil ?_ | refine run_block ?_ | refine run_skip ?_ | refine run_inBlock ?_ | refine run_exit rfl ?_))
    exact run_retc Try.func11 (fun _ => by kernel_rfl) (⟨rfl, rfl, rfl⟩)
  · cases hc
theorem exit_one {H M : Heap} {b : Nat} {T : Tb} (hT : M b = some T.obj) (code : Int) (hr : T.runs 1 = true) :
    ACalls Try.prog 11 #[.pointer (some ⟨b,0,none⟩), .int .i64 1, .int .i64 code] H M (fun v H' M' => v = .tuple #[.slice none 0 0, .int .i64 1] ∧ H' = H ∧ M' = M) := by
  refine enter (args := [_, _, _]) Try.func11 rfl rfl (by show (3 : Nat) ≤ 86; decide) ?_
  (repeat (first | first | refine run_zfa rfl (fun _ => by rfl) (fun _ => by rfl) ?_ | refine run_faz rfl (fun _ => by rfl) (fun _ => by rfl) ?_ | refine run_fa rfl (fun _ => by rfl) (fun _ => by rfl) ?_ | refine run_p (fun _ => rfl) rfl ?_ | refine run_n rfl (fun _ => rfl) ?_ | refine run_y (fun _ => rfl) rfl (fun _ => rfl) ?_ | refine run_seq ?_ | refine run_region ?_ | refine run_ops_nil ?_ | refine run_block ?_ | refine run_skip ?_ | refine run_inBlock ?_ | refine run_exit rfl ?_))
  refine run_call rfl (fun _ => by rfl) (fun _ => by kernel_rfl) (at_yes hT 1 hr) ?_
  rintro v H' M' ⟨rfl, rfl, rfl⟩
  (repeat (first | first | refine run_zfa rfl (fun _ => by rfl) (fun _ => by rfl) ?_ | refine run_faz rfl (fun _ => by rfl) (fun _ => by rfl) ?_ | refine run_fa rfl (fun _ => by rfl) (fun _ => by rfl) ?_ | refine run_p (fun _ => rfl) rfl ?_ | refine run_n rfl (fun _ => rfl) ?_ | refine run_y (fun _ => rfl) rfl (fun _ => rfl) ?_ | refine run_seq ?_ | refine run_region ?_ | refine run_ops_nil ?_ | refine run_block ?_ | refine run_skip ?_ | refine run_inBlock ?_ | refine run_exit rfl ?_))
  refine run_cond _ (fun _ => by rfl) (fun hc => ?_) (fun hc => ?_)
  · cases hc
  (repeat (first | first | refine run_zfa rfl (fun _ => by rfl) (fun _ => by rfl) ?_ | refine run_faz rfl (fun _ => by rfl) (fun _ => by rfl) ?_ | refine run_fa rfl (fun _ => by rfl) (fun _ => by rfl) ?_ | refine run_p (fun _ => rfl) rfl ?_ | refine run_n rfl (fun _ => rfl) ?_ | refine run_y (fun _ => rfl) rfl (fun _ => rfl) ?_ | refine run_seq ?_ | refine run_region ?_ | refine run_ops_nil ?_ | refine run_block ?_ | refine run_skip ?_ | refine run_inBlock ?_ | refine run_exit rfl ?_))
  refine run_cond _ (fun _ => by rfl) (fun hc2 => ?_) (fun hc2 => ?_)
  · (repeat (first | first | refine run_zfa rfl (fun _ => by rfl) (fun _ => by rfl) ?_ | refine run_faz rfl (fun _ => by rfl) (fun _ => by rfl) ?_ | refine run_fa rfl (fun _ => by rfl) (fun _ => by rfl) ?_ | refine run_p (fun _ => rfl) rfl ?_ | refine run_n rfl (fun _ => rfl) ?_ | refine run_y (fun _ => rfl) rfl (fun _ => rfl) ?_ | refine run_seq ?_ | refine run_region ?_ | refine run_ops_nil ?_ | refine run_block ?_ | refine run_skip ?_ | refine run_inBlock ?_ | refine run_exit rfl ?_))
    exact run_retc Try.func11 (fun _ => by kernel_rfl) (⟨rfl, rfl, rfl⟩)
  · cases hc2
def flat (xs : List Opn) : List Value := xs.flatMap fun x => x.vals.toList
theorem flat_len (xs : List Opn) : (flat xs).length = xs.length * 7 := by
  induction xs with
  | nil => rfl
  | cons x r ih =>
    have : flat (x :: r) = x.vals.toList ++ flat r := rfl
    rw [this, List.length_append, ih, List.length_cons, Nat.add_mul]
    show 7 + _ = _
    omega
theorem flat_snoc (xs : List Opn) (x : Opn) : flat (xs ++ [x]) = flat xs ++ x.vals.toList := by
  simp [flat]
def exitL (p : Nat) (g : Nat → Int) : Nat → Nat → Tb → List Opn → Tb × List Opn
  | 0, _, T, xs => (T, xs)
  | d + 1, f, T, xs => if g f = 0 then exitL p g d (f + 1) T xs
    else exitL p g d (f + 1) (T.letT p f (g f - 1).toNat) (if T.us (g f - 1).toNat - 1 > 0 then xs else xs ++ [T.op (g f - 1).toNat])
def reparent (pid : Int) : Nat → Nat → Tb → Tb
  | 0, _, T => T
  | d + 1, i, T => reparent pid d (i + 1) (if T.st i ≠ 0 ∧ T.par i = pid then T.setPar i 1 else T)
def _root_.Go.Cam.Tb.exitT (T : Tb) (pid code : Int) : Tb :=
  ((reparent pid 9 0 (exitL pid.toNat (T.fd pid.toNat) 8 0 T []).1).setSt pid.toNat 2).setCode pid.toNat code
def _root_.Go.Cam.Tb.gone (T : Tb) (pid : Int) : List Opn := (exitL pid.toNat (T.fd pid.toNat) 8 0 T []).2
theorem letT_fd (T : Tb) (p f n q g : Nat) (h : g ≠ f) : (T.letT p f n).fd q g = T.fd q g := by
  unfold Tb.letT
  split <;> simp [Tb.setFd, Tb.setUs, Tb.setOp, h]
theorem letT_us (T : Tb) (p f n : Nat) (lo hi : Int) (h : ∀ m, lo ≤ T.us m ∧ T.us m ≤ hi) (hlo : lo ≤ 0) (hhi : 0 ≤ hi) (m : Nat) : lo - 1 ≤ (T.letT p f n).us m ∧ (T.letT p f n).us m ≤ hi := by
  have h1 := h m
  have h2 := h n
  unfold Tb.letT
  split <;> simp only [Tb.setFd, Tb.setUs, Tb.setOp] <;> repeat (first | omega | split)
/-- a slice of one's own that is new, and none of the blocks that stand for something -/
def Mine (M0 : Heap) (b : Nat) (M : Heap) (v : Value) (xs : List Value) : Prop := Own M 41 7 v xs ∧ ∀ c, ob v = some c → c ≠ b ∧ ∀ o, M0 c ≠ some o
theorem Mine.ch {M0 M M' : Heap} {b : Nat} {v : Value} {xs : List Value} (h : Mine M0 b M v xs) (hc : Ch [b] M M') : Mine M0 b M' v xs :=
  ⟨h.1.frame fun c o hv ho => hc c o (fun e => (h.2 c hv).1 (List.mem_singleton.1 e)) ho, h.2⟩
theorem Mine.new {M0 M M' : Heap} {b r : Nat} {v : Value} {xs : List Value} (h : Mine M0 b M v xs) (hc : New M r M') : Mine M0 b M' v xs :=
  ⟨h.1.frame fun c o _ ho => (hc c o ho).1, h.2⟩
theorem Own.has {M : Heap} {e sz c : Nat} {v : Value} {xs : List Value} (h : Own M e sz v xs) (hc : ob v = some c) : ∃ cs, M c = some (.cells cs e (0, 0)) := by
  rcases h with ⟨rfl, _⟩ | ⟨b, len, cap, cs, rfl, _, _, _, hm, _⟩
  · simp [ob] at hc
  · simp [ob] at hc; subst hc; exact ⟨cs, hm⟩
theorem Mine.ne {M0 M M' : Heap} {b r : Nat} {v : Value} {xs : List Value} (h : Mine M0 b M v xs) (hc : New M r M') : ob v ≠ some r := fun e => by
  obtain ⟨cs, hm⟩ := Own.has h.1 e
  exact (hc _ _ hm).2 rfl
theorem Mine.put {M0 M M' : Heap} {b r : Nat} {v : Value} {xs : List Value} (h : Mine M0 b M v xs) (hc : Put M r M') (hne : ob v ≠ some r) : Mine M0 b M' v xs :=
  ⟨h.1.frame fun c o hv ho => hc c o (fun e => hne (e ▸ hv)) ho, h.2⟩
theorem Mine.app {M0 M M' : Heap} {b : Nat} {v v' : Value} {xs ys : List Value} (h : Mine M0 b M v xs) (hch : Ch [b] M0 M) (hb : ∃ o, M b = some o) (ho : Own M' 41 7 v' ys) (ha : App M v M' v') : Mine M0 b M' v' ys ∧ Ch [b] M0 M' ∧ ∀ o, M b = some o → M' b = some o := by
  obtain ⟨ob1, hb1⟩ := hb
  have hvb : ob v ≠ some b := fun e => (h.2 b e).1 rfl
  refine ⟨⟨ho, fun c hc => ⟨fun e => ?_, fun o hm => ?_⟩⟩, fun c o hc hm => ?_, fun o hm => (ha b o hvb hm).1⟩
  · subst e; exact (ha c ob1 hvb hb1).2 hc
  · have hcb : c ≠ b := fun e => by subst e; exact (ha c ob1 hvb hb1).2 hc
    have h1 := hch c o (fun e => hcb (List.mem_singleton.1 e)) hm
    have hvc : ob v ≠ some c := fun e => (h.2 c e).2 o hm
    exact (ha c o hvc h1).2 hc
  · have hvc : ob v ≠ some c := fun e => (h.2 c e).2 o hm
    exact (ha c o hvc (hch c o hc hm)).1
set_option maxHeartbeats 4000000 in
theorem exit_ok {H M : Heap} {b : Nat} {T : Tb} (hT : M b = some T.obj) (pid code : Int) (hr : T.runs pid = true) (h1 : pid ≠ 1) (hb : T.Bd) :
    ACalls Try.prog 11 #[.pointer (some ⟨b,0,none⟩), .int .i64 pid, .int .i64 code] H M
      (fun v H' M' => ∃ u, v = .tuple #[u, .int .i64 0] ∧ H' = H ∧ Mine M b M' u (flat (T.gone pid)) ∧ M' b = some (T.exitT pid code).obj ∧ Ch [b] M M') := by
  have hp := runs_bd hr
  have hne : (pid == 1) = false := by simpa using h1
  generalize hex : exitL pid.toNat (T.fd pid.toNat) 8 0 T [] = ex
  have hgone : T.gone pid = ex.2 := by rw [← hex]; rfl
  have hexT : T.exitT pid code = ((reparent pid 9 0 ex.1).setSt pid.toNat 2).setCode pid.toNat code := by rw [← hex]; rfl
  rw [hgone, hexT]
  refine enter (args := [_, _, _]) Try.func11 rfl rfl (by show (3 : Nat) ≤ 86; decide) ?_
  (repeat (first | first | refine run_zfa rfl (fun _ => by rfl) (fun _ => by rfl) ?_ | refine run_faz rfl (fun _ => by rfl) (fun _ => by rfl) ?_ | refine run_fa rfl (fun _ => by rfl) (fun _ => by rfl) ?_ | refine run_p (fun _ => rfl) rfl ?_ | refine run_n rfl (fun _ => rfl) ?_ | refine run_y (fun _ => rfl) rfl (fun _ => rfl) ?_ | refine run_seq ?_ | refine run_region ?_ | refine run_ops_nil ?_ | refine run_block ?_ | refine run_skip ?_ | refine run_inBlock ?_ | refine run_exit rfl ?_))
  refine run_call rfl (fun _ => by rfl) (fun _ => by kernel_rfl) (at_yes hT pid hr) ?_
  rintro v H' M' ⟨rfl, rfl, rfl⟩
  (repeat (first | first | refine run_zfa rfl (fun _ => by rfl) (fun _ => by rfl) ?_ | refine run_faz rfl (fun _ => by rfl) (fun _ => by rfl) ?_ | refine run_fa rfl (fun _ => by rfl) (fun _ => by rfl) ?_ | refine run_p (fun _ => rfl) rfl ?_ | refine run_n rfl (fun _ => rfl) ?_ | refine run_y (fun _ => rfl) rfl (fun _ => rfl) ?_ | refine run_seq ?_ | refine run_region ?_ | refine run_ops_nil ?_ | refine run_block ?_ | refine run_skip ?_ | refine run_inBlock ?_ | refine run_exit rfl ?_))
  refine run_cond _ (fun _ => by rfl) (fun hc => ?_) (fun hc => ?_)
  · cases hc
  (repeat (first | first | refine run_zfa rfl (fun _ => by rfl) (fun _ => by rfl) ?_ | refine run_faz rfl (fun _ => by rfl) (fun _ => by rfl) ?_ | refine run_fa rfl (fun _ => by rfl) (fun _ => by rfl) ?_ | refine run_p (fun _ => rfl) rfl ?_ | refine run_n rfl (fun _ => rfl) ?_ | refine run_y (fun _ => rfl) rfl (fun _ => rfl) ?_ | refine run_seq ?_ | refine run_region ?_ | refine run_ops_nil ?_ | refine run_block ?_ | refine run_skip ?_ | refine run_inBlock ?_ | refine run_exit rfl ?_))
  rw [hne]
  refine run_cond _ (fun _ => by rfl) (fun hc2 => ?_) (fun hc2 => ?_)
  · cases hc2
  (repeat (first | first | refine run_zfa rfl (fun _ => by rfl) (fun _ => by rfl) ?_ | refine run_faz rfl (fun _ => by rfl) (fun _ => by rfl) ?_ | refine run_fa rfl (fun _ => by rfl) (fun _ => by rfl) ?_ | refine run_p (fun _ => rfl) rfl ?_ | refine run_n rfl (fun _ => rfl) ?_ | refine run_y (fun _ => rfl) rfl (fun _ => rfl) ?_ | refine run_seq ?_ | refine run_region ?_ | refine run_ops_nil ?_ | refine run_block ?_ | refine run_skip ?_ | refine run_inBlock ?_ | refine run_exit rfl ?_))
  refine run_ldN _ _ _ (tab 8 (fun k => .int .i64 (T.fd pid.toNat k))) rfl (fun _ => by rfl) (fun _ => by rfl) (.inl (hT)) (by first | (rw [tab_size]; omega) | (simp; done) | decide | exact Nat.le_of_ble_eq_true rfl) (by exact T.ext_fds pid.toNat (by omega) (by omega)) ?_
  (repeat (first | first | refine run_zfa rfl (fun _ => by rfl) (fun _ => by rfl) ?_ | refine run_faz rfl (fun _ => by rfl) (fun _ => by rfl) ?_ | refine run_fa rfl (fun _ => by rfl) (fun _ => by rfl) ?_ | refine run_p (fun _ => rfl) rfl ?_ | refine run_n rfl (fun _ => rfl) ?_ | refine run_y (fun _ => rfl) rfl (fun _ => rfl) ?_ | refine run_seq ?_ | refine run_region ?_ | refine run_ops_nil ?_ | refine run_block ?_ | refine run_skip ?_ | refine run_inBlock ?_ | refine run_exit rfl ?_))
  refine run_loopI (fun x : Nat × Tb × List Opn × Value => [(0, .pointer (some ⟨b, 0, none⟩)), (1, .int .i64 pid), (2, .int .i64 code), (8, .pointer (some ⟨b, pid.toNat * 11, none⟩)), (10, x.2.2.2), (33, .agg (tab 8 (fun k => .int .i64 (T.fd pid.toNat k)))), (34, .int .i64 x.1)])
    (fun x H1 M1 => x.1 ≤ 8 ∧ exitL pid.toNat (T.fd pid.toNat) (8 - x.1) x.1 x.2.1 x.2.2.1 = ex ∧ (∀ f, x.1 ≤ f → x.2.1.fd pid.toNat f = T.fd pid.toNat f) ∧ (∀ m, -1000 - x.1 ≤ x.2.1.us m ∧ x.2.1.us m ≤ 1000) ∧ x.2.2.1.length ≤ x.1
      ∧ H1 = H' ∧ M1 b = some x.2.1.obj ∧ Ch [b] M' M1 ∧ Mine M' b M1 x.2.2.2 (flat x.2.2.1)) (fun x => 8 - x.1) (0, T, [], .slice none 0 0) (by intro j; repeat (first | exact trivial | refine ⟨rfl, ?_⟩))
    ⟨by omega, hex, fun _ _ => rfl, fun m => by have := hb.us m; dsimp only; omega, Nat.le_refl _, rfl, hT, Ch.refl _ _, .inl ⟨rfl, rfl⟩, fun c hc => by simp [ob] at hc⟩ ?_
  clear hT
  rintro ⟨f, T2, xs, u⟩ H1 M1 ⟨hf, hexl, hfd, hus, hxs, rfl, hT, hch, hm⟩ next
  dsimp only at hf hexl hfd hus hT hm hxs
  (repeat (first | first | refine run_zfa rfl (fun _ => by rfl) (fun _ => by rfl) ?_ | refine run_faz rfl (fun _ => by rfl) (fun _ => by rfl) ?_ | refine run_fa rfl (fun _ => by rfl) (fun _ => by rfl) ?_ | refine run_p (fun _ => rfl) rfl ?_ | refine run_n rfl (fun _ => rfl) ?_ | refine run_y (fun _ => rfl) rfl (fun _ => rfl) ?_ | refine run_seq ?_ | refine run_region ?_ | refine run_ops_nil ?_ | refine run_block ?_ | refine run_skip ?_ | refine run_inBlock ?_ | refine run_exit rfl ?_))
  refine run_if (fun _ => by rfl) (fun hc3 => ?_) (fun hc3 => ?_)
  · obtain ⟨d, hd⟩ : ∃ d, 8 - f = d + 1 := ⟨7 - f, by omega⟩
    rw [hd, exitL] at hexl
    have hbf := hb.fd pid.toNat f
    (repeat (first | first | refine run_zfa rfl (fun _ => by rfl) (fun _ => by rfl) ?_ | refine run_faz rfl (fun _ => by rfl) (fun _ => by rfl) ?_ | refine run_fa rfl (fun _ => by rfl) (fun _ => by rfl) ?_ | refine run_p (fun _ => rfl) rfl ?_ | refine run_n rfl (fun _ => rfl) ?_ | refine run_y (fun _ => rfl) rfl (fun _ => rfl) ?_ | refine run_seq ?_ | refine run_region ?_ | refine run_ops_nil ?_ | refine run_block ?_ | refine run_skip ?_ | refine run_inBlock ?_ | refine run_exit rfl ?_))
    refine run_ixa _ rfl (fun _ => by rfl) (fun _ => by rfl) (fun _ => by rfl) (by omega) (by omega) (tab_get (by omega)) ?_
    simp only [Int.toNat_natCast]
    (repeat (first | first | refine run_zfa rfl (fun _ => by rfl) (fun _ => by rfl) ?_ | refine run_faz rfl (fun _ => by rfl) (fun _ => by rfl) ?_ | refine run_fa rfl (fun _ => by rfl) (fun _ => by rfl) ?_ | refine run_p (fun _ => rfl) rfl ?_ | refine run_n rfl (fun _ => rfl) ?_ | refine run_y (fun _ => rfl) rfl (fun _ => rfl) ?_ | refine run_seq ?_ | refine run_region ?_ | refine run_ops_nil ?_ | refine run_block ?_ | refine run_skip ?_ | refine run_inBlock ?_ | refine run_exit rfl ?_))
    refine run_ieq (fun _ => by rfl) (fun hz => ?_) (fun hz => ?_)
    · rw [if_pos hz] at hexl
      (repeat (first | first | refine run_zfa rfl (fun _ => by rfl) (fun _ => by rfl) ?_ | refine run_faz rfl (fun _ => by rfl) (fun _ => by rfl) ?_ | refine run_fa rfl (fun _ => by rfl) (fun _ => by rfl) ?_ | refine run_p (fun _ => rfl) rfl ?_ | refine run_n rfl (fun _ => rfl) ?_ | refine run_y (fun _ => rfl) rfl (fun _ => rfl) ?_ | refine run_seq ?_ | refine run_region ?_ | refine run_ops_nil ?_ | refine run_block ?_ | refine run_skip ?_ | refine run_inBlock ?_ | refine run_exit rfl ?_))
      rw [wrap_nat (by omega)]
      exact run_keep _ (by intro j; repeat (first | exact trivial | refine ⟨rfl, ?_⟩)) (next (f + 1, T2, xs, u) _ _ ⟨by dsimp only; omega, by dsimp only; rw [show 8 - (f + 1) = d by omega]; exact hexl, fun q hq => hfd q (by dsimp only at hq; omega),
        fun m => by have := hus m; dsimp only; omega, by dsimp only; omega, rfl, hT, hch, hm⟩ (by dsimp only; omega))
    · rw [if_neg hz] at hexl
      have hcur : T2.fd pid.toNat f = (((T.fd pid.toNat f - 1).toNat : Nat) : Int) + 1 := by rw [hfd f (Nat.le_refl _)]; omega
      have husn := hus (T.fd pid.toNat f - 1).toNat
      (repeat (first | first | refine run_zfa rfl (fun _ => by rfl) (fun _ => by rfl) ?_ | refine run_faz rfl (fun _ => by rfl) (fun _ => by rfl) ?_ | refine run_fa rfl (fun _ => by rfl) (fun _ => by rfl) ?_ | refine run_p (fun _ => rfl) rfl ?_ | refine run_n rfl (fun _ => rfl) ?_ | refine run_y (fun _ => rfl) rfl (fun _ => rfl) ?_ | refine run_seq ?_ | refine run_region ?_ | refine run_ops_nil ?_ | refine run_block ?_ | refine run_skip ?_ | refine run_inBlock ?_ | refine run_exit rfl ?_))
      generalize hn : (T.fd pid.toNat f - 1).toNat = n at *
      refine run_call rfl (fun _ => by rfl) (fun _ => by kernel_rfl) (let_ok hT pid.toNat f n (by omega) (by omega) hcur (by omega) (by omega)) ?_
      rintro v H2 M2 ⟨rfl, rfl, hT, c2⟩
      replace hm := hm.ch c2
      replace hch := hch.trans c2
      clear c2
      (repeat (first | first | refine run_zfa rfl (fun _ => by rfl) (fun _ => by rfl) ?_ | refine run_faz rfl (fun _ => by rfl) (fun _ => by rfl) ?_ | refine run_fa rfl (fun _ => by rfl) (fun _ => by rfl) ?_ | refine run_p (fun _ => rfl) rfl ?_ | refine run_n rfl (fun _ => rfl) ?_ | refine run_y (fun _ => rfl) rfl (fun _ => rfl) ?_ | refine run_seq ?_ | refine run_region ?_ | refine run_ops_nil ?_ | refine run_block ?_ | refine run_skip ?_ | refine run_inBlock ?_ | refine run_exit rfl ?_))
      refine run_newA (.cells Opn.zero.vals 41 (0, 0)) rfl (fun _ => by rfl) (fun _ => by kernel_rfl) (fun r3 M3 hX k3 => ?_)
      have n3 := (k3 _ _ hT).2
      have o3 := hm.ne k3
      have r3n := New.none hch k3 (nin1 n3)
      replace hT := (k3 _ _ hT).1
      replace hm := hm.new k3
      replace hch := hch.new' k3
      refine run_stA _ _ _ _ ((T2.op n).vals) (fun _ => by rfl) (fun _ => by rfl) (fun _ => by rfl) hX (by kernel_rfl) (by first | decide | exact Nat.le_refl _) (by kernel_rfl) (by kernel_rfl) (fun M4 hX k4 => ?_)
      replace hT := k4 _ _ n3 hT
      replace hm := hm.put k4 o3
      replace hch := hch.box' k4 r3n
      clear k3 k4
      have hfd' : ∀ q, f + 1 ≤ q → (T2.letT pid.toNat f n).fd pid.toNat q = T.fd pid.toNat q := fun q hq => by rw [letT_fd _ _ _ _ _ _ (by omega)]; exact hfd q (by omega)
      have hus' : ∀ m, -1000 - ((f + 1 : Nat) : Int) ≤ (T2.letT pid.toNat f n).us m ∧ (T2.letT pid.toNat f n).us m ≤ 1000 := fun m => by
        have := letT_us T2 pid.toNat f n (-1000 - f) 1000 hus (by omega) (by omega) m; omega
      (repeat (first | first | refine run_zfa rfl (fun _ => by rfl) (fun _ => by rfl) ?_ | refine run_faz rfl (fun _ => by rfl) (fun _ => by rfl) ?_ | refine run_fa rfl (fun _ => by rfl) (fun _ => by rfl) ?_ | refine run_p (fun _ => rfl) rfl ?_ | refine run_n rfl (fun _ => rfl) ?_ | refine run_y (fun _ => rfl) rfl (fun _ => rfl) ?_ | refine run_seq ?_ | refine run_region ?_ | refine run_ops_nil ?_ | refine run_block ?_ | refine run_skip ?_ | refine run_inBlock ?_ | refine run_exit rfl ?_))
      refine run_not (fun _ => by rfl) (fun hl => ?_) (fun hl => ?_)
      · rw [if_neg (by simpa using hl)] at hexl
        (repeat (first | first | refine run_zfa rfl (fun _ => by rfl) (fun _ => by rfl) ?_ | refine run_faz rfl (fun _ => by rfl) (fun _ => by rfl) ?_ | refine run_fa rfl (fun _ => by rfl) (fun _ => by rfl) ?_ | refine run_p (fun _ => rfl) rfl ?_ | refine run_n rfl (fun _ => rfl) ?_ | refine run_y (fun _ => rfl) rfl (fun _ => rfl) ?_ | refine run_seq ?_ | refine run_region ?_ | refine run_ops_nil ?_ | refine run_block ?_ | refine run_skip ?_ | refine run_inBlock ?_ | refine run_exit rfl ?_))
        refine run_ldN _ _ _ _ rfl (fun _ => by rfl) (fun _ => by rfl) (.inl (hX)) (by first | decide | exact Nat.le_refl _) (extract_whole rfl) ?_
        refine run_bs ((T2.op n).vals) rfl (fun _ => by rfl) (by decide) (by decide) (fun _ => by kernel_rfl) (fun r5 M5 hY k5 => ?_)
        have n5 := (k5 _ _ hT).2
        have o5 := hm.ne k5
        replace hT := (k5 _ _ hT).1; replace hX := (k5 _ _ hX).1
        replace hm := hm.new k5
        replace hch := hch.new' k5
        clear k5
        refine run_app ((T2.op n).vals.toList) rfl (fun _ => by rfl) (fun _ => by rfl) (fun _ => by rfl) hm.1 (.inl (hY)) (by exact by simp [Opn.vals]) (by first | decide | exact Nat.le_refl _ | simp) (by rfl) (by rfl) (by rw [flat_len, Nat.mul_div_cancel _ (by omega : 0 < 7)]; omega) (fun u' M6 ho ha => ?_)
        obtain ⟨hm', hch', hb'⟩ := hm.app hch ⟨_, hT⟩ ho ha
        replace hT := hb' _ hT
        clear hb' ha ho hm hch hX hY
        (repeat (first | first | refine run_zfa rfl (fun _ => by rfl) (fun _ => by rfl) ?_ | refine run_faz rfl (fun _ => by rfl) (fun _ => by rfl) ?_ | refine run_fa rfl (fun _ => by rfl) (fun _ => by rfl) ?_ | refine run_p (fun _ => rfl) rfl ?_ | refine run_n rfl (fun _ => rfl) ?_ | refine run_y (fun _ => rfl) rfl (fun _ => rfl) ?_ | refine run_seq ?_ | refine run_region ?_ | refine run_ops_nil ?_ | refine run_block ?_ | refine run_skip ?_ | refine run_inBlock ?_ | refine run_exit rfl ?_))
        rw [wrap_nat (by omega)]
        exact run_keep _ (by intro j; repeat (first | exact trivial | refine ⟨rfl, ?_⟩)) (next (f + 1, T2.letT pid.toNat f n, xs ++ [T2.op n], u') _ _ ⟨by dsimp only; omega, by dsimp only; rw [show 8 - (f + 1) = d by omega]; exact hexl, hfd', hus',
          by dsimp only; rw [List.length_append]; simp; omega, rfl, hT, hch', by dsimp only; rw [flat_snoc]; exact hm'⟩ (by dsimp only; omega))
      · rw [if_pos (by simpa using hl)] at hexl
        (repeat (first | first | refine run_zfa rfl (fun _ => by rfl) (fun _ => by rfl) ?_ | refine run_faz rfl (fun _ => by rfl) (fun _ => by rfl) ?_ | refine run_fa rfl (fun _ => by rfl) (fun _ => by rfl) ?_ | refine run_p (fun _ => rfl) rfl ?_ | refine run_n rfl (fun _ => rfl) ?_ | refine run_y (fun _ => rfl) rfl (fun _ => rfl) ?_ | refine run_seq ?_ | refine run_region ?_ | refine run_ops_nil ?_ | refine run_block ?_ | refine run_skip ?_ | refine run_inBlock ?_ | refine run_exit rfl ?_))
        rw [wrap_nat (by omega)]
        exact run_keep _ (by intro j; repeat (first | exact trivial | refine ⟨rfl, ?_⟩)) (next (f + 1, T2.letT pid.toNat f n, xs, u) _ _ ⟨by dsimp only; omega, by dsimp only; rw [show 8 - (f + 1) = d by omega]; exact hexl, hfd', hus',
          by dsimp only; omega, rfl, hT, hch, hm⟩ (by dsimp only; omega))
  · have : f = 8 := by omega
    subst this
    have hx : ex = (T2, xs) := by rw [← hexl]; rfl
    subst hx
    clear next
    (repeat (first | first | refine run_zfa rfl (fun _ => by rfl) (fun _ => by rfl) ?_ | refine run_faz rfl (fun _ => by rfl) (fun _ => by rfl) ?_ | refine run_fa rfl (fun _ => by rfl) (fun _ => by rfl) ?_ | refine run_p (fun _ => rfl) rfl ?_ | refine run_n rfl (fun _ => rfl) ?_ | refine run_y (fun _ => rfl) rfl (fun _ => rfl) ?_ | refine run_seq ?_ | refine run_region ?_ | refine run_ops_nil ?_ | refine run_block ?_ | refine run_skip ?_ | refine run_inBlock ?_ | refine run_exit rfl ?_))
    generalize hrp : reparent pid 9 0 T2 = T9
    dsimp only
    refine run_loopI (fun x : Nat × Tb => [(0, .pointer (some ⟨b, 0, none⟩)), (1, .int .i64 pid), (2, .int .i64 code), (8, .pointer (some ⟨b, pid.toNat * 11, none⟩)), (10, u), (53, .int .i64 x.1)])
      (fun x H3 M3 => x.1 ≤ 9 ∧ reparent pid (9 - x.1) x.1 x.2 = T9 ∧ H3 = H1 ∧ M3 b = some x.2.obj ∧ Ch [b] M' M3 ∧ Mine M' b M3 u (flat xs)) (fun x => 9 - x.1) (0, T2) (by intro j; repeat (first | exact trivial | refine ⟨rfl, ?_⟩)) ⟨by omega, hrp, rfl, hT, hch, hm⟩ ?_
    clear hT hch hm
    rintro ⟨i, T3⟩ H3 M3 ⟨hi, hrp2, rfl, hT, hch, hm⟩ next
    dsimp only at hi hrp2 hT
    (repeat (first | first | refine run_zfa rfl (fun _ => by rfl) (fun _ => by rfl) ?_ | refine run_faz rfl (fun _ => by rfl) (fun _ => by rfl) ?_ | refine run_fa rfl (fun _ => by rfl) (fun _ => by rfl) ?_ | refine run_p (fun _ => rfl) rfl ?_ | refine run_n rfl (fun _ => rfl) ?_ | refine run_y (fun _ => rfl) rfl (fun _ => rfl) ?_ | refine run_seq ?_ | refine run_region ?_ | refine run_ops_nil ?_ | refine run_block ?_ | refine run_skip ?_ | refine run_inBlock ?_ | refine run_exit rfl ?_))
    refine run_if (fun _ => by rfl) (fun hc5 => ?_) (fun hc5 => ?_)
    · obtain ⟨d, hd⟩ : ∃ d, 9 - i = d + 1 := ⟨8 - i, by omega⟩
      rw [hd, reparent] at hrp2
      (repeat (first | first | refine run_zfa rfl (fun _ => by rfl) (fun _ => by rfl) ?_ | refine run_faz rfl (fun _ => by rfl) (fun _ => by rfl) ?_ | refine run_fa rfl (fun _ => by rfl) (fun _ => by rfl) ?_ | refine run_p (fun _ => rfl) rfl ?_ | refine run_n rfl (fun _ => rfl) ?_ | refine run_y (fun _ => rfl) rfl (fun _ => rfl) ?_ | refine run_seq ?_ | refine run_region ?_ | refine run_ops_nil ?_ | refine run_block ?_ | refine run_skip ?_ | refine run_inBlock ?_ | refine run_exit rfl ?_))
      first | refine run_zix rfl (fun _ => by rfl) (fun _ => by rfl) (fun _ => by rfl) (by omega) (by omega) ?_ | refine run_ix rfl (fun _ => by rfl) (fun _ => by rfl) (fun _ => by rfl) (by omega) (by omega) ?_
      simp only [Int.toNat_natCast]
      (repeat (first | first | refine run_zfa rfl (fun _ => by rfl) (fun _ => by rfl) ?_ | refine run_faz rfl (fun _ => by rfl) (fun _ => by rfl) ?_ | refine run_fa rfl (fun _ => by rfl) (fun _ => by rfl) ?_ | refine run_p (fun _ => rfl) rfl ?_ | refine run_n rfl (fun _ => rfl) ?_ | refine run_y (fun _ => rfl) rfl (fun _ => rfl) ?_ | refine run_seq ?_ | refine run_region ?_ | refine run_ops_nil ?_ | refine run_block ?_ | refine run_skip ?_ | refine run_inBlock ?_ | refine run_exit rfl ?_))
      refine run_ld _ _ _ rfl (fun _ => by rfl) (fun _ => by rfl) (.inl (hT)) (by exact T3.get_st i (by omega) (by omega)) ?_
      refine run_cut 9 (fun q1 : Bool => [(0, .pointer (some ⟨b, 0, none⟩)), (1, .int .i64 pid), (2, .int .i64 code), (8, .pointer (some ⟨b, pid.toNat * 11, none⟩)), (10, u), (53, .int .i64 i), (16, .pointer (some ⟨b, i * 11, none⟩)), (73, .bool q1)])
        (fun q1 => q1 = decide (T3.st i ≠ 0 ∧ T3.par i = pid)) (fun q1 hq1 => ?_) (fun K => ?_)
      · subst hq1
        (repeat (first | first | refine run_zfa rfl (fun _ => by rfl) (fun _ => by rfl) ?_ | refine run_faz rfl (fun _ => by rfl) (fun _ => by rfl) ?_ | refine run_fa rfl (fun _ => by rfl) (fun _ => by rfl) ?_ | refine run_p (fun _ => rfl) rfl ?_ | refine run_n rfl (fun _ => rfl) ?_ | refine run_y (fun _ => rfl) rfl (fun _ => rfl) ?_ | refine run_seq ?_ | refine run_region ?_ | refine run_ops_nil ?_ | refine run_block ?_ | refine run_skip ?_ | refine run_inBlock ?_ | refine run_exit rfl ?_))
        refine run_if (fun _ => by rfl) (fun hq => ?_) (fun hq => ?_)
        · rw [if_pos hq] at hrp2
          (repeat (first | first | refine run_zfa rfl (fun _ => by rfl) (fun _ => by rfl) ?_ | refine run_faz rfl (fun _ => by rfl) (fun _ => by rfl) ?_ | refine run_fa rfl (fun _ => by rfl) (fun _ => by rfl) ?_ | refine run_p (fun _ => rfl) rfl ?_ | refine run_n rfl (fun _ => rfl) ?_ | refine run_y (fun _ => rfl) rfl (fun _ => rfl) ?_ | refine run_seq ?_ | refine run_region ?_ | refine run_ops_nil ?_ | refine run_block ?_ | refine run_skip ?_ | refine run_inBlock ?_ | refine run_exit rfl ?_))
          refine run_stA _ _ _ _ (tab 227 (T3.setPar i 1).cell) (fun _ => by rfl) (fun _ => by rfl) (fun _ => by rfl) hT (by rfl) (by first | (rw [tab_size]; omega) | (simp; done) | decide | exact Nat.le_of_ble_eq_true rfl) (by rfl) (by exact T3.put_par i (by omega) (by omega)) (fun M4 hT k4 => ?_)
          have hmb : ob u ≠ some b := fun e => (hm.2 b e).1 rfl
          (repeat (first | first | refine run_zfa rfl (fun _ => by rfl) (fun _ => by rfl) ?_ | refine run_faz rfl (fun _ => by rfl) (fun _ => by rfl) ?_ | refine run_fa rfl (fun _ => by rfl) (fun _ => by rfl) ?_ | refine run_p (fun _ => rfl) rfl ?_ | refine run_n rfl (fun _ => rfl) ?_ | refine run_y (fun _ => rfl) rfl (fun _ => rfl) ?_ | refine run_seq ?_ | refine run_region ?_ | refine run_ops_nil ?_ | refine run_block ?_ | refine run_skip ?_ | refine run_inBlock ?_ | refine run_exit rfl ?_))
          rw [wrap_nat (by omega)]
          exact run_keep _ (by intro j; repeat (first | exact trivial | refine ⟨rfl, ?_⟩)) (next (i + 1, T3.setPar i 1) _ _ ⟨by dsimp only; omega, by dsimp only; rw [show 9 - (i + 1) = d by omega]; exact hrp2, rfl, hT, hch.put' k4 in1, hm.put k4 hmb⟩ (by dsimp only; omega))
        · rw [if_neg hq] at hrp2
          (repeat (first | first | refine run_zfa rfl (fun _ => by rfl) (fun _ => by rfl) ?_ | refine run_faz rfl (fun _ => by rfl) (fun _ => by rfl) ?_ | refine run_fa rfl (fun _ => by rfl) (fun _ => by rfl) ?_ | refine run_p (fun _ => rfl) rfl ?_ | refine run_n rfl (fun _ => rfl) ?_ | refine run_y (fun _ => rfl) rfl (fun _ => rfl) ?_ | refine run_seq ?_ | refine run_region ?_ | refine run_ops_nil ?_ | refine run_block ?_ | refine run_skip ?_ | refine run_inBlock ?_ | refine run_exit rfl ?_))
          rw [wrap_nat (by omega)]
          exact run_keep _ (by intro j; repeat (first | exact trivial | refine ⟨rfl, ?_⟩)) (next (i + 1, T3) _ _ ⟨by dsimp only; omega, by dsimp only; rw [show 9 - (i + 1) = d by omega]; exact hrp2, rfl, hT, hch, hm⟩ (by dsimp only; omega))
      · (repeat (first | first | refine run_zfa rfl (fun _ => by rfl) (fun _ => by rfl) ?_ | refine run_faz rfl (fun _ => by rfl) (fun _ => by rfl) ?_ | refine run_fa rfl (fun _ => by rfl) (fun _ => by rfl) ?_ | refine run_p (fun _ => rfl) rfl ?_ | refine run_n rfl (fun _ => rfl) ?_ | refine run_y (fun _ => rfl) rfl (fun _ => rfl) ?_))
        cases h4 : (T3.st i != 0)
        · (repeat (first | first | refine run_zfa rfl (fun _ => by rfl) (fun _ => by rfl) ?_ | refine run_faz rfl (fun _ => by rfl) (fun _ => by rfl) ?_ | refine run_fa rfl (fun _ => by rfl) (fun _ => by rfl) ?_ | refine run_p (fun _ => rfl) rfl ?_ | refine run_n rfl (fun _ => rfl) ?_ | refine run_y (fun _ => rfl) rfl (fun _ => rfl) ?_))
          exact run_keep [_, _, _, _, _, _, _, _] (by intro j; repeat (first | exact trivial | refine ⟨rfl, ?_⟩)) (K _ (by simp at h4; simp [h4]))
        · (repeat (first | first | refine run_zfa rfl (fun _ => by rfl) (fun _ => by rfl) ?_ | refine run_faz rfl (fun _ => by rfl) (fun _ => by rfl) ?_ | refine run_fa rfl (fun _ => by rfl) (fun _ => by rfl) ?_ | refine run_p (fun _ => rfl) rfl ?_ | refine run_n rfl (fun _ => rfl) ?_ | refine run_y (fun _ => rfl) rfl (fun _ => rfl) ?_))
          refine run_ld _ _ _ rfl (fun _ => by rfl) (fun _ => by rfl) (.inl (hT)) (by exact T3.get_par i (by omega) (by omega)) ?_
          (repeat (first | first | refine run_zfa rfl (fun _ => by rfl) (fun _ => by rfl) ?_ | refine run_faz rfl (fun _ => by rfl) (fun _ => by rfl) ?_ | refine run_fa rfl (fun _ => by rfl) (fun _ => by rfl) ?_ | refine run_p (fun _ => rfl) rfl ?_ | refine run_n rfl (fun _ => rfl) ?_ | refine run_y (fun _ => rfl) rfl (fun _ => rfl) ?_))
          exact run_keep [_, _, _, _, _, _, _, _] (by intro j; repeat (first | exact trivial | refine ⟨rfl, ?_⟩)) (K _ (by
            have h4' : ¬ T3.st i = 0 := by simpa using h4
            by_cases h5 : T3.par i = pid
            · simp [h4', h5]
            · simp [h4', h5]))
    · have : i = 9 := by omega
      subst this
      have : T9 = T3 := by rw [← hrp2]; rfl
      subst this
      have hmb : ob u ≠ some b := fun e => (hm.2 b e).1 rfl
      (repeat (first | first | refine run_zfa rfl (fun _ => by rfl) (fun _ => by rfl) ?_ | refine run_faz rfl (fun _ => by rfl) (fun _ => by rfl) ?_ | refine run_fa rfl (fun _ => by rfl) (fun _ => by rfl) ?_ | refine run_p (fun _ => rfl) rfl ?_ | refine run_n rfl (fun _ => rfl) ?_ | refine run_y (fun _ => rfl) rfl (fun _ => rfl) ?_ | refine run_seq ?_ | refine run_region ?_ | refine run_ops_nil ?_ | refine run_block ?_ | refine run_skip ?_ | refine run_inBlock ?_ | refine run_exit rfl ?_))
      refine run_stA _ _ _ _ (tab 227 (T9.setSt pid.toNat 2).cell) (fun _ => by rfl) (fun _ => by rfl) (fun _ => by rfl) hT (by rfl) (by first | (rw [tab_size]; omega) | (simp; done) | decide | exact Nat.le_of_ble_eq_true rfl) (by rfl) (by exact T9.put_st pid.toNat (by omega) (by omega)) (fun M4 hT k4 => ?_)
      replace hm := hm.put k4 hmb
      (repeat (first | first | refine run_zfa rfl (fun _ => by rfl) (fun _ => by rfl) ?_ | refine run_faz rfl (fun _ => by rfl) (fun _ => by rfl) ?_ | refine run_fa rfl (fun _ => by rfl) (fun _ => by rfl) ?_ | refine run_p (fun _ => rfl) rfl ?_ | refine run_n rfl (fun _ => rfl) ?_ | refine run_y (fun _ => rfl) rfl (fun _ => rfl) ?_ | refine run_seq ?_ | refine run_region ?_ | refine run_ops_nil ?_ | refine run_block ?_ | refine run_skip ?_ | refine run_inBlock ?_ | refine run_exit rfl ?_))
      refine run_stA _ _ _ _ (tab 227 ((T9.setSt pid.toNat 2).setCode pid.toNat code).cell) (fun _ => by rfl) (fun _ => by rfl) (fun _ => by rfl) hT (by rfl) (by first | (rw [tab_size]; omega) | (simp; done) | decide | exact Nat.le_of_ble_eq_true rfl) (by rfl) (by exact (T9.setSt pid.toNat 2).put_code pid.toNat (by omega) (by omega)) (fun M5 hT k5 => ?_)
      replace hm := hm.put k5 hmb
      (repeat (first | first | refine run_zfa rfl (fun _ => by rfl) (fun _ => by rfl) ?_ | refine run_faz rfl (fun _ => by rfl) (fun _ => by rfl) ?_ | refine run_fa rfl (fun _ => by rfl) (fun _ => by rfl) ?_ | refine run_p (fun _ => rfl) rfl ?_ | refine run_n rfl (fun _ => rfl) ?_ | refine run_y (fun _ => rfl) rfl (fun _ => rfl) ?_ | refine run_seq ?_ | refine run_region ?_ | refine run_ops_nil ?_ | refine run_block ?_ | refine run_skip ?_ | refine run_inBlock ?_ | refine run_exit rfl ?_))
      exact run_retc Try.func11 (fun _ => by kernel_rfl) (⟨u, rfl, rfl, hm, hT, (hch.put' k4 in1).put' k5 in1⟩)
end Go.Proofs.Ytimaipclgmcekaa
