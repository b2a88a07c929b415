/- Holds, Room, kind. -/
import Derived.Test.YtimaipclgmcekaaProcG
import Derived.Test.YtimaipclgmcekaaCamH
namespace Go.Proofs.Ytimaipclgmcekaa
open Go.Cam
set_option maxRecDepth 100000
def _root_.Go.Cam.Opn.same (x y : Opn) : Bool := decide (x.kind = y.kind ∧ x.label.toList = y.label.toList ∧ x.ino = y.ino ∧ x.off = y.off ∧ x.flags = y.flags ∧ x.pipe = y.pipe ∧ x.writer = y.writer)
theorem eql41 (x y : Opn) (w : World) : (binOp .eql 41 (.agg x.vals) (.agg y.vals)).run Try.prog w = .ok (.bool (x.same y)) w := by
  unfold Opn.vals Opn.same
  go_simp
  by_cases h1 : x.kind = y.kind <;> by_cases h2 : x.label.toList = y.label.toList <;> by_cases h3 : x.ino = y.ino <;> by_cases h4 : x.off = y.off <;> by_cases h5 : x.flags = y.flags <;> by_cases h6 : x.pipe = y.pipe <;>
    by_cases h7 : x.writer = y.writer <;> simp [h1, h2, h3, h4, h5, h6, h7]
theorem nql41 (x y : Opn) (w : World) : (binOp .neq 41 (.agg x.vals) (.agg y.vals)).run Try.prog w = .ok (.bool (!(x.same y))) w := by
  unfold Opn.vals Opn.same
  go_simp
  by_cases h1 : x.kind = y.kind <;> by_cases h2 : x.label.toList = y.label.toList <;> by_cases h3 : x.ino = y.ino <;> by_cases h4 : x.off = y.off <;> by_cases h5 : x.flags = y.flags <;> by_cases h6 : x.pipe = y.pipe <;>
    by_cases h7 : x.writer = y.writer <;> simp [h1, h2, h3, h4, h5, h6, h7]
theorem eq41 (x y : Opn) : EQ Try.prog 41 (.agg x.vals) (.agg y.vals) (x.same y) := ⟨fun op _ _ => by cases op <;> kernel_rfl, eql41 x y, nql41 x y⟩
theorem same_refl (x : Opn) : x.same x = true := by simp [Opn.same]
def kindI (n m : Int) : Int := if n < 0 then (0 - (n + 1)).tmod m else n.tmod m
theorem kind_ok {H M : Heap} (n m : Int) (h0 : -9223372036854775808 ≤ n) (h1 : n < 9223372036854775808) (hm : m ≠ 0) :
    ACalls Try.prog 10 #[.int .i64 n, .int .i64 m] H M (fun v H' M' => v = .int .i64 (kindI n m) ∧ H' = H ∧ M' = M) := by
  refine enter (args := [_, _]) Try.func10 rfl rfl (by show (2 : Nat) ≤ 13; decide) ?_
  (repeat (first | first | refine run_zfa rfl (fun _ => by rfl) (fun _ => by rfl) ?_ | refine run_faz rfl (fun _ => by rfl) (fun _ => by rfl) ?_ | refine run_fa rfl (fun _ => by rfl) (fun _ => by rfl) ?_ | refine run_p (fun _ => rfl) rfl ?_ | refine run_n rfl (fun _ => rfl) ?_ | refine run_y (fun _ => rfl) rfl (fun _ => rfl) ?_ | refine run_seq ?_ | refine run_region ?_ | refine run_ops_nil ?_ | refine run_block ?_ | refine run_skip ?_ | refine run_inBlock ?_ | refine run_exit rfl ?_))
  refine run_if (fun _ => by rfl) (fun hc => ?_) (fun hc => ?_)
  · (repeat (first | first | refine run_zfa rfl (fun _ => by rfl) (fun _ => by rfl) ?_ | refine run_faz rfl (fun _ => by rfl) (fun _ => by rfl) ?_ | refine run_fa rfl (fun _ => by rfl) (fun _ => by rfl) ?_ | refine run_p (fun _ => rfl) rfl ?_ | refine run_n rfl (fun _ => rfl) ?_ | refine run_y (fun _ => rfl) rfl (fun _ => rfl) ?_ | refine run_seq ?_ | refine run_region ?_ | refine run_ops_nil ?_ | refine run_block ?_ | refine run_skip ?_ | refine run_inBlock ?_ | refine run_exit rfl ?_))
    have e1 : IntKind.i64.wrap (n + 1) = n + 1 := wrap_id (by omega) (by omega)
    rw [e1, wrap_id (by omega) (by omega)]
    refine run_rem rfl (fun _ => by rfl) (fun _ => by rfl) (fun _ => by rfl) (hm) ?_
    (repeat (first | first | refine run_zfa rfl (fun _ => by rfl) (fun _ => by rfl) ?_ | refine run_faz rfl (fun _ => by rfl) (fun _ => by rfl) ?_ | refine run_fa rfl (fun _ => by rfl) (fun _ => by rfl) ?_ | refine run_p (fun _ => rfl) rfl ?_ | refine run_n rfl (fun _ => rfl) ?_ | refine run_y (fun _ => rfl) rfl (fun _ => rfl) ?_ | refine run_seq ?_ | refine run_region ?_ | refine run_ops_nil ?_ | refine run_block ?_ | refine run_skip ?_ | refine run_inBlock ?_ | refine run_exit rfl ?_))
    exact run_retc Try.func10 (fun _ => by kernel_rfl) (⟨by rw [kindI, if_pos hc], rfl, rfl⟩)
  · (repeat (first | first | refine run_zfa rfl (fun _ => by rfl) (fun _ => by rfl) ?_ | refine run_faz rfl (fun _ => by rfl) (fun _ => by rfl) ?_ | refine run_fa rfl (fun _ => by rfl) (fun _ => by rfl) ?_ | refine run_p (fun _ => rfl) rfl ?_ | refine run_n rfl (fun _ => rfl) ?_ | refine run_y (fun _ => rfl) rfl (fun _ => rfl) ?_ | refine run_seq ?_ | refine run_region ?_ | refine run_ops_nil ?_ | refine run_block ?_ | refine run_skip ?_ | refine run_inBlock ?_ | refine run_exit rfl ?_))
    refine run_rem rfl (fun _ => by rfl) (fun _ => by rfl) (fun _ => by rfl) (hm) ?_
    (repeat (first | first | refine run_zfa rfl (fun _ => by rfl) (fun _ => by rfl) ?_ | refine run_faz rfl (fun _ => by rfl) (fun _ => by rfl) ?_ | refine run_fa rfl (fun _ => by rfl) (fun _ => by rfl) ?_ | refine run_p (fun _ => rfl) rfl ?_ | refine run_n rfl (fun _ => rfl) ?_ | refine run_y (fun _ => rfl) rfl (fun _ => rfl) ?_ | refine run_seq ?_ | refine run_region ?_ | refine run_ops_nil ?_ | refine run_block ?_ | refine run_skip ?_ | refine run_inBlock ?_ | refine run_exit rfl ?_))
    exact run_retc Try.func10 (fun _ => by kernel_rfl) (⟨by rw [kindI, if_neg hc], rfl, rfl⟩)
def _root_.Go.Cam.Tb.hold (T : Tb) (x : Opn) (i : Nat) : Bool := decide (T.us i > 0) && ({ T.op i with off := x.off, flags := x.flags } : Opn).same x
def _root_.Go.Cam.Tb.holds (T : Tb) (x : Opn) : Nat → Nat → Nat → Nat
  | 0, _, n => n
  | d + 1, i, n => T.holds x d (i + 1) (if T.hold x i then n + 1 else n)
theorem ext_files (T : Tb) : (tab 227 T.cell).extract 99 (99 + 128) = tab 128 (fun k => T.cell (99 + k)) := by
  rw [extract_tab (by omega)]
def fileC (T : Tb) (i : Nat) : Array Value := ((T.op i).vals.toList ++ [Value.int .i64 (T.us i)]).toArray
theorem ext_file (T : Tb) {i : Nat} (hi : i < 16) : (tab 128 (fun k => T.cell (99 + k))).extract (i * 8) (i * 8 + 8) = fileC T i := by
  rw [extract_tab (by omega)]
  show tab 8 _ = tab 8 (fun r => ((fileC T i)[r]?).getD undef)
  refine tab_ext fun r hr => ?_
  match r, hr with
  | 0, _ => exact T.cell_op i 0 (by omega) (by omega)
  | 1, _ => exact T.cell_op i 1 (by omega) (by omega)
  | 2, _ => exact T.cell_op i 2 (by omega) (by omega)
  | 3, _ => exact T.cell_op i 3 (by omega) (by omega)
  | 4, _ => exact T.cell_op i 4 (by omega) (by omega)
  | 5, _ => exact T.cell_op i 5 (by omega) (by omega)
  | 6, _ => exact T.cell_op i 6 (by omega) (by omega)
  | 7, _ => exact T.cell_us i (by omega)
def fileZ : Array Value := (Opn.zero.vals.toList ++ [Value.int .i64 0]).toArray
set_option maxHeartbeats 2000000 in
theorem holds_ok {H M : Heap} {b : Nat} {T : Tb} (hT : M b = some T.obj) (x : Opn) :
    ACalls Try.prog 17 #[.pointer (some ⟨b,0,none⟩), .agg x.vals] H M (fun v H' M' => v = .int .i64 (T.holds x 16 0 0) ∧ H' = H ∧ Ch [] M M') := by
  generalize hs : T.holds x 16 0 0 = s
  refine enter (args := [_, _]) Try.func17 rfl rfl (by show (2 : Nat) ≤ 36; decide) ?_
  (repeat (first | first | refine run_zfa rfl (fun _ => by rfl) (fun _ => by rfl) ?_ | refine run_faz rfl (fun _ => by rfl) (fun _ => by rfl) ?_ | refine run_fa rfl (fun _ => by rfl) (fun _ => by rfl) ?_ | refine run_p (fun _ => rfl) rfl ?_ | refine run_n rfl (fun _ => rfl) ?_ | refine run_y (fun _ => rfl) rfl (fun _ => rfl) ?_ | refine run_seq ?_ | refine run_region ?_ | refine run_ops_nil ?_ | refine run_block ?_ | refine run_skip ?_ | refine run_inBlock ?_ | refine run_exit rfl ?_))
  refine run_newA (.cells x.vals 41 (0, 0)) rfl (fun _ => by rfl) (fun _ => by kernel_rfl) (fun r1 M1 hR k1 => ?_)
  have n1 := (k1 _ _ hT).2
  have hch : Ch [] M M1 := (Ch.refl _ _).new' k1
  replace hT := (k1 _ _ hT).1
  clear k1
  (repeat (first | first | refine run_zfa rfl (fun _ => by rfl) (fun _ => by rfl) ?_ | refine run_faz rfl (fun _ => by rfl) (fun _ => by rfl) ?_ | refine run_fa rfl (fun _ => by rfl) (fun _ => by rfl) ?_ | refine run_p (fun _ => rfl) rfl ?_ | refine run_n rfl (fun _ => rfl) ?_ | refine run_y (fun _ => rfl) rfl (fun _ => rfl) ?_ | refine run_seq ?_ | refine run_region ?_ | refine run_ops_nil ?_ | refine run_block ?_ | refine run_skip ?_ | refine run_inBlock ?_ | refine run_exit rfl ?_))
  refine run_ldN _ _ _ (tab 128 (fun k => T.cell (99 + k))) rfl (fun _ => by rfl) (fun _ => by rfl) (.inl (hT)) (by first | (rw [tab_size]; omega) | (simp; done) | decide | exact Nat.le_of_ble_eq_true rfl) (by exact ext_files T) ?_
  (repeat (first | first | refine run_zfa rfl (fun _ => by rfl) (fun _ => by rfl) ?_ | refine run_faz rfl (fun _ => by rfl) (fun _ => by rfl) ?_ | refine run_fa rfl (fun _ => by rfl) (fun _ => by rfl) ?_ | refine run_p (fun _ => rfl) rfl ?_ | refine run_n rfl (fun _ => rfl) ?_ | refine run_y (fun _ => rfl) rfl (fun _ => rfl) ?_ | refine run_seq ?_ | refine run_region ?_ | refine run_ops_nil ?_ | refine run_block ?_ | refine run_skip ?_ | refine run_inBlock ?_ | refine run_exit rfl ?_))
  refine run_loopI (fun y : Nat × Nat => [(3, .pointer (some ⟨r1, 0, none⟩)), (5, .int .i64 y.2), (12, .agg (tab 128 (fun k => T.cell (99 + k)))), (13, .int .i64 y.1)])
    (fun y H1 M' => y.1 ≤ 16 ∧ y.2 ≤ y.1 ∧ T.holds x (16 - y.1) y.1 y.2 = s ∧ H1 = H ∧ M' r1 = some (.cells x.vals 41 (0, 0)) ∧ Ch [] M M') (fun y => 16 - y.1) (0, 0) (by intro j; repeat (first | exact trivial | refine ⟨rfl, ?_⟩)) ⟨by omega, by omega, hs, rfl, hR, hch⟩ ?_
  clear hT hR hch
  rintro ⟨i, c⟩ H1 M1 ⟨hi, hci, he, rfl, hR, hch⟩ next
  dsimp only at hi he hci
  (repeat (first | first | refine run_zfa rfl (fun _ => by rfl) (fun _ => by rfl) ?_ | refine run_faz rfl (fun _ => by rfl) (fun _ => by rfl) ?_ | refine run_fa rfl (fun _ => by rfl) (fun _ => by rfl) ?_ | refine run_p (fun _ => rfl) rfl ?_ | refine run_n rfl (fun _ => rfl) ?_ | refine run_y (fun _ => rfl) rfl (fun _ => rfl) ?_ | refine run_seq ?_ | refine run_region ?_ | refine run_ops_nil ?_ | refine run_block ?_ | refine run_skip ?_ | refine run_inBlock ?_ | refine run_exit rfl ?_))
  refine run_if (fun _ => by rfl) (fun hc => ?_) (fun hc => ?_)
  · obtain ⟨d, hd⟩ : ∃ d, 16 - i = d + 1 := ⟨15 - i, by omega⟩
    rw [hd, Tb.holds] at he
    (repeat (first | first | refine run_zfa rfl (fun _ => by rfl) (fun _ => by rfl) ?_ | refine run_faz rfl (fun _ => by rfl) (fun _ => by rfl) ?_ | refine run_fa rfl (fun _ => by rfl) (fun _ => by rfl) ?_ | refine run_p (fun _ => rfl) rfl ?_ | refine run_n rfl (fun _ => rfl) ?_ | refine run_y (fun _ => rfl) rfl (fun _ => rfl) ?_ | refine run_seq ?_ | refine run_region ?_ | refine run_ops_nil ?_ | refine run_block ?_ | refine run_skip ?_ | refine run_inBlock ?_ | refine run_exit rfl ?_))
    refine run_ixA (fileC T i) rfl (fun _ => by rfl) (fun _ => by rfl) (fun _ => by rfl) (by omega) (by omega) (by exact by rw [Int.toNat_natCast]; exact ext_file T (by omega)) ?_
    (repeat (first | first | refine run_zfa rfl (fun _ => by rfl) (fun _ => by rfl) ?_ | refine run_faz rfl (fun _ => by rfl) (fun _ => by rfl) ?_ | refine run_fa rfl (fun _ => by rfl) (fun _ => by rfl) ?_ | refine run_p (fun _ => rfl) rfl ?_ | refine run_n rfl (fun _ => rfl) ?_ | refine run_y (fun _ => rfl) rfl (fun _ => rfl) ?_ | refine run_seq ?_ | refine run_region ?_ | refine run_ops_nil ?_ | refine run_block ?_ | refine run_skip ?_ | refine run_inBlock ?_ | refine run_exit rfl ?_))
    refine run_newA (.cells fileZ 63 (0, 0)) rfl (fun _ => by rfl) (fun _ => by kernel_rfl) (fun r7 M2 h7 k2 => ?_)
    have n7 := (k2 _ _ hR).2
    replace hR := (k2 _ _ hR).1
    have g7 := New.none hch k2 (by simp)
    replace hch := hch.new' k2
    clear k2
    (repeat (first | first | refine run_zfa rfl (fun _ => by rfl) (fun _ => by rfl) ?_ | refine run_faz rfl (fun _ => by rfl) (fun _ => by rfl) ?_ | refine run_fa rfl (fun _ => by rfl) (fun _ => by rfl) ?_ | refine run_p (fun _ => rfl) rfl ?_ | refine run_n rfl (fun _ => rfl) ?_ | refine run_y (fun _ => rfl) rfl (fun _ => rfl) ?_ | refine run_seq ?_ | refine run_region ?_ | refine run_ops_nil ?_ | refine run_block ?_ | refine run_skip ?_ | refine run_inBlock ?_ | refine run_exit rfl ?_))
    refine run_stA _ _ _ _ (fileC T i) (fun _ => by rfl) (fun _ => by rfl) (fun _ => by rfl) h7 (by kernel_rfl) (by first | decide | exact Nat.le_refl _) (by kernel_rfl) (by kernel_rfl) (fun M3 h7 k3 => ?_)
    replace hR := k3 _ _ n7 hR
    replace hch := hch.box' k3 g7
    clear k3
    (repeat (first | first | refine run_zfa rfl (fun _ => by rfl) (fun _ => by rfl) ?_ | refine run_faz rfl (fun _ => by rfl) (fun _ => by rfl) ?_ | refine run_fa rfl (fun _ => by rfl) (fun _ => by rfl) ?_ | refine run_p (fun _ => rfl) rfl ?_ | refine run_n rfl (fun _ => rfl) ?_ | refine run_y (fun _ => rfl) rfl (fun _ => rfl) ?_ | refine run_seq ?_ | refine run_region ?_ | refine run_ops_nil ?_ | refine run_block ?_ | refine run_skip ?_ | refine run_inBlock ?_ | refine run_exit rfl ?_))
    refine run_ldN _ _ _ ((T.op i).vals) rfl (fun _ => by rfl) (fun _ => by rfl) (.inl (h7)) (by first | (rw [tab_size]; omega) | (simp; done) | decide | exact Nat.le_of_ble_eq_true rfl) (by exact rfl) ?_
    refine run_newA (.cells Opn.zero.vals 41 (0, 0)) rfl (fun _ => by rfl) (fun _ => by kernel_rfl) (fun r8 M4 h8 k4 => ?_)
    have n8 := (k4 _ _ hR).2
    have n78 := (k4 _ _ h7).2
    replace hR := (k4 _ _ hR).1; replace h7 := (k4 _ _ h7).1
    have g8 := New.none hch k4 (by simp)
    replace hch := hch.new' k4
    clear k4
    (repeat (first | first | refine run_zfa rfl (fun _ => by rfl) (fun _ => by rfl) ?_ | refine run_faz rfl (fun _ => by rfl) (fun _ => by rfl) ?_ | refine run_fa rfl (fun _ => by rfl) (fun _ => by rfl) ?_ | refine run_p (fun _ => rfl) rfl ?_ | refine run_n rfl (fun _ => rfl) ?_ | refine run_y (fun _ => rfl) rfl (fun _ => rfl) ?_ | refine run_seq ?_ | refine run_region ?_ | refine run_ops_nil ?_ | refine run_block ?_ | refine run_skip ?_ | refine run_inBlock ?_ | refine run_exit rfl ?_))
    refine run_stA _ _ _ _ ((T.op i).vals) (fun _ => by rfl) (fun _ => by rfl) (fun _ => by rfl) h8 (by kernel_rfl) (by first | decide | exact Nat.le_refl _) (by kernel_rfl) (by kernel_rfl) (fun M5 h8 k5 => ?_)
    replace hR := k5 _ _ n8 hR; replace h7 := k5 _ _ n78 h7
    replace hch := hch.box' k5 g8
    clear k5
    (repeat (first | first | refine run_zfa rfl (fun _ => by rfl) (fun _ => by rfl) ?_ | refine run_faz rfl (fun _ => by rfl) (fun _ => by rfl) ?_ | refine run_fa rfl (fun _ => by rfl) (fun _ => by rfl) ?_ | refine run_p (fun _ => rfl) rfl ?_ | refine run_n rfl (fun _ => rfl) ?_ | refine run_y (fun _ => rfl) rfl (fun _ => rfl) ?_ | refine run_seq ?_ | refine run_region ?_ | refine run_ops_nil ?_ | refine run_block ?_ | refine run_skip ?_ | refine run_inBlock ?_ | refine run_exit rfl ?_))
    refine run_draw (l2 := ?l2) (fun S H' M' => H' = H1 ∧ M' r8 = some (.cells ({ T.op i with off := bif S 5 then x.off else (T.op i).off, flags := bif S 7 then x.flags else (T.op i).flags } : Opn).vals 41 (0, 0)) ∧
      M' r1 = some (.cells x.vals 41 (0, 0)) ∧ M' r7 = some (.cells (fileC T i) 63 (0, 0)) ∧ Ch [] M M') (by kernel_rfl) (by kernel_rfl) ⟨rfl, h8, hR, h7, hch⟩ ?hq ?h
    case hq =>
      (repeat (first | first | refine qc_zfa rfl (fun _ => by rfl) (fun _ => by rfl) (fun _ _ _ h => h) ?_ | refine qc_faz rfl (fun _ => by rfl) (fun _ => by rfl) (fun _ _ _ h => h) ?_ | refine qc_fa rfl (fun _ => by rfl) (fun _ => by rfl) (fun _ _ _ h => h) ?_ | refine qc_p (fun _ => rfl) rfl (fun _ _ _ h => h) ?_ | refine qc_n rfl (fun _ => rfl) (fun _ _ _ h => h) ?_ | refine qc_y (fun _ => rfl) rfl (fun _ => rfl) (fun _ _ _ h => h) ?_))
      refine qc_ld _ _ _ rfl (fun _ => by rfl) (fun _ => by rfl) (fun S H M hI => ⟨_, _, _, .inl (hI.2.2.1), (rfl : x.vals[3]? = some (.int .i64 x.off))⟩) (fun _ _ _ h => h) ?_
      (repeat (first | first | refine qc_zfa rfl (fun _ => by rfl) (fun _ => by rfl) (fun _ _ _ h => h) ?_ | refine qc_faz rfl (fun _ => by rfl) (fun _ => by rfl) (fun _ _ _ h => h) ?_ | refine qc_fa rfl (fun _ => by rfl) (fun _ => by rfl) (fun _ _ _ h => h) ?_ | refine qc_p (fun _ => rfl) rfl (fun _ _ _ h => h) ?_ | refine qc_n rfl (fun _ => rfl) (fun _ _ _ h => h) ?_ | refine qc_y (fun _ => rfl) rfl (fun _ => rfl) (fun _ _ _ h => h) ?_))
      refine qc_ld _ _ _ rfl (fun _ => by rfl) (fun _ => by rfl) (fun S H M hI => ⟨_, _, _, .inl (hI.2.2.1), (rfl : x.vals[4]? = some (.int .i64 x.flags))⟩) (fun _ _ _ h => h) ?_
      (repeat (first | first | refine qc_zfa rfl (fun _ => by rfl) (fun _ => by rfl) (fun _ _ _ h => h) ?_ | refine qc_faz rfl (fun _ => by rfl) (fun _ => by rfl) (fun _ _ _ h => h) ?_ | refine qc_fa rfl (fun _ => by rfl) (fun _ => by rfl) (fun _ _ _ h => h) ?_ | refine qc_p (fun _ => rfl) rfl (fun _ _ _ h => h) ?_ | refine qc_n rfl (fun _ => rfl) (fun _ _ _ h => h) ?_ | refine qc_y (fun _ => rfl) rfl (fun _ => rfl) (fun _ _ _ h => h) ?_))
      refine qc_st _ _ _ _ (fun _ => by rfl) (fun _ => by rfl) (fun _ => by rfl) (by rfl) (by rfl) (fun S H M hD hS hI => ⟨_, _, (hI.2.1), (by first | (rw [tab_size]; omega) | (simp; done) | decide | exact Nat.le_of_ble_eq_true rfl), ⟨hI.1, upd_same _ _ _, by rw [upd_ne n8]; exact hI.2.2.1, by rw [upd_ne n78]; exact hI.2.2.2.1, hI.2.2.2.2.box g8 _⟩⟩) ?_
      (repeat (first | first | refine qc_zfa rfl (fun _ => by rfl) (fun _ => by rfl) (fun _ _ _ h => h) ?_ | refine qc_faz rfl (fun _ => by rfl) (fun _ => by rfl) (fun _ _ _ h => h) ?_ | refine qc_fa rfl (fun _ => by rfl) (fun _ => by rfl) (fun _ _ _ h => h) ?_ | refine qc_p (fun _ => rfl) rfl (fun _ _ _ h => h) ?_ | refine qc_n rfl (fun _ => rfl) (fun _ _ _ h => h) ?_ | refine qc_y (fun _ => rfl) rfl (fun _ => rfl) (fun _ _ _ h => h) ?_))
      refine qc_st _ _ _ _ (fun _ => by rfl) (fun _ => by rfl) (fun _ => by rfl) (by rfl) (by rfl) (fun S H M hD hS hI => ⟨_, _, (hI.2.1), (by first | (rw [tab_size]; omega) | (simp; done) | decide | exact Nat.le_of_ble_eq_true rfl), ⟨hI.1, upd_same _ _ _, by rw [upd_ne n8]; exact hI.2.2.1, by rw [upd_ne n78]; exact hI.2.2.2.1, hI.2.2.2.2.box g8 _⟩⟩) ?_
      exact .nil
    case h =>
    clear hR h7 h8 hch
    rintro H1 M1 ⟨rfl, h8, hR, h7, hch⟩
    replace h8 : M1 r8 = some (.cells ({ T.op i with off := x.off, flags := x.flags } : Opn).vals 41 (0, 0)) := h8
    (repeat (first | first | refine run_zfa rfl (fun _ => by rfl) (fun _ => by rfl) ?_ | refine run_faz rfl (fun _ => by rfl) (fun _ => by rfl) ?_ | refine run_fa rfl (fun _ => by rfl) (fun _ => by rfl) ?_ | refine run_p (fun _ => rfl) rfl ?_ | refine run_n rfl (fun _ => rfl) ?_ | refine run_y (fun _ => rfl) rfl (fun _ => rfl) ?_ | refine run_seq ?_ | refine run_region ?_ | refine run_ops_nil ?_ | refine run_block ?_ | refine run_skip ?_ | refine run_inBlock ?_ | refine run_exit rfl ?_))
    refine run_ld _ _ _ rfl (fun _ => by rfl) (fun _ => by rfl) (.inl (h7)) (by exact (rfl : (fileC T i)[7]? = some (.int .i64 (T.us i)))) ?_
    refine run_cut 8 (fun q1 : Bool => [(3, .pointer (some ⟨r1, 0, none⟩)), (5, .int .i64 c), (12, .agg (tab 128 (fun k => T.cell (99 + k)))), (13, .int .i64 i), (31, .bool q1)])
      (fun q1 => q1 = T.hold x i) (fun q1 hq1 => ?_) (fun K => ?_)
    · subst hq1
      (repeat (first | first | refine run_zfa rfl (fun _ => by rfl) (fun _ => by rfl) ?_ | refine run_faz rfl (fun _ => by rfl) (fun _ => by rfl) ?_ | refine run_fa rfl (fun _ => by rfl) (fun _ => by rfl) ?_ | refine run_p (fun _ => rfl) rfl ?_ | refine run_n rfl (fun _ => rfl) ?_ | refine run_y (fun _ => rfl) rfl (fun _ => rfl) ?_ | refine run_seq ?_ | refine run_region ?_ | refine run_ops_nil ?_ | refine run_block ?_ | refine run_skip ?_ | refine run_inBlock ?_ | refine run_exit rfl ?_))
      cases hh : T.hold x i
      · rw [hh, if_neg (by simp)] at he
        refine run_cond _ (fun _ => by rfl) (fun h5 => ?_) (fun h5 => ?_)
        · cases h5
        (repeat (first | first | refine run_zfa rfl (fun _ => by rfl) (fun _ => by rfl) ?_ | refine run_faz rfl (fun _ => by rfl) (fun _ => by rfl) ?_ | refine run_fa rfl (fun _ => by rfl) (fun _ => by rfl) ?_ | refine run_p (fun _ => rfl) rfl ?_ | refine run_n rfl (fun _ => rfl) ?_ | refine run_y (fun _ => rfl) rfl (fun _ => rfl) ?_ | refine run_seq ?_ | refine run_region ?_ | refine run_ops_nil ?_ | refine run_block ?_ | refine run_skip ?_ | refine run_inBlock ?_ | refine run_exit rfl ?_))
        rw [wrap_nat (by omega)]
        exact run_keep _ (by intro j; repeat (first | exact trivial | refine ⟨rfl, ?_⟩)) (next (i + 1, c) _ _ ⟨by dsimp only; omega, by dsimp only; omega, by dsimp only; rw [show 16 - (i + 1) = d by omega]; exact he, rfl, hR, hch⟩ (by dsimp only; omega))
      · rw [hh, if_pos rfl] at he
        refine run_cond _ (fun _ => by rfl) (fun h5 => ?_) (fun h5 => ?_)
        · (repeat (first | first | refine run_zfa rfl (fun _ => by rfl) (fun _ => by rfl) ?_ | refine run_faz rfl (fun _ => by rfl) (fun _ => by rfl) ?_ | refine run_fa rfl (fun _ => by rfl) (fun _ => by rfl) ?_ | refine run_p (fun _ => rfl) rfl ?_ | refine run_n rfl (fun _ => rfl) ?_ | refine run_y (fun _ => rfl) rfl (fun _ => rfl) ?_ | refine run_seq ?_ | refine run_region ?_ | refine run_ops_nil ?_ | refine run_block ?_ | refine run_skip ?_ | refine run_inBlock ?_ | refine run_exit rfl ?_))
          rw [wrap_nat (by omega), wrap_nat (by omega)]
          exact run_keep _ (by intro j; repeat (first | exact trivial | refine ⟨rfl, ?_⟩)) (next (i + 1, c + 1) _ _ ⟨by dsimp only; omega, by dsimp only; omega, by dsimp only; rw [show 16 - (i + 1) = d by omega]; exact he, rfl, hR, hch⟩ (by dsimp only; omega))
        · cases h5
    · (repeat (first | first | refine run_zfa rfl (fun _ => by rfl) (fun _ => by rfl) ?_ | refine run_faz rfl (fun _ => by rfl) (fun _ => by rfl) ?_ | refine run_fa rfl (fun _ => by rfl) (fun _ => by rfl) ?_ | refine run_p (fun _ => rfl) rfl ?_ | refine run_n rfl (fun _ => rfl) ?_ | refine run_y (fun _ => rfl) rfl (fun _ => rfl) ?_))
      cases h4 : decide (T.us i > 0)
      · (repeat (first | first | refine run_zfa rfl (fun _ => by rfl) (fun _ => by rfl) ?_ | refine run_faz rfl (fun _ => by rfl) (fun _ => by rfl) ?_ | refine run_fa rfl (fun _ => by rfl) (fun _ => by rfl) ?_ | refine run_p (fun _ => rfl) rfl ?_ | refine run_n rfl (fun _ => rfl) ?_ | refine run_y (fun _ => rfl) rfl (fun _ => rfl) ?_))
        exact run_keep [_, _, _, _, _] (by intro j; repeat (first | exact trivial | refine ⟨rfl, ?_⟩)) (K _ (by rw [Tb.hold, h4]; rfl))
      · (repeat (first | first | refine run_zfa rfl (fun _ => by rfl) (fun _ => by rfl) ?_ | refine run_faz rfl (fun _ => by rfl) (fun _ => by rfl) ?_ | refine run_fa rfl (fun _ => by rfl) (fun _ => by rfl) ?_ | refine run_p (fun _ => rfl) rfl ?_ | refine run_n rfl (fun _ => rfl) ?_ | refine run_y (fun _ => rfl) rfl (fun _ => rfl) ?_))
        refine run_ldN _ _ _ _ rfl (fun _ => by rfl) (fun _ => by rfl) (.inl (h8)) (by first | decide | exact Nat.le_refl _) (extract_whole rfl) ?_
        refine run_ldN _ _ _ _ rfl (fun _ => by rfl) (fun _ => by rfl) (.inl (hR)) (by first | decide | exact Nat.le_refl _) (extract_whole rfl) ?_
        refine run_eqs (eq41 ({ T.op i with off := x.off, flags := x.flags } : Opn) x) rfl (fun _ => by rfl) (fun _ => by rfl) (fun _ => by rfl) ?_
        (repeat (first | first | refine run_zfa rfl (fun _ => by rfl) (fun _ => by rfl) ?_ | refine run_faz rfl (fun _ => by rfl) (fun _ => by rfl) ?_ | refine run_fa rfl (fun _ => by rfl) (fun _ => by rfl) ?_ | refine run_p (fun _ => rfl) rfl ?_ | refine run_n rfl (fun _ => rfl) ?_ | refine run_y (fun _ => rfl) rfl (fun _ => rfl) ?_))
        exact run_keep [_, _, _, _, _] (by intro j; repeat (first | exact trivial | refine ⟨rfl, ?_⟩)) (K _ (by rw [Tb.hold, h4]; rfl))
  · have : i = 16 := by omega
    subst this
    have : s = c := by rw [← he]; rfl
    subst this
    (repeat (first | first | refine run_zfa rfl (fun _ => by rfl) (fun _ => by rfl) ?_ | refine run_faz rfl (fun _ => by rfl) (fun _ => by rfl) ?_ | refine run_fa rfl (fun _ => by rfl) (fun _ => by rfl) ?_ | refine run_p (fun _ => rfl) rfl ?_ | refine run_n rfl (fun _ => rfl) ?_ | refine run_y (fun _ => rfl) rfl (fun _ => rfl) ?_ | refine run_seq ?_ | refine run_region ?_ | refine run_ops_nil ?_ | refine run_block ?_ | refine run_skip ?_ | refine run_inBlock ?_ | refine run_exit rfl ?_))
    exact run_retc Try.func17 (fun _ => by kernel_rfl) (⟨rfl, rfl, hch⟩)
end Go.Proofs.Ytimaipclgmcekaa
