/- pool.Format. -/
import Derived.Test.YtldonbnjefhfdaaCrsAC
namespace Go.Proofs.Ytldonbnjefhfdaa
open Go.Cam
set_option maxRecDepth 100000
def none2 : List (Nat × List Nat) := [(0, List.replicate 256 0), (1, List.replicate 256 0)]
/-- a disk that was formatted -/
def Dr.fmt (σ : Dr) : Dr := ((σ.writes none2).1.flip (Ct.new σ.n) 1).1
theorem body_zero (n i : Nat) : ∀ m, (Ct.new n).bodyN i m = List.replicate (2 * m) 0
  | 0 => rfl
  | m + 1 => by
    rw [Ct.bodyN, body_zero n i m]
    have : (Ct.new n).get (i * 118 + m) = 0 := by unfold Ct.get; split <;> rfl
    rw [this, putN_zero, List.replicate_append_replicate]; congr 1
theorem Dr.on_flip {σ : Dr} (h : σ.on) (ct : Ct) (g : Nat) : (σ.flip ct g).2 = true ∧ (σ.flip ct g).1.on ∧ (σ.flip ct g).1.n = σ.n ∧ (σ.flip ct g).1.lastS = updS (updsS σ.lastS (areaW ct ct.n g (areaN ct.n))) (g % 2) (sealB ⟨1, g % 2, 0, 0, g⟩ (supB ct.n 8)) ∧ (σ.flip ct g).1.steps = σ.steps + areaN ct.n + 3 := by
  obtain ⟨a1, a2, a3, a4, a5⟩ := Dr.on_writes (areaW ct ct.n g (areaN ct.n)) h
  obtain ⟨b1, b2, b3, b4, b5⟩ := Dr.on_writes [(g % 2, sealB ⟨1, g % 2, 0, 0, g⟩ (supB ct.n 8))] a2
  unfold Dr.flip
  rw [a1, if_pos rfl]
  refine ⟨b1, b2, b3.trans a3, by rw [b4, a4]; rfl, ?_⟩
  rw [b5, a5, areaW_len]; simp; try omega
theorem areaW_at {σ : Ct} {n g k : Nat} {x : Nat × List Nat} (hx : x ∈ areaW σ n g k) : 2 ≤ x.1 := by
  obtain ⟨i, _, rfl⟩ := List.mem_map.1 hx
  show 2 ≤ areaAtN n g + i
  unfold areaAtN; omega
theorem Dr.fmt_mnt {σ : Dr} (h : σ.on) (h1 : 32 ≤ σ.n) (h2 : σ.n ≤ 2048) : σ.fmt.on ∧ σ.fmt.n = σ.n ∧ Mnt σ.fmt.lastS σ.n 1 (fun _ => List.replicate 236 0) ∧ σ.fmt.steps ≤ σ.steps + 200 := by
  obtain ⟨a1, a2, a3, a4, a5⟩ := Dr.on_writes none2 h
  obtain ⟨b1, b2, b3, b4, b5⟩ := Dr.on_flip a2 (Ct.new σ.n) 1
  have ha : areaN σ.n < 100 := by unfold areaN; omega
  refine ⟨b2, b3.trans a3, ?_, by unfold Dr.fmt; rw [b5, a5]; simp [none2]; omega⟩
  have e : σ.fmt.lastS = _ := b4
  rw [e, a4]
  have hlt := areaAtN_lt 1 h1 h2
  have f0 : updS (updsS (updsS σ.lastS none2) (areaW (Ct.new σ.n) (Ct.new σ.n).n 1 (areaN (Ct.new σ.n).n))) (1 % 2) (sealB ⟨1, 1 % 2, 0, 0, 1⟩ (supB (Ct.new σ.n).n 8)) 0 = List.replicate 256 0 := by
    unfold updS
    rw [if_neg (by decide), updsS_other _ _ 0 fun x hx => (by have := areaW_at hx; omega)]
    rfl
  have f1 : updS (updsS (updsS σ.lastS none2) (areaW (Ct.new σ.n) (Ct.new σ.n).n 1 (areaN (Ct.new σ.n).n))) (1 % 2) (sealB ⟨1, 1 % 2, 0, 0, 1⟩ (supB (Ct.new σ.n).n 8)) 1 = sealB ⟨1, 1, 0, 0, 1⟩ (supB σ.n 8) := by
    unfold updS; rw [if_pos rfl]
  refine ⟨⟨1, .inl ⟨?_, ?_, rfl⟩⟩, fun i hi => ?_, fun i hi => by simp, fun i => Bys.zeros _, fun a _ hne => ?_⟩
  · rw [f0]; exact ⟨by simp, Bys.zeros _, zero_not_sup 0⟩
  · rw [f1]; exact ⟨⟨Nat.le_refl _, by omega, h1, h2⟩, rfl⟩
  · have h3 := updsS_area (updsS σ.lastS none2) (Ct.new σ.n) σ.n 1 (areaN σ.n) i hi
    rw [body_zero] at h3
    rw [← h3]
    unfold updS
    rw [if_neg]
    show areaAtN σ.n 1 + i ≠ 1
    unfold areaAtN; omega
  · exact absurd (by unfold ctAt ctVal; rw [List.drop_replicate, List.take_replicate, numB_zeros]) hne
theorem ctNow_zeros (p : Nat) : ctNow (fun _ => List.replicate 236 0) p = fun _ => 0 := by
  funext a
  unfold ctNow
  split
  · unfold ctAt ctVal; rw [List.drop_replicate, List.take_replicate, numB_zeros]
  · rfl
theorem none2_ok {n : Nat} (h : 2 ≤ n) : WsOk n none2 := fun x hx => by
  rcases List.mem_cons.1 hx with rfl | hx
  · exact ⟨by show 0 < n; omega, sec0⟩
  · rw [List.mem_singleton] at hx; subst hx; exact ⟨by show 1 < n; omega, sec0⟩
theorem sizeA_c (b : Nat) (σ : Dr) : Ctr Try.prog 20 [.pointer (some ⟨b, 0, none⟩)] [DrA b σ] (fun v Bs => v = .int .i64 (σ.n : Nat) ∧ Bs = [DrA b σ]) := by
  refine s_enter 8 [(0, _)] (fun F => [_, F]) Try.func20 fun F => ?_
  refine s_opn (by repeat (first | with_reducible exact Sel.here | with_reducible apply Sel.there)) fun x hx => ?_
  unfold Dr.parts
  refine go_ ?_
  refine s_cls (φ := DrOk σ) (X := Dr.parts b σ) x hx (by repeat (first | exact Split.nil | apply Split.perx (by repeat (first | with_reducible exact Sel.here | with_reducible apply Sel.there)) (by infer_instance) | apply Split.cons (by repeat (first | with_reducible exact Sel.here | with_reducible apply Sel.there)))) ?_
  exact s_ret1 (rs := [.tmp 2]) Try.func20 rfl (by intro j; refine RVS.tmp _ rfl ?_; exact RVS.nil) (⟨rfl, rfl⟩) (by repeat (first | exact Ent.nil | refine Ent.per (by repeat (first | with_reducible exact Sel.here | with_reducible apply Sel.there)) ?_ | refine Ent.cons (by repeat (first | with_reducible exact Sel.here | with_reducible apply Sel.there)) ?_))
set_option maxHeartbeats 8000000 in
theorem pformat_c (b : Nat) (σ : Dr) (hon : σ.on) (hst : σ.steps < 800000000) (h1 : 32 ≤ σ.n) (h2 : σ.n ≤ 2048) : Ctr Try.prog 7 [.pointer (some ⟨b, 0, none⟩)] [DrA b σ]
    (fun v Bs => ∃ p bc m, v = .tuple #[.pointer (some ⟨p, 0, none⟩), .int .i64 0] ∧ Bs = [DrA b σ.fmt, Box p 78 (poolL b 1 σ.n bc m), CtA bc (Ct.new σ.n), MG m (fun _ => none)]) := by
  obtain ⟨a1, a2, a3, a4, a5⟩ := Dr.on_writes none2 hon
  obtain ⟨b1, b2, b3, b4, b5⟩ := Dr.on_flip a2 (Ct.new σ.n) 1
  obtain ⟨f1, f2, f3, f4⟩ := Dr.fmt_mnt hon h1 h2
  refine s_enter 39 [(0, _)] (fun F => [_, F]) Try.func7 fun F => ?_
  refine go_ ?_
  refine s_step (st_mk (len := 256) (o1 := ⟨rfl⟩)) ?_
  rintro _ _ ⟨ab, rfl, rfl⟩
  refine s_fz (e := 5) (v := .slice ab 256 256) (by repeat (first | with_reducible exact Sel.here | with_reducible apply Sel.there)) ?_
  refine s_open (SA.cg (byR (List.replicate 256 0)) fun q hq => by unfold byR; rw [getD_zeros]; rfl) ?_
  refine go_ ?_
  refine s_bs (cells := [.int .i64 0, .slice ab 256 256, .int .i64 1, .slice ab 256 256]) (fun o => ?_) (fun j => rfl)
  refine s_fz (e := 61) (v := .slice o 2 2) (by repeat (first | with_reducible exact Sel.here | with_reducible apply Sel.there)) ?_
  refine s_open (SA.cg (secRow (fun _ => (ab, 256)) none2) fun q hq => by match q, hq with | 0, _ => rfl | 1, _ => rfl) ?_
  refine s_fam0 (F := secFam (fun _ => (ab, 256)) none2) ?_
  refine s_dup (a := SA none 1 (.slice ab 256 256) 256 (byR (List.replicate 256 0))) (by repeat (first | with_reducible exact Sel.here | with_reducible apply Sel.there)) (s_open (B := secFam (fun _ => (ab, 256)) none2 0) (fun _ _ q => q) ?_)
  refine s_famS (m := 0) (F := secFam (fun _ => (ab, 256)) none2) (by repeat (first | with_reducible exact Sel.here | with_reducible apply Sel.there)) (by repeat (first | with_reducible exact Sel.here | with_reducible apply Sel.there)) ?_
  refine s_dup (a := SA none 1 (.slice ab 256 256) 256 (byR (List.replicate 256 0))) (by repeat (first | with_reducible exact Sel.here | with_reducible apply Sel.there)) (s_open (B := secFam (fun _ => (ab, 256)) none2 1) (fun _ _ q => q) ?_)
  refine s_famS (m := 1) (F := secFam (fun _ => (ab, 256)) none2) (by repeat (first | with_reducible exact Sel.here | with_reducible apply Sel.there)) (by repeat (first | with_reducible exact Sel.here | with_reducible apply Sel.there)) ?_
  refine go_ ?_
  refine s_call (sp := (by repeat (first | exact Split.nil | apply Split.perx (by repeat (first | with_reducible exact Sel.here | with_reducible apply Sel.there)) (by infer_instance) | apply Split.cons (by repeat (first | with_reducible exact Sel.here | with_reducible apply Sel.there))))) (hs := pwrite_n (m := 2) b σ (fun _ => (ab, 256)) none2 rfl (none2_ok (by omega)) (by omega)) (h := ?_)
  rintro v Bs ⟨rfl, rfl⟩
  rw [a1]
  refine go_ ?_
  refine s_call (sp := (by repeat (first | exact Split.nil | apply Split.perx (by repeat (first | with_reducible exact Sel.here | with_reducible apply Sel.there)) (by infer_instance) | apply Split.cons (by repeat (first | with_reducible exact Sel.here | with_reducible apply Sel.there))))) (hs := sizeA_c b (σ.writes none2).1) (h := ?_)
  rintro v Bs ⟨rfl, rfl⟩
  rw [a3]
  refine go_ ?_
  refine s_call (sp := (by repeat (first | exact Split.nil | apply Split.perx (by repeat (first | with_reducible exact Sel.here | with_reducible apply Sel.there)) (by infer_instance) | apply Split.cons (by repeat (first | with_reducible exact Sel.here | with_reducible apply Sel.there))))) (hs := cnew_c σ.n h1 h2) (h := ?_)
  rintro v Bs ⟨bc, rfl, rfl⟩
  refine go_ ?_
  refine s_call (sp := (by repeat (first | exact Split.nil | apply Split.perx (by repeat (first | with_reducible exact Sel.here | with_reducible apply Sel.there)) (by infer_instance) | apply Split.cons (by repeat (first | with_reducible exact Sel.here | with_reducible apply Sel.there))))) (hs := sizeA_c b (σ.writes none2).1) (h := ?_)
  rintro v Bs ⟨rfl, rfl⟩
  rw [a3]
  refine go_ ?_
  refine s_call (sp := (by repeat (first | exact Split.nil | apply Split.perx (by repeat (first | with_reducible exact Sel.here | with_reducible apply Sel.there)) (by infer_instance) | apply Split.cons (by repeat (first | with_reducible exact Sel.here | with_reducible apply Sel.there))))) (hs := pflip_c b bc (σ.writes none2).1 (Ct.new σ.n) 1 h1 h2 a3 (by omega) (by omega) (by rw [a5]; show σ.steps + 2 + 1 < _; omega)) (h := ?_)
  rintro v Bs ⟨rfl, rfl⟩
  rw [b1, show ((σ.writes none2).1.flip (Ct.new σ.n) 1).1 = σ.fmt from rfl]
  refine go_ ?_
  rw [← f2] at f3 h1 h2
  refine s_call (sp := (by repeat (first | exact Split.nil | apply Split.perx (by repeat (first | with_reducible exact Sel.here | with_reducible apply Sel.there)) (by infer_instance) | apply Split.cons (by repeat (first | with_reducible exact Sel.here | with_reducible apply Sel.there))))) (hs := pmount_c b σ.fmt 1 (fun _ => List.replicate 236 0) f1.1 (by omega) h1 h2 f3) (h := ?_)
  rintro v Bs ⟨p, bc2, m, rfl, rfl⟩
  rw [f2, ctNow_zeros]
  refine go_ ?_
  exact s_rett (rs := [.tmp 2, .tmp 3]) (vs := [_, _]) Try.func7 rfl (by intro j; refine RVS.tmp _ rfl ?_; refine RVS.tmp _ rfl ?_; exact RVS.nil) rfl (⟨p, bc2, m, rfl, rfl⟩) (by repeat (first | exact Ent.nil | refine Ent.per (by repeat (first | with_reducible exact Sel.here | with_reducible apply Sel.there)) ?_ | refine Ent.cons (by repeat (first | with_reducible exact Sel.here | with_reducible apply Sel.there)) ?_))
end Go.Proofs.Ytldonbnjefhfdaa
/- slices.Clone. -/
namespace Go.Proofs.Ytldonbnjefhfdaa
open Go.Cam
set_option maxRecDepth 100000
theorem cloneB_c {A : HP} {a : Option Addr} {n c : Nat} {row : Nat → List Value} [Rd A 1 (.slice a n c) n row] (h1 : (flat n row).all one = true) (hn : n < 1000000) : Ctr Try.prog 24 [.slice a n c] [A] (fun v Bs => ∃ a' c', v = .slice a' n c' ∧ Bs = [SO 5 1 (.slice a' n c') n row, A]) := by
  refine s_enter 8 [(0, _)] (fun F => [_, F]) Try.func24 fun F => ?_
  refine s_know (a := A) .here (rd_pure (a := a) (n := n) (c := c) (row := row)) fun hr => ?_
  cases a with
  | none =>
    obtain rfl := hr.2 rfl
    refine go_ ?_
    refine s_newO (e := 5) (sz := 1) (row := row) ?_
    exact s_ret1 (rs := [.tmp 2]) Try.func24 rfl (by intro j; refine RVS.tmp _ rfl ?_; exact RVS.nil) (⟨none, 0, rfl, rfl⟩) (by repeat (first | exact Ent.nil | refine Ent.per (by repeat (first | with_reducible exact Sel.here | with_reducible apply Sel.there)) ?_ | refine Ent.cons (by repeat (first | with_reducible exact Sel.here | with_reducible apply Sel.there)) ?_))
  | some x =>
    refine go_ ?_
    refine s_bs0 (sz := 1) (row := row) fun a2 => ?_
    refine go_ ?_
    refine s_app (a := a2) (len := 0) (cap := 0) (b := some x) (m := n) (c := c) (row2 := row) (by repeat (first | with_reducible exact Sel.here | with_reducible apply Sel.there)) (by repeat (first | with_reducible exact SelR.here | with_reducible apply SelR.there)) h1 (fun a3 c3 => ?_)
    refine go_ ?_
    rw [Nat.zero_add]
    refine s_open (SA.cg row fun i _ => by unfold rcat; rw [if_neg (Nat.not_lt_zero _), Nat.sub_zero]) (s_open SO.of ?_)
    exact s_ret1 (rs := [.tmp 2]) Try.func24 rfl (by intro j; refine RVS.tmp _ rfl ?_; exact RVS.nil) (⟨a3, c3, rfl, rfl⟩) (by repeat (first | exact Ent.nil | refine Ent.per (by repeat (first | with_reducible exact Sel.here | with_reducible apply Sel.there)) ?_ | refine Ent.cons (by repeat (first | with_reducible exact Sel.here | with_reducible apply Sel.there)) ?_))
end Go.Proofs.Ytldonbnjefhfdaa
/- Nodes: what they are; node.itemKey, rises. -/
namespace Go.Proofs.Ytldonbnjefhfdaa
open Go.Cam
set_option maxRecDepth 100000
instance : Inhabited Key := ⟨⟨0, 0, 0⟩⟩
structure Item where
  key : Key
  val : List Nat
  deriving Inhabited
structure Kid where
  key : Key
  addr : Int
  deriving Inhabited
structure Node where
  level : Int
  items : List Item
  kids : List Kid
abbrev itemRow (w : Nat → Option Addr × Nat) (l : List Item) (i : Nat) : List Value := [.int .i64 (l.getD i default).key.obj, .int .i64 (l.getD i default).key.kind, .int .i64 (l.getD i default).key.off, .slice (w i).1 (l.getD i default).val.length (w i).2]
abbrev itemFam (w : Nat → Option Addr × Nat) (l : List Item) (i : Nat) : HP := BS (.slice (w i).1 (l.getD i default).val.length (w i).2) (l.getD i default).val
abbrev kidRow (l : List Kid) (i : Nat) : List Value := [.int .i64 (l.getD i default).key.obj, .int .i64 (l.getD i default).key.kind, .int .i64 (l.getD i default).key.off, .int .i64 (l.getD i default).addr]
def KeysRise (l : List Key) : Prop := ∀ i, i < l.length → (l.getD i default).ok = true ∧ (0 < i → (l.getD (i - 1) default).lt (l.getD i default) = true)
instance (l : List Key) : Decidable (KeysRise l) := inferInstanceAs (Decidable (∀ i, i < l.length → _))
theorem rise_next {l : List Key} {i : Nat} (hq : ∀ q, q < i → (l.getD q default).ok = true ∧ (0 < q → (l.getD (q - 1) default).lt (l.getD q default) = true)) (h1 : (l.getD i default).ok = true) (h2 : 0 < i → (l.getD (i - 1) default).lt (l.getD i default) = true) (q : Nat) (hq2 : q < i + 1) : (l.getD q default).ok = true ∧ (0 < q → (l.getD (q - 1) default).lt (l.getD q default) = true) := by
  by_cases e : q < i
  · exact hq q e
  · have e2 : q = i := by omega
    subst e2
    exact ⟨h1, h2⟩
theorem itemKey_c (k : Key) (v : Value) [OneV v] : Ctr Try.prog 69 [.agg #[.int .i64 k.obj, .int .i64 k.kind, .int .i64 k.off, v]] [] (fun r Bs => r = k.v ∧ Bs = []) := by
  refine s_enter 5 [(0, _)] (fun F => [F]) Try.func69 fun F => ?_
  refine go_ ?_
  refine s_box fun r1 => ?_
  refine s_alloc fun r2 => ?_
  refine go_ ?_
  exact s_ret1 (rs := [.cell 2 112]) Try.func69 rfl (by intro j; refine RVS.cell _ _ rfl (by repeat (first | with_reducible exact Sel.here | with_reducible apply Sel.there)) (by rfl) ?_; exact RVS.nil) (⟨rfl, rfl⟩) (by repeat (first | exact Ent.nil | refine Ent.per (by repeat (first | with_reducible exact Sel.here | with_reducible apply Sel.there)) ?_ | refine Ent.cons (by repeat (first | with_reducible exact Sel.here | with_reducible apply Sel.there)) ?_))
theorem kidKey_c (k : Key) (v : Value) [OneV v] : Ctr Try.prog 71 [.agg #[.int .i64 k.obj, .int .i64 k.kind, .int .i64 k.off, v]] [] (fun r Bs => r = k.v ∧ Bs = []) := by
  refine s_enter 5 [(0, _)] (fun F => [F]) Try.func71 fun F => ?_
  refine go_ ?_
  refine s_box fun r1 => ?_
  refine s_alloc fun r2 => ?_
  refine go_ ?_
  exact s_ret1 (rs := [.cell 2 112]) Try.func71 rfl (by intro j; refine RVS.cell _ _ rfl (by repeat (first | with_reducible exact Sel.here | with_reducible apply Sel.there)) (by rfl) ?_; exact RVS.nil) (⟨rfl, rfl⟩) (by repeat (first | exact Ent.nil | refine Ent.per (by repeat (first | with_reducible exact Sel.here | with_reducible apply Sel.there)) ?_ | refine Ent.cons (by repeat (first | with_reducible exact Sel.here | with_reducible apply Sel.there)) ?_))
set_option maxHeartbeats 4000000 in
theorem risesI_c {a : Option Addr} {n c : Nat} {row : Nat → List Value} (l : List Item) (hl : l.length = n) (hrow : ∀ i, i < n → ∃ v, row i = [.int .i64 (l.getD i default).key.obj, .int .i64 (l.getD i default).key.kind, .int .i64 (l.getD i default).key.off, v] ∧ OneV v) (hn : n < 1000000) : Ctr Try.prog 68 [.slice a n c, .func (.func 69) #[] #[]] [SA none 4 (.slice a n c) n row] (fun r Bs => r = .bool (decide (KeysRise (l.map Item.key))) ∧ Bs = []) := by
  have hk : ∀ i, i < n → (l.map Item.key).getD i default = (l.getD i default).key := fun i hi => by
    simp [List.getD_eq_getElem?_getD, show i < l.length by omega]
  refine s_enter 38 [(0, _), (1, _)] (fun F => [_, F]) Try.func68 fun F => ?_
  refine go_ ?_
  refine s_loop (fun i : Nat => [(0, .slice a n c), (1, .func (.func 69) #[] #[]), (7, .slice a n c), (8, .int .i64 n), (9, .int .i64 i)]) (fun _ => [SA none 4 (.slice a n c) n row, F]) (fun i => i ≤ n ∧ ∀ q, q < i → ((l.map Item.key).getD q default).ok = true ∧ (0 < q → ((l.map Item.key).getD (q - 1) default).lt ((l.map Item.key).getD q default) = true)) (fun i => n - i) 0 ⟨by omega, fun q hq => by omega⟩ (by repeat (first | exact Ent.nil | refine Ent.per (by repeat (first | with_reducible exact Sel.here | with_reducible apply Sel.there)) ?_ | refine Ent.cons (by repeat (first | with_reducible exact Sel.here | with_reducible apply Sel.there)) ?_)) ?_
  rintro i ⟨hi, hq⟩ next
  refine go_ ?_
  refine s_if (fun h => ?_) (fun h => ?_)
  · have hi2 : i < n := by omega
    obtain ⟨v, hrv, hcv⟩ := hrow i hi2
    refine go_ ?_
    haveI := hcv
    refine s_look (lk_lde1 (i := i) (m := n) (v := .slice a n c) (by repeat (first | with_reducible exact SelR.here | with_reducible apply SelR.there))) ?_
    rw [hrv]
    refine s_alloc fun r6 => ?_
    refine go_ ?_
    refine s_drawN 0 [.q 0, .q 1, .s 2, .s 3, .q 4, .q 5, .q 6, .q 7, .q 8, .q 9, .q 10, .q 11, .q 12, .q 13, .q 14, .q 16, .q 17, .s 15, .s 18, .s 19, .q 20, .q 21, .q 22] ?_
    refine do_ ?_
    refine d_step rfl (st_callC (sp := (by repeat (first | exact Split.nil | apply Split.perx (by repeat (first | with_reducible exact Sel.here | with_reducible apply Sel.there)) (by infer_instance) | apply Split.cons (by repeat (first | with_reducible exact Sel.here | with_reducible apply Sel.there))))) (hs := itemKey_c (l.getD i default).key v)) ?_
    rintro u Bs ⟨Cs, ⟨rfl, rfl⟩, rfl⟩
    refine do_ ?_
    refine d_step rfl (st_call (sp := (by repeat (first | exact Split.nil | apply Split.perx (by repeat (first | with_reducible exact Sel.here | with_reducible apply Sel.there)) (by infer_instance) | apply Split.cons (by repeat (first | with_reducible exact Sel.here | with_reducible apply Sel.there))))) (hs := may_ok (l.getD i default).key)) ?_
    rintro u Bs ⟨Cs, ⟨rfl, rfl⟩, rfl⟩
    have hki := hk i hi2
    cases hok : (l.getD i default).key.ok with
    | false =>
      refine do_ ?_
      refine d_noU rfl ?_
      refine do_ ?_
      refine d_noU rfl ?_
      refine do_ ?_
      refine d_noU rfl ?_
      refine do_ ?_
      refine go_ ?_
      exact s_ret1 (rs := [.tmp 4]) Try.func68 rfl (by intro j; refine RVS.tmp _ rfl ?_; exact RVS.nil) (⟨by rw [decide_eq_false]; intro hh; have := (hh i (by simp; omega)).1; rw [hki, hok] at this; exact Bool.noConfusion this, rfl⟩) (by repeat (first | exact Ent.nil | refine Ent.per (by repeat (first | with_reducible exact Sel.here | with_reducible apply Sel.there)) ?_ | refine Ent.cons (by repeat (first | with_reducible exact Sel.here | with_reducible apply Sel.there)) ?_))
    | true =>
      refine do_ ?_
      cases h0 : decide ((i : Int) > 0) with
      | false =>
        have h0' := of_decide_eq_false h0
        refine do_ ?_
        refine d_noU rfl ?_
        refine do_ ?_
        refine d_noU rfl ?_
        refine do_ ?_
        refine d_noU rfl ?_
        refine do_ ?_
        refine go_ ?_
        exact s_entF (by repeat (first | exact Ent.nil | refine Ent.per (by repeat (first | with_reducible exact Sel.here | with_reducible apply Sel.there)) ?_ | refine Ent.cons (by repeat (first | with_reducible exact Sel.here | with_reducible apply Sel.there)) ?_)) (s_keep _ (next (i + 1) ⟨by omega, rise_next hq (by rw [hki]; exact hok) (fun h => absurd h (by omega))⟩ (by omega)))
      | true =>
        have h0' := of_decide_eq_true h0
        have hi1 : i - 1 < n := by omega
        obtain ⟨v2, hrv2, hcv2⟩ := hrow (i - 1) hi1
        haveI := hcv2
        refine do_ ?_
        refine d_look rfl (lk_ixz (i - 1) (m := n) (v := .slice a n c) (by repeat (first | with_reducible exact SelR.here | with_reducible apply SelR.there))) ?_
        refine do_ ?_
        refine d_look rfl (lk_lde1 (i := i - 1) (m := n) (v := .slice a n c) (by repeat (first | with_reducible exact SelR.here | with_reducible apply SelR.there))) ?_
        rw [hrv2]
        refine do_ ?_
        refine d_step rfl (st_callC (sp := (by repeat (first | exact Split.nil | apply Split.perx (by repeat (first | with_reducible exact Sel.here | with_reducible apply Sel.there)) (by infer_instance) | apply Split.cons (by repeat (first | with_reducible exact Sel.here | with_reducible apply Sel.there))))) (hs := itemKey_c (l.getD (i - 1) default).key v2)) ?_
        rintro u Bs ⟨Cs, ⟨rfl, rfl⟩, rfl⟩
        refine do_ ?_
        refine d_step rfl (st_callC (sp := (by repeat (first | exact Split.nil | apply Split.perx (by repeat (first | with_reducible exact Sel.here | with_reducible apply Sel.there)) (by infer_instance) | apply Split.cons (by repeat (first | with_reducible exact Sel.here | with_reducible apply Sel.there))))) (hs := itemKey_c (l.getD i default).key v)) ?_
        rintro u Bs ⟨Cs, ⟨rfl, rfl⟩, rfl⟩
        refine do_ ?_
        refine d_step rfl (st_call (sp := (by repeat (first | exact Split.nil | apply Split.perx (by repeat (first | with_reducible exact Sel.here | with_reducible apply Sel.there)) (by infer_instance) | apply Split.cons (by repeat (first | with_reducible exact Sel.here | with_reducible apply Sel.there))))) (hs := less_ok (l.getD (i - 1) default).key (l.getD i default).key)) ?_
        rintro u Bs ⟨Cs, ⟨rfl, rfl⟩, rfl⟩
        refine do_ ?_
        have hk1 := hk (i - 1) hi1
        cases hlt : (l.getD (i - 1) default).key.lt (l.getD i default).key with
        | false =>
          refine do_ ?_
          refine go_ ?_
          exact s_ret1 (rs := [.tmp 4]) Try.func68 rfl (by intro j; refine RVS.tmp _ rfl ?_; exact RVS.nil) (⟨by rw [decide_eq_false]; intro hh; have := (hh i (by simp; omega)).2 (by omega); rw [hki, hk1, hlt] at this; exact Bool.noConfusion this, rfl⟩) (by repeat (first | exact Ent.nil | refine Ent.per (by repeat (first | with_reducible exact Sel.here | with_reducible apply Sel.there)) ?_ | refine Ent.cons (by repeat (first | with_reducible exact Sel.here | with_reducible apply Sel.there)) ?_))
        | true =>
          refine do_ ?_
          refine go_ ?_
          exact s_entF (by repeat (first | exact Ent.nil | refine Ent.per (by repeat (first | with_reducible exact Sel.here | with_reducible apply Sel.there)) ?_ | refine Ent.cons (by repeat (first | with_reducible exact Sel.here | with_reducible apply Sel.there)) ?_)) (s_keep _ (next (i + 1) ⟨by omega, rise_next hq (by rw [hki]; exact hok) (fun _ => by rw [hki, hk1]; exact hlt)⟩ (by omega)))
  · have : i = n := by omega
    subst this
    refine go_ ?_
    exact s_ret1 (rs := [.tmp 4]) Try.func68 rfl (by intro j; refine RVS.tmp _ rfl ?_; exact RVS.nil) (⟨by rw [decide_eq_true]; intro q hq2; exact hq q (by simpa [hl] using hq2), rfl⟩) (by repeat (first | exact Ent.nil | refine Ent.per (by repeat (first | with_reducible exact Sel.here | with_reducible apply Sel.there)) ?_ | refine Ent.cons (by repeat (first | with_reducible exact Sel.here | with_reducible apply Sel.there)) ?_))
set_option maxHeartbeats 4000000 in
theorem risesK_c {a : Option Addr} {n c : Nat} {row : Nat → List Value} (l : List Kid) (hl : l.length = n) (hrow : ∀ i, i < n → ∃ v, row i = [.int .i64 (l.getD i default).key.obj, .int .i64 (l.getD i default).key.kind, .int .i64 (l.getD i default).key.off, v] ∧ OneV v) (hn : n < 1000000) : Ctr Try.prog 70 [.slice a n c, .func (.func 71) #[] #[]] [SA none 4 (.slice a n c) n row] (fun r Bs => r = .bool (decide (KeysRise (l.map Kid.key))) ∧ Bs = []) := by
  have hk : ∀ i, i < n → (l.map Kid.key).getD i default = (l.getD i default).key := fun i hi => by
    simp [List.getD_eq_getElem?_getD, show i < l.length by omega]
  refine s_enter 38 [(0, _), (1, _)] (fun F => [_, F]) Try.func70 fun F => ?_
  refine go_ ?_
  refine s_loop (fun i : Nat => [(0, .slice a n c), (1, .func (.func 71) #[] #[]), (7, .slice a n c), (8, .int .i64 n), (9, .int .i64 i)]) (fun _ => [SA none 4 (.slice a n c) n row, F]) (fun i => i ≤ n ∧ ∀ q, q < i → ((l.map Kid.key).getD q default).ok = true ∧ (0 < q → ((l.map Kid.key).getD (q - 1) default).lt ((l.map Kid.key).getD q default) = true)) (fun i => n - i) 0 ⟨by omega, fun q hq => by omega⟩ (by repeat (first | exact Ent.nil | refine Ent.per (by repeat (first | with_reducible exact Sel.here | with_reducible apply Sel.there)) ?_ | refine Ent.cons (by repeat (first | with_reducible exact Sel.here | with_reducible apply Sel.there)) ?_)) ?_
  rintro i ⟨hi, hq⟩ next
  refine go_ ?_
  refine s_if (fun h => ?_) (fun h => ?_)
  · have hi2 : i < n := by omega
    obtain ⟨v, hrv, hcv⟩ := hrow i hi2
    refine go_ ?_
    haveI := hcv
    refine s_look (lk_lde1 (i := i) (m := n) (v := .slice a n c) (by repeat (first | with_reducible exact SelR.here | with_reducible apply SelR.there))) ?_
    rw [hrv]
    refine s_alloc fun r6 => ?_
    refine go_ ?_
    refine s_drawN 0 [.q 0, .q 1, .s 2, .s 3, .q 4, .q 5, .q 6, .q 7, .q 8, .q 9, .q 10, .q 11, .q 12, .q 13, .q 14, .q 16, .q 17, .s 15, .s 18, .s 19, .q 20, .q 21, .q 22] ?_
    refine do_ ?_
    refine d_step rfl (st_callC (sp := (by repeat (first | exact Split.nil | apply Split.perx (by repeat (first | with_reducible exact Sel.here | with_reducible apply Sel.there)) (by infer_instance) | apply Split.cons (by repeat (first | with_reducible exact Sel.here | with_reducible apply Sel.there))))) (hs := kidKey_c (l.getD i default).key v)) ?_
    rintro u Bs ⟨Cs, ⟨rfl, rfl⟩, rfl⟩
    refine do_ ?_
    refine d_step rfl (st_call (sp := (by repeat (first | exact Split.nil | apply Split.perx (by repeat (first | with_reducible exact Sel.here | with_reducible apply Sel.there)) (by infer_instance) | apply Split.cons (by repeat (first | with_reducible exact Sel.here | with_reducible apply Sel.there))))) (hs := may_ok (l.getD i default).key)) ?_
    rintro u Bs ⟨Cs, ⟨rfl, rfl⟩, rfl⟩
    have hki := hk i hi2
    cases hok : (l.getD i default).key.ok with
    | false =>
      refine do_ ?_
      refine d_noU rfl ?_
      refine do_ ?_
      refine d_noU rfl ?_
      refine do_ ?_
      refine d_noU rfl ?_
      refine do_ ?_
      refine go_ ?_
      exact s_ret1 (rs := [.tmp 4]) Try.func70 rfl (by intro j; refine RVS.tmp _ rfl ?_; exact RVS.nil) (⟨by rw [decide_eq_false]; intro hh; have := (hh i (by simp; omega)).1; rw [hki, hok] at this; exact Bool.noConfusion this, rfl⟩) (by repeat (first | exact Ent.nil | refine Ent.per (by repeat (first | with_reducible exact Sel.here | with_reducible apply Sel.there)) ?_ | refine Ent.cons (by repeat (first | with_reducible exact Sel.here | with_reducible apply Sel.there)) ?_))
    | true =>
      refine do_ ?_
      cases h0 : decide ((i : Int) > 0) with
      | false =>
        have h0' := of_decide_eq_false h0
        refine do_ ?_
        refine d_noU rfl ?_
        refine do_ ?_
        refine d_noU rfl ?_
        refine do_ ?_
        refine d_noU rfl ?_
        refine do_ ?_
        refine go_ ?_
        exact s_entF (by repeat (first | exact Ent.nil | refine Ent.per (by repeat (first | with_reducible exact Sel.here | with_reducible apply Sel.there)) ?_ | refine Ent.cons (by repeat (first | with_reducible exact Sel.here | with_reducible apply Sel.there)) ?_)) (s_keep _ (next (i + 1) ⟨by omega, rise_next hq (by rw [hki]; exact hok) (fun h => absurd h (by omega))⟩ (by omega)))
      | true =>
        have h0' := of_decide_eq_true h0
        have hi1 : i - 1 < n := by omega
        obtain ⟨v2, hrv2, hcv2⟩ := hrow (i - 1) hi1
        haveI := hcv2
        refine do_ ?_
        refine d_look rfl (lk_ixz (i - 1) (m := n) (v := .slice a n c) (by repeat (first | with_reducible exact SelR.here | with_reducible apply SelR.there))) ?_
        refine do_ ?_
        refine d_look rfl (lk_lde1 (i := i - 1) (m := n) (v := .slice a n c) (by repeat (first | with_reducible exact SelR.here | with_reducible apply SelR.there))) ?_
        rw [hrv2]
        refine do_ ?_
        refine d_step rfl (st_callC (sp := (by repeat (first | exact Split.nil | apply Split.perx (by repeat (first | with_reducible exact Sel.here | with_reducible apply Sel.there)) (by infer_instance) | apply Split.cons (by repeat (first | with_reducible exact Sel.here | with_reducible apply Sel.there))))) (hs := kidKey_c (l.getD (i - 1) default).key v2)) ?_
        rintro u Bs ⟨Cs, ⟨rfl, rfl⟩, rfl⟩
        refine do_ ?_
        refine d_step rfl (st_callC (sp := (by repeat (first | exact Split.nil | apply Split.perx (by repeat (first | with_reducible exact Sel.here | with_reducible apply Sel.there)) (by infer_instance) | apply Split.cons (by repeat (first | with_reducible exact Sel.here | with_reducible apply Sel.there))))) (hs := kidKey_c (l.getD i default).key v)) ?_
        rintro u Bs ⟨Cs, ⟨rfl, rfl⟩, rfl⟩
        refine do_ ?_
        refine d_step rfl (st_call (sp := (by repeat (first | exact Split.nil | apply Split.perx (by repeat (first | with_reducible exact Sel.here | with_reducible apply Sel.there)) (by infer_instance) | apply Split.cons (by repeat (first | with_reducible exact Sel.here | with_reducible apply Sel.there))))) (hs := less_ok (l.getD (i - 1) default).key (l.getD i default).key)) ?_
        rintro u Bs ⟨Cs, ⟨rfl, rfl⟩, rfl⟩
        refine do_ ?_
        have hk1 := hk (i - 1) hi1
        cases hlt : (l.getD (i - 1) default).key.lt (l.getD i default).key with
        | false =>
          refine do_ ?_
          refine go_ ?_
          exact s_ret1 (rs := [.tmp 4]) Try.func70 rfl (by intro j; refine RVS.tmp _ rfl ?_; exact RVS.nil) (⟨by rw [decide_eq_false]; intro hh; have := (hh i (by simp; omega)).2 (by omega); rw [hki, hk1, hlt] at this; exact Bool.noConfusion this, rfl⟩) (by repeat (first | exact Ent.nil | refine Ent.per (by repeat (first | with_reducible exact Sel.here | with_reducible apply Sel.there)) ?_ | refine Ent.cons (by repeat (first | with_reducible exact Sel.here | with_reducible apply Sel.there)) ?_))
        | true =>
          refine do_ ?_
          refine go_ ?_
          exact s_entF (by repeat (first | exact Ent.nil | refine Ent.per (by repeat (first | with_reducible exact Sel.here | with_reducible apply Sel.there)) ?_ | refine Ent.cons (by repeat (first | with_reducible exact Sel.here | with_reducible apply Sel.there)) ?_)) (s_keep _ (next (i + 1) ⟨by omega, rise_next hq (by rw [hki]; exact hok) (fun _ => by rw [hki, hk1]; exact hlt)⟩ (by omega)))
  · have : i = n := by omega
    subst this
    refine go_ ?_
    exact s_ret1 (rs := [.tmp 4]) Try.func70 rfl (by intro j; refine RVS.tmp _ rfl ?_; exact RVS.nil) (⟨by rw [decide_eq_true]; intro q hq2; exact hq q (by simpa [hl] using hq2), rfl⟩) (by repeat (first | exact Ent.nil | refine Ent.per (by repeat (first | with_reducible exact Sel.here | with_reducible apply Sel.there)) ?_ | refine Ent.cons (by repeat (first | with_reducible exact Sel.here | with_reducible apply Sel.there)) ?_))
end Go.Proofs.Ytldonbnjefhfdaa
