/- pool.Mount. -/
import Derived.Test.YtgbbcpfnmkeijaaGreatGrtAB
namespace Go.Proofs.YtgbbcpfnmkeijaaGreat
open Go.Cam
set_option maxRecDepth 100000
abbrev volsT (t : List Value) : List Value := .string ByteArray.empty :: .bool false :: .int .i64 0 :: .int .i64 0 :: .string ByteArray.empty :: .bool false :: .int .i64 0 :: .int .i64 0 :: .string ByteArray.empty :: .bool false :: .int .i64 0 :: .int .i64 0 :: .string ByteArray.empty :: .bool false :: .int .i64 0 :: .int .i64 0 ::
  .string ByteArray.empty :: .bool false :: .int .i64 0 :: .int .i64 0 :: .string ByteArray.empty :: .bool false :: .int .i64 0 :: .int .i64 0 :: .string ByteArray.empty :: .bool false :: .int .i64 0 :: .int .i64 0 :: .string ByteArray.empty :: .bool false :: .int .i64 0 :: .int .i64 0 :: t
/-- the cells of a pool -/
abbrev poolL (b g n bc m : Nat) : List Value := .pointer (some ⟨b, 0, none⟩) :: .int .i64 (g : Int) :: .int .i64 (n : Int) :: .int .i64 0 :: volsT [.pointer (some ⟨bc, 0, none⟩), .map (some m)]
abbrev pool0L : List Value := .pointer none :: .int .i64 0 :: .int .i64 0 :: .int .i64 0 :: volsT [.pointer none, .map none]
theorem pool_fill (b g n bc m : Nat) : FillL [(0, 1), (1, 35), (36, 1), (37, 1)] pool0L [(0, .pointer (some ⟨b, 0, none⟩)), (1, .agg (supL g n).toArray), (2, .pointer (some ⟨bc, 0, none⟩)), (3, .map (some m))] (poolL b g n bc m) :=
  fill_cons (by infer_instance) (by infer_instance) (by infer_instance) (by infer_instance) (by infer_instance) (fill_cons (by infer_instance) (by infer_instance) (by infer_instance) (by infer_instance) (by infer_instance) (fill_cons (by infer_instance) (by infer_instance) (by infer_instance) (by infer_instance) (by infer_instance) (fill_cons (by infer_instance) (by infer_instance) (by infer_instance) (by infer_instance) (by infer_instance) (by infer_instance))))
set_option maxHeartbeats 16000000 in
theorem pmount_c (b : Nat) (σ : Dr) (g : Nat) (ls : Nat → List Nat) (hoff : σ.off = false) (hst : σ.steps < 900000000) (h1 : 32 ≤ σ.n) (h2 : σ.n ≤ 2048) (hm : Mnt σ.lastS σ.n g ls) : Ctr Tryz.prog 24 [.pointer (some ⟨b, 0, none⟩)] [DrA b σ]
    (fun v Bs => ∃ p bc m, v = .tuple #[.pointer (some ⟨p, 0, none⟩), .int .i64 0] ∧ Bs = [DrA b σ, Box p 83 (poolL b g σ.n bc m), CtA bc ⟨σ.n, ctNow ls (areaN σ.n * 118), ctNow ls (areaN σ.n * 118)⟩, MG m (fun _ => none)]) := by
  have ha : areaN σ.n < 100 := by unfold areaN; omega
  obtain ⟨slot, hnew⟩ := hm.new
  obtain ⟨hg1, hg2, _, _⟩ := hnew.ok
  have hlt := areaAtN_lt g h1 h2
  refine s_enter 117 [(0, _)] (fun F => [_, F]) Tryz.func24 fun F => ?_
  refine go_ ?_
  refine s_call (sp := (by repeat (first | exact Split.nil | apply Split.perx (by repeat (first | with_reducible exact Sel.here | with_reducible apply Sel.there)) (by infer_instance) | apply Split.cons (by repeat (first | with_reducible exact Sel.here | with_reducible apply Sel.there))))) (hs := dread_c b σ 0 (by omega) (by omega)) (h := ?_)
  rintro v Bs (⟨ho, _⟩ | ⟨_, ra, rfl, rfl⟩)
  · rw [hoff] at ho; cases ho
  refine go_ ?_
  refine s_call (sp := (by repeat (first | exact Split.nil | apply Split.perx (by repeat (first | with_reducible exact Sel.here | with_reducible apply Sel.there)) (by infer_instance) | apply Split.cons (by repeat (first | with_reducible exact Sel.here | with_reducible apply Sel.there))))) (hs := dread_c b σ 1 (by omega) (by omega)) (h := ?_)
  rintro v Bs (⟨ho, _⟩ | ⟨_, rb, rfl, rfl⟩)
  · rw [hoff] at ho; cases ho
  refine go_ ?_
  refine s_call (sp := (by repeat (first | exact Split.nil | apply Split.perx (by repeat (first | with_reducible exact Sel.here | with_reducible apply Sel.there)) (by infer_instance) | apply Split.cons (by repeat (first | with_reducible exact Sel.here | with_reducible apply Sel.there))))) (hs := snewer_c σ.n g slot hnew) (h := ?_)
  rintro v Bs ⟨rfl, rfl⟩
  refine go_ ?_
  refine s_alloc fun r8 => ?_
  refine go_ ?_
  refine s_opn (φ := DrOk σ) (X := Dr.parts b σ) (by repeat (first | with_reducible exact Sel.here | with_reducible apply Sel.there)) fun x hx => ?_
  unfold Dr.parts
  refine s_nrm ?_
  refine s_drawN 0 [.q 0, .q 1, .q 2, .q 3, .q 4, .q 5, .q 6, .q 7, .q 8] ?_
  refine do_ ?_
  refine d_call (ho := rfl) (v := .int .i64 (σ.n : Nat)) (sp := (by repeat (first | exact Split.nil | apply Split.perx (by repeat (first | with_reducible exact Sel.here | with_reducible apply Sel.there)) (by infer_instance) | apply Split.cons (by repeat (first | with_reducible exact Sel.here | with_reducible apply Sel.there))))) (hs := size_c b σ x) (hq := by rintro r Bs ⟨rfl, rfl⟩; exact ⟨rfl, (by (try simp only [List.cons_append, List.nil_append]); repeat (first | exact Ent.nil | refine Ent.per (by repeat (first | with_reducible exact Sel.here | with_reducible apply Sel.there)) ?_ | refine Ent.cons (by repeat (first | with_reducible exact Sel.here | with_reducible apply Sel.there)) ?_))⟩) (h := ?_)
  refine do_ ?_
  refine go_ ?_
  refine s_cls (φ := DrOk σ) (X := Dr.parts b σ) x hx (by repeat (first | exact Split.nil | apply Split.perx (by repeat (first | with_reducible exact Sel.here | with_reducible apply Sel.there)) (by infer_instance) | apply Split.cons (by repeat (first | with_reducible exact Sel.here | with_reducible apply Sel.there)))) ?_
  refine go_ ?_
  rw [show (((σ.n : Nat) : Int) != ((σ.n : Nat) : Int)) = false by simp]
  refine go_ ?_
  refine s_call (sp := (by repeat (first | exact Split.nil | apply Split.perx (by repeat (first | with_reducible exact Sel.here | with_reducible apply Sel.there)) (by infer_instance) | apply Split.cons (by repeat (first | with_reducible exact Sel.here | with_reducible apply Sel.there))))) (hs := areaAt_c σ.n g (by omega) (by omega)) (h := ?_)
  rintro v Bs ⟨rfl, rfl⟩
  refine go_ ?_
  refine s_newO (e := 45) (sz := 1) (row := bodR fun _ => (none, 0)) ?_
  refine s_fam0 (F := bodF (fun _ => (none, 0)) ls) ?_
  refine s_loop (fun q : Nat × (Nat → Option Addr × Nat) × Option Addr × Nat => [(0, .pointer (some ⟨b, 0, none⟩)), (8, .pointer (some ⟨r8, 0, none⟩)), (10, .int .i64 (areaAtN σ.n g : Nat)), (12, .slice q.2.2.1 q.1 q.2.2.2), (57, .int .i64 (areaN σ.n : Nat)), (58, .int .i64 q.1)])
    (fun q => [DrA b σ, SO 45 1 (.slice q.2.2.1 q.1 q.2.2.2) q.1 (bodR q.2.1), Fam q.1 (bodF q.2.1 ls), Box r8 68 (.int .i64 (g : Int) :: .int .i64 (σ.n : Int) :: .int .i64 0 :: vols0L), F]) (fun q => q.1 ≤ areaN σ.n) (fun q => areaN σ.n - q.1) (0, fun _ => (none, 0), none, 0) (Nat.zero_le _) (by repeat (first | exact Ent.nil | refine Ent.per (by repeat (first | with_reducible exact Sel.here | with_reducible apply Sel.there)) ?_ | refine Ent.cons (by repeat (first | with_reducible exact Sel.here | with_reducible apply Sel.there)) ?_)) ?_
  rintro ⟨i, w, a, c⟩ hi next
  dsimp only at hi next ⊢
  refine go_ ?_
  refine s_if (fun h => ?_) (fun h => ?_)
  · have hi2 : i < areaN σ.n := by omega
    have hli := hm.len i hi2
    have hsl := hm.area i hi2
    obtain ⟨o1, o2, o3⟩ := open_seal (areaHd_ok h1 h2 hg2 hi2) (hm.bys i) (by omega : (ls i).length ≤ 236)
    have hl256 := sealB_len (h := ⟨2, areaAtN σ.n g + i, 0, 0, g⟩) (body := ls i) (by omega)
    have hbys := sealB_bys (h := ⟨2, areaAtN σ.n g + i, 0, 0, g⟩) (hm.bys i)
    rw [hli, Nat.sub_self, List.replicate_zero, List.append_nil] at o3
    rw [← hsl] at o1 o2 o3 hl256 hbys
    refine go_ ?_
    refine s_call (sp := (by repeat (first | exact Split.nil | apply Split.perx (by repeat (first | with_reducible exact Sel.here | with_reducible apply Sel.there)) (by infer_instance) | apply Split.cons (by repeat (first | with_reducible exact Sel.here | with_reducible apply Sel.there))))) (hs := dread_c b σ (areaAtN σ.n g + i) (by omega) (by omega)) (h := ?_)
    rintro v Bs (⟨ho, _⟩ | ⟨_, rx, rfl, rfl⟩)
    · rw [hoff] at ho; cases ho
    refine go_ ?_
    refine s_call (sp := (by repeat (first | exact Split.nil | apply Split.perx (by repeat (first | with_reducible exact Sel.here | with_reducible apply Sel.there)) (by infer_instance) | apply Split.cons (by repeat (first | with_reducible exact Sel.here | with_reducible apply Sel.there))))) (hs := check_c (σ.lastS (areaAtN σ.n g + i)) 2 (areaAtN σ.n g + i) hl256 hbys) (h := ?_)
    rintro v Bs (⟨hno, _⟩ | ⟨_, a2, c2, rfl, rfl⟩)
    · exact absurd ⟨o1, by rw [o2], by rw [o2]⟩ hno
    rw [o2, o3]
    refine go_ ?_
    refine s_alloc fun r16 => ?_
    refine go_ ?_
    rw [show (((⟨2, areaAtN σ.n g + i, 0, 0, g⟩ : Head).gen : Int) != (g : Int)) = false by simp]
    refine go_ ?_
    refine s_step (st_bs1 (sz := 1) (cells := [.slice a2 236 c2]) rfl) ?_
    rintro _ _ ⟨a3, rfl, rfl⟩
    refine go_ ?_
    refine s_step (st_appO (a := a) (len := i) (cap := c) (b := a3) (m := 1) (c := 1) (by repeat (first | with_reducible exact Sel.here | with_reducible apply Sel.there)) (by repeat (first | with_reducible exact SelR.here | with_reducible apply SelR.there)) (by rw [flat_one]; rfl)) ?_
    rintro _ _ ⟨a4, c4, rfl, rfl⟩
    refine s_open (SO.cg (bodR (wset w i (a2, c2))) fun q hq => ?_) ?_
    · unfold rcat bodR wset
      by_cases hq2 : q < i
      · rw [if_pos hq2, if_neg (by omega)]
      · rw [if_neg hq2, if_pos (by omega)]
    refine s_front (a := Fam i (bodF w ls)) (by repeat (first | with_reducible exact Sel.here | with_reducible apply Sel.there)) (s_open (Fam.cg (bodF (wset w i (a2, c2)) ls) fun q hq H M hh => ?_) ?_)
    · unfold bodF wset at *
      rw [if_neg (by omega)]; exact hh
    refine s_front (a := SA none 1 (.slice a2 236 c2) 236 (byR (ls i))) (by repeat (first | with_reducible exact Sel.here | with_reducible apply Sel.there)) (s_open (B := bodF (wset w i (a2, c2)) ls i) (fun _ _ q => ?_) ?_)
    · unfold bodF wset; rw [if_pos rfl]; exact q
    refine s_famS (m := i) (F := bodF (wset w i (a2, c2)) ls) (by repeat (first | with_reducible exact Sel.here | with_reducible apply Sel.there)) (by repeat (first | with_reducible exact Sel.here | with_reducible apply Sel.there)) ?_
    refine go_ ?_
    exact s_entF (by repeat (first | exact Ent.nil | refine Ent.per (by repeat (first | with_reducible exact Sel.here | with_reducible apply Sel.there)) ?_ | refine Ent.cons (by repeat (first | with_reducible exact Sel.here | with_reducible apply Sel.there)) ?_)) (s_keep _ (next (i + 1, wset w i (a2, c2), a4, c4) (by dsimp only; omega) (by dsimp only; omega)))
  · have : i = areaN σ.n := by omega
    subst this
    refine go_ ?_
    refine s_fzO (e := 45) (v := .slice a (areaN σ.n) c) (by repeat (first | with_reducible exact Sel.here | with_reducible apply Sel.there)) ?_
    refine s_call (sp := (by repeat (first | exact Split.nil | apply Split.perx (by repeat (first | with_reducible exact Sel.here | with_reducible apply Sel.there)) (by infer_instance) | apply Split.cons (by repeat (first | with_reducible exact Sel.here | with_reducible apply Sel.there))))) (hs := cload_c σ.n h1 h2 w ls hm.len hm.bys) (h := ?_)
    rintro v Bs (⟨_, bc, rfl, rfl⟩ | ⟨hno, _⟩)
    · refine go_ ?_
      refine s_step st_mkm ?_
      rintro _ _ ⟨m, rfl, rfl⟩
      refine go_ ?_
      refine s_look (lk_bd4 (r := poolL b g σ.n bc m) (hf := pool_fill b g σ.n bc m)) ?_
      refine s_box (c := poolL b g σ.n bc m) fun p => ?_
      refine go_ ?_
      exact s_rett (rs := [.tmp 2, .tmp 3]) (vs := [_, _]) Tryz.func24 rfl (by intro j; refine RVS.tmp _ rfl ?_; refine RVS.tmp _ rfl ?_; exact RVS.nil) rfl (⟨p, bc, m, rfl, rfl⟩) (by repeat (first | exact Ent.nil | refine Ent.per (by repeat (first | with_reducible exact Sel.here | with_reducible apply Sel.there)) ?_ | refine Ent.cons (by repeat (first | with_reducible exact Sel.here | with_reducible apply Sel.there)) ?_))
    · exact absurd hm.ok hno
end Go.Proofs.YtgbbcpfnmkeijaaGreat
/- pool.Format. -/
namespace Go.Proofs.YtgbbcpfnmkeijaaGreat
open Go.Cam
set_option maxRecDepth 100000
def none2 : List (Nat × List Nat) := [(0, List.replicate 256 0), (1, List.replicate 256 0)]
/-- a disk that was formatted -/
def Dr.fmt (σ : Dr) : Dr := ((σ.writes none2).1.flip (Ct.new σ.n) 1).1
theorem body_zero (n i : Nat) : ∀ m, (Ct.new n).bodyN i m = List.replicate (2 * m) 0
  | 0 => rfl
  | m + 1 => by
    rw [Ct.bodyN, body_zero n i m]
    have : (Ct.new n).get (i * 118 + m) = 0 := by unfold Ct.get; split <;> rfl
    rw [this, putN_zero, List.replicate_append_replicate]; congr 1
theorem Dr.on_flip {σ : Dr} (h : σ.on) (ct : Ct) (g : Nat) : (σ.flip ct g).2 = true ∧ (σ.flip ct g).1.on ∧ (σ.flip ct g).1.n = σ.n ∧ (σ.flip ct g).1.lastS = updS (updsS σ.lastS (areaW ct ct.n g (areaN ct.n))) (g % 2) (sealB ⟨1, g % 2, 0, 0, g⟩ (supB ct.n 8)) ∧ (σ.flip ct g).1.steps = σ.steps + areaN ct.n + 3 := by
  obtain ⟨a1, a2, a3, a4, a5⟩ := Dr.on_writes (areaW ct ct.n g (areaN ct.n)) h
  obtain ⟨b1, b2, b3, b4, b5⟩ := Dr.on_writes [(g % 2, sealB ⟨1, g % 2, 0, 0, g⟩ (supB ct.n 8))] a2
  unfold Dr.flip
  rw [a1, if_pos rfl]
  refine ⟨b1, b2, b3.trans a3, by rw [b4, a4]; rfl, ?_⟩
  rw [b5, a5, areaW_len]; simp; try omega
theorem areaW_at {σ : Ct} {n g k : Nat} {x : Nat × List Nat} (hx : x ∈ areaW σ n g k) : 2 ≤ x.1 := by
  obtain ⟨i, _, rfl⟩ := List.mem_map.1 hx
  show 2 ≤ areaAtN n g + i
  unfold areaAtN; omega
theorem Dr.fmt_mnt {σ : Dr} (h : σ.on) (h1 : 32 ≤ σ.n) (h2 : σ.n ≤ 2048) : σ.fmt.on ∧ σ.fmt.n = σ.n ∧ Mnt σ.fmt.lastS σ.n 1 (fun _ => List.replicate 236 0) ∧ σ.fmt.steps ≤ σ.steps + 200 := by
  obtain ⟨a1, a2, a3, a4, a5⟩ := Dr.on_writes none2 h
  obtain ⟨b1, b2, b3, b4, b5⟩ := Dr.on_flip a2 (Ct.new σ.n) 1
  have ha : areaN σ.n < 100 := by unfold areaN; omega
  refine ⟨b2, b3.trans a3, ?_, by unfold Dr.fmt; rw [b5, a5]; simp [none2]; omega⟩
  have e : σ.fmt.lastS = _ := b4
  rw [e, a4]
  have hlt := areaAtN_lt 1 h1 h2
  have f0 : updS (updsS (updsS σ.lastS none2) (areaW (Ct.new σ.n) (Ct.new σ.n).n 1 (areaN (Ct.new σ.n).n))) (1 % 2) (sealB ⟨1, 1 % 2, 0, 0, 1⟩ (supB (Ct.new σ.n).n 8)) 0 = List.replicate 256 0 := by
    unfold updS
    rw [if_neg (by decide), updsS_other _ _ 0 fun x hx => (by have := areaW_at hx; omega)]
    rfl
  have f1 : updS (updsS (updsS σ.lastS none2) (areaW (Ct.new σ.n) (Ct.new σ.n).n 1 (areaN (Ct.new σ.n).n))) (1 % 2) (sealB ⟨1, 1 % 2, 0, 0, 1⟩ (supB (Ct.new σ.n).n 8)) 1 = sealB ⟨1, 1, 0, 0, 1⟩ (supB σ.n 8) := by
    unfold updS; rw [if_pos rfl]
  refine ⟨⟨1, .inl ⟨?_, ?_, rfl⟩⟩, fun i hi => ?_, fun i hi => by simp, fun i => Bys.zeros _, fun a _ hne => ?_⟩
  · rw [f0]; exact ⟨by simp, Bys.zeros _, zero_not_sup 0⟩
  · rw [f1]; exact ⟨⟨Nat.le_refl _, by omega, h1, h2⟩, rfl⟩
  · have h3 := updsS_area (updsS σ.lastS none2) (Ct.new σ.n) σ.n 1 (areaN σ.n) i hi
    rw [body_zero] at h3
    rw [← h3]
    unfold updS
    rw [if_neg]
    show areaAtN σ.n 1 + i ≠ 1
    unfold areaAtN; omega
  · exact absurd (by unfold ctAt ctVal; rw [List.drop_replicate, List.take_replicate, numB_zeros]) hne
theorem ctNow_zeros (p : Nat) : ctNow (fun _ => List.replicate 236 0) p = fun _ => 0 := by
  funext a
  unfold ctNow
  split
  · unfold ctAt ctVal; rw [List.drop_replicate, List.take_replicate, numB_zeros]
  · rfl
theorem none2_ok {n : Nat} (h : 2 ≤ n) : WsOk n none2 := fun x hx => by
  rcases List.mem_cons.1 hx with rfl | hx
  · exact ⟨by show 0 < n; omega, sec0⟩
  · rw [List.mem_singleton] at hx; subst hx; exact ⟨by show 1 < n; omega, sec0⟩
theorem sizeA_c (b : Nat) (σ : Dr) : Ctr Tryz.prog 29 [.pointer (some ⟨b, 0, none⟩)] [DrA b σ] (fun v Bs => v = .int .i64 (σ.n : Nat) ∧ Bs = [DrA b σ]) := by
  refine s_enter 8 [(0, _)] (fun F => [_, F]) Tryz.func29 fun F => ?_
  refine s_opn (by repeat (first | with_reducible exact Sel.here | with_reducible apply Sel.there)) fun x hx => ?_
  unfold Dr.parts
  refine go_ ?_
  refine s_cls (φ := DrOk σ) (X := Dr.parts b σ) x hx (by repeat (first | exact Split.nil | apply Split.perx (by repeat (first | with_reducible exact Sel.here | with_reducible apply Sel.there)) (by infer_instance) | apply Split.cons (by repeat (first | with_reducible exact Sel.here | with_reducible apply Sel.there)))) ?_
  exact s_ret1 (rs := [.tmp 2]) Tryz.func29 rfl (by intro j; refine RVS.tmp _ rfl ?_; exact RVS.nil) (⟨rfl, rfl⟩) (by repeat (first | exact Ent.nil | refine Ent.per (by repeat (first | with_reducible exact Sel.here | with_reducible apply Sel.there)) ?_ | refine Ent.cons (by repeat (first | with_reducible exact Sel.here | with_reducible apply Sel.there)) ?_))
set_option maxHeartbeats 8000000 in
theorem pformat_c (b : Nat) (σ : Dr) (hon : σ.on) (hst : σ.steps < 800000000) (h1 : 32 ≤ σ.n) (h2 : σ.n ≤ 2048) : Ctr Tryz.prog 8 [.pointer (some ⟨b, 0, none⟩)] [DrA b σ]
    (fun v Bs => ∃ p bc m, v = .tuple #[.pointer (some ⟨p, 0, none⟩), .int .i64 0] ∧ Bs = [DrA b σ.fmt, Box p 83 (poolL b 1 σ.n bc m), CtA bc (Ct.new σ.n), MG m (fun _ => none)]) := by
  obtain ⟨a1, a2, a3, a4, a5⟩ := Dr.on_writes none2 hon
  obtain ⟨b1, b2, b3, b4, b5⟩ := Dr.on_flip a2 (Ct.new σ.n) 1
  obtain ⟨f1, f2, f3, f4⟩ := Dr.fmt_mnt hon h1 h2
  refine s_enter 39 [(0, _)] (fun F => [_, F]) Tryz.func8 fun F => ?_
  refine go_ ?_
  refine s_step (st_mk (len := 256) (o1 := ⟨rfl⟩)) ?_
  rintro _ _ ⟨ab, rfl, rfl⟩
  refine s_fz (e := 5) (v := .slice ab 256 256) (by repeat (first | with_reducible exact Sel.here | with_reducible apply Sel.there)) ?_
  refine s_open (SA.cg (byR (List.replicate 256 0)) fun q hq => by unfold byR; rw [getD_zeros]; rfl) ?_
  refine go_ ?_
  refine s_bs (cells := [.int .i64 0, .slice ab 256 256, .int .i64 1, .slice ab 256 256]) (fun o => ?_) (fun j => rfl)
  refine s_fz (e := 76) (v := .slice o 2 2) (by repeat (first | with_reducible exact Sel.here | with_reducible apply Sel.there)) ?_
  refine s_open (SA.cg (secRow (fun _ => (ab, 256)) none2) fun q hq => by match q, hq with | 0, _ => rfl | 1, _ => rfl) ?_
  refine s_fam0 (F := secFam (fun _ => (ab, 256)) none2) ?_
  refine s_dup (a := SA none 1 (.slice ab 256 256) 256 (byR (List.replicate 256 0))) (by repeat (first | with_reducible exact Sel.here | with_reducible apply Sel.there)) (s_open (B := secFam (fun _ => (ab, 256)) none2 0) (fun _ _ q => q) ?_)
  refine s_famS (m := 0) (F := secFam (fun _ => (ab, 256)) none2) (by repeat (first | with_reducible exact Sel.here | with_reducible apply Sel.there)) (by repeat (first | with_reducible exact Sel.here | with_reducible apply Sel.there)) ?_
  refine s_dup (a := SA none 1 (.slice ab 256 256) 256 (byR (List.replicate 256 0))) (by repeat (first | with_reducible exact Sel.here | with_reducible apply Sel.there)) (s_open (B := secFam (fun _ => (ab, 256)) none2 1) (fun _ _ q => q) ?_)
  refine s_famS (m := 1) (F := secFam (fun _ => (ab, 256)) none2) (by repeat (first | with_reducible exact Sel.here | with_reducible apply Sel.there)) (by repeat (first | with_reducible exact Sel.here | with_reducible apply Sel.there)) ?_
  refine go_ ?_
  refine s_call (sp := (by repeat (first | exact Split.nil | apply Split.perx (by repeat (first | with_reducible exact Sel.here | with_reducible apply Sel.there)) (by infer_instance) | apply Split.cons (by repeat (first | with_reducible exact Sel.here | with_reducible apply Sel.there))))) (hs := pwrite_n (m := 2) b σ (fun _ => (ab, 256)) none2 rfl (none2_ok (by omega)) (by omega)) (h := ?_)
  rintro v Bs ⟨rfl, rfl⟩
  rw [a1]
  refine go_ ?_
  refine s_call (sp := (by repeat (first | exact Split.nil | apply Split.perx (by repeat (first | with_reducible exact Sel.here | with_reducible apply Sel.there)) (by infer_instance) | apply Split.cons (by repeat (first | with_reducible exact Sel.here | with_reducible apply Sel.there))))) (hs := sizeA_c b (σ.writes none2).1) (h := ?_)
  rintro v Bs ⟨rfl, rfl⟩
  rw [a3]
  refine go_ ?_
  refine s_call (sp := (by repeat (first | exact Split.nil | apply Split.perx (by repeat (first | with_reducible exact Sel.here | with_reducible apply Sel.there)) (by infer_instance) | apply Split.cons (by repeat (first | with_reducible exact Sel.here | with_reducible apply Sel.there))))) (hs := cnew_c σ.n h1 h2) (h := ?_)
  rintro v Bs ⟨bc, rfl, rfl⟩
  refine go_ ?_
  refine s_call (sp := (by repeat (first | exact Split.nil | apply Split.perx (by repeat (first | with_reducible exact Sel.here | with_reducible apply Sel.there)) (by infer_instance) | apply Split.cons (by repeat (first | with_reducible exact Sel.here | with_reducible apply Sel.there))))) (hs := sizeA_c b (σ.writes none2).1) (h := ?_)
  rintro v Bs ⟨rfl, rfl⟩
  rw [a3]
  refine go_ ?_
  refine s_call (sp := (by repeat (first | exact Split.nil | apply Split.perx (by repeat (first | with_reducible exact Sel.here | with_reducible apply Sel.there)) (by infer_instance) | apply Split.cons (by repeat (first | with_reducible exact Sel.here | with_reducible apply Sel.there))))) (hs := pflip_c b bc (σ.writes none2).1 (Ct.new σ.n) 1 h1 h2 a3 (by omega) (by omega) (by rw [a5]; show σ.steps + 2 + 1 < _; omega)) (h := ?_)
  rintro v Bs ⟨rfl, rfl⟩
  rw [b1, show ((σ.writes none2).1.flip (Ct.new σ.n) 1).1 = σ.fmt from rfl]
  refine go_ ?_
  rw [← f2] at f3 h1 h2
  refine s_call (sp := (by repeat (first | exact Split.nil | apply Split.perx (by repeat (first | with_reducible exact Sel.here | with_reducible apply Sel.there)) (by infer_instance) | apply Split.cons (by repeat (first | with_reducible exact Sel.here | with_reducible apply Sel.there))))) (hs := pmount_c b σ.fmt 1 (fun _ => List.replicate 236 0) f1.1 (by omega) h1 h2 f3) (h := ?_)
  rintro v Bs ⟨p, bc2, m, rfl, rfl⟩
  rw [f2, ctNow_zeros]
  refine go_ ?_
  exact s_rett (rs := [.tmp 2, .tmp 3]) (vs := [_, _]) Tryz.func8 rfl (by intro j; refine RVS.tmp _ rfl ?_; refine RVS.tmp _ rfl ?_; exact RVS.nil) rfl (⟨p, bc2, m, rfl, rfl⟩) (by repeat (first | exact Ent.nil | refine Ent.per (by repeat (first | with_reducible exact Sel.here | with_reducible apply Sel.there)) ?_ | refine Ent.cons (by repeat (first | with_reducible exact Sel.here | with_reducible apply Sel.there)) ?_))
end Go.Proofs.YtgbbcpfnmkeijaaGreat
/- slices.Clone. -/
namespace Go.Proofs.YtgbbcpfnmkeijaaGreat
open Go.Cam
set_option maxRecDepth 100000
theorem cloneB_c {A : HP} {a : Option Addr} {n c : Nat} {row : Nat → List Value} [Rd A 1 (.slice a n c) n row] (h1 : (flat n row).all one = true) (hn : n < 1000000) : Ctr Tryz.prog 56 [.slice a n c] [A] (fun v Bs => ∃ a' c', v = .slice a' n c' ∧ Bs = [SO 5 1 (.slice a' n c') n row, A]) := by
  refine s_enter 8 [(0, _)] (fun F => [_, F]) Tryz.func56 fun F => ?_
  refine s_know (a := A) .here (rd_pure (a := a) (n := n) (c := c) (row := row)) fun hr => ?_
  cases a with
  | none =>
    obtain rfl := hr.2 rfl
    refine go_ ?_
    refine s_newO (e := 5) (sz := 1) (row := row) ?_
    exact s_ret1 (rs := [.tmp 2]) Tryz.func56 rfl (by intro j; refine RVS.tmp _ rfl ?_; exact RVS.nil) (⟨none, 0, rfl, rfl⟩) (by repeat (first | exact Ent.nil | refine Ent.per (by repeat (first | with_reducible exact Sel.here | with_reducible apply Sel.there)) ?_ | refine Ent.cons (by repeat (first | with_reducible exact Sel.here | with_reducible apply Sel.there)) ?_))
  | some x =>
    refine go_ ?_
    refine s_bs0 (sz := 1) (row := row) fun a2 => ?_
    refine go_ ?_
    refine s_app (a := a2) (len := 0) (cap := 0) (b := some x) (m := n) (c := c) (row2 := row) (by repeat (first | with_reducible exact Sel.here | with_reducible apply Sel.there)) (by repeat (first | with_reducible exact SelR.here | with_reducible apply SelR.there)) h1 (fun a3 c3 => ?_)
    refine go_ ?_
    rw [Nat.zero_add]
    refine s_open (SA.cg row fun i _ => by unfold rcat; rw [if_neg (Nat.not_lt_zero _), Nat.sub_zero]) (s_open SO.of ?_)
    exact s_ret1 (rs := [.tmp 2]) Tryz.func56 rfl (by intro j; refine RVS.tmp _ rfl ?_; exact RVS.nil) (⟨a3, c3, rfl, rfl⟩) (by repeat (first | exact Ent.nil | refine Ent.per (by repeat (first | with_reducible exact Sel.here | with_reducible apply Sel.there)) ?_ | refine Ent.cons (by repeat (first | with_reducible exact Sel.here | with_reducible apply Sel.there)) ?_))
theorem cloneI_c {A : HP} {a : Option Addr} {n c : Nat} {row : Nat → List Value} [Rd A 4 (.slice a n c) n row] (h1 : (flat n row).all one = true) (hn : n < 1000000) : Ctr Tryz.prog 107 [.slice a n c] [A] (fun v Bs => ∃ a' c', v = .slice a' n c' ∧ Bs = [SO 51 4 (.slice a' n c') n row, A]) := by
  refine s_enter 8 [(0, _)] (fun F => [_, F]) Tryz.func107 fun F => ?_
  refine s_know (a := A) .here (rd_pure (a := a) (n := n) (c := c) (row := row)) fun hr => ?_
  cases a with
  | none =>
    obtain rfl := hr.2 rfl
    refine go_ ?_
    refine s_newO (e := 51) (sz := 4) (row := row) ?_
    exact s_ret1 (rs := [.tmp 2]) Tryz.func107 rfl (by intro j; refine RVS.tmp _ rfl ?_; exact RVS.nil) (⟨none, 0, rfl, rfl⟩) (by repeat (first | exact Ent.nil | refine Ent.per (by repeat (first | with_reducible exact Sel.here | with_reducible apply Sel.there)) ?_ | refine Ent.cons (by repeat (first | with_reducible exact Sel.here | with_reducible apply Sel.there)) ?_))
  | some x =>
    refine go_ ?_
    refine s_bs0 (sz := 4) (row := row) fun a2 => ?_
    refine go_ ?_
    refine s_app (a := a2) (len := 0) (cap := 0) (b := some x) (m := n) (c := c) (row2 := row) (by repeat (first | with_reducible exact Sel.here | with_reducible apply Sel.there)) (by repeat (first | with_reducible exact SelR.here | with_reducible apply SelR.there)) h1 (fun a3 c3 => ?_)
    refine go_ ?_
    rw [Nat.zero_add]
    refine s_open (SA.cg row fun i _ => by unfold rcat; rw [if_neg (Nat.not_lt_zero _), Nat.sub_zero]) (s_open SO.of ?_)
    exact s_ret1 (rs := [.tmp 2]) Tryz.func107 rfl (by intro j; refine RVS.tmp _ rfl ?_; exact RVS.nil) (⟨a3, c3, rfl, rfl⟩) (by repeat (first | exact Ent.nil | refine Ent.per (by repeat (first | with_reducible exact Sel.here | with_reducible apply Sel.there)) ?_ | refine Ent.cons (by repeat (first | with_reducible exact Sel.here | with_reducible apply Sel.there)) ?_))
theorem cloneK_c {A : HP} {a : Option Addr} {n c : Nat} {row : Nat → List Value} [Rd A 4 (.slice a n c) n row] (h1 : (flat n row).all one = true) (hn : n < 1000000) : Ctr Tryz.prog 108 [.slice a n c] [A] (fun v Bs => ∃ a' c', v = .slice a' n c' ∧ Bs = [SO 99 4 (.slice a' n c') n row, A]) := by
  refine s_enter 8 [(0, _)] (fun F => [_, F]) Tryz.func108 fun F => ?_
  refine s_know (a := A) .here (rd_pure (a := a) (n := n) (c := c) (row := row)) fun hr => ?_
  cases a with
  | none =>
    obtain rfl := hr.2 rfl
    refine go_ ?_
    refine s_newO (e := 99) (sz := 4) (row := row) ?_
    exact s_ret1 (rs := [.tmp 2]) Tryz.func108 rfl (by intro j; refine RVS.tmp _ rfl ?_; exact RVS.nil) (⟨none, 0, rfl, rfl⟩) (by repeat (first | exact Ent.nil | refine Ent.per (by repeat (first | with_reducible exact Sel.here | with_reducible apply Sel.there)) ?_ | refine Ent.cons (by repeat (first | with_reducible exact Sel.here | with_reducible apply Sel.there)) ?_))
  | some x =>
    refine go_ ?_
    refine s_bs0 (sz := 4) (row := row) fun a2 => ?_
    refine go_ ?_
    refine s_app (a := a2) (len := 0) (cap := 0) (b := some x) (m := n) (c := c) (row2 := row) (by repeat (first | with_reducible exact Sel.here | with_reducible apply Sel.there)) (by repeat (first | with_reducible exact SelR.here | with_reducible apply SelR.there)) h1 (fun a3 c3 => ?_)
    refine go_ ?_
    rw [Nat.zero_add]
    refine s_open (SA.cg row fun i _ => by unfold rcat; rw [if_neg (Nat.not_lt_zero _), Nat.sub_zero]) (s_open SO.of ?_)
    exact s_ret1 (rs := [.tmp 2]) Tryz.func108 rfl (by intro j; refine RVS.tmp _ rfl ?_; exact RVS.nil) (⟨a3, c3, rfl, rfl⟩) (by repeat (first | exact Ent.nil | refine Ent.per (by repeat (first | with_reducible exact Sel.here | with_reducible apply Sel.there)) ?_ | refine Ent.cons (by repeat (first | with_reducible exact Sel.here | with_reducible apply Sel.there)) ?_))
end Go.Proofs.YtgbbcpfnmkeijaaGreat
