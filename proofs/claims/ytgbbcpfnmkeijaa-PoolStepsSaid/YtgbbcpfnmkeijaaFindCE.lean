/- Small ones of the pool's laws: Cached; node.Write of no node; ContainsFunc. -/
import Derived.Test.YtgbbcpfnmkeijaaCamAO
import Derived.Test.YtgbbcpfnmkeijaaFindM
namespace Go.Proofs.Ytgbbcpfnmkeijaa
open Go.Cam
set_option maxRecDepth 100000
theorem dcached_c (b : Nat) (σ : Dr) (h : ∀ k, σ.cached k = []) : Ctr Try.prog 38 [.pointer (some ⟨b, 0, none⟩)] [DrA b σ] (fun v Bs => v = .int .i64 0 ∧ Bs = [DrA b σ]) := by
  refine s_enter 8 [(0, _)] (fun F => [_, F]) Try.func38 fun F => ?_
  refine s_opn (φ := DrOk σ) (X := Dr.parts b σ) (by repeat (first | with_reducible exact Sel.here | with_reducible apply Sel.there)) fun x hx => ?_
  unfold Dr.parts
  refine s_nrm ?_
  have hn : ∀ k, Dr.mg x k = none := fun k => by
    unfold Dr.mg
    rw [if_neg]
    intro hk
    exact hx.ne k hk (h k)
  refine go_ ?_
  refine s_look (lk_lenm0 (r := x.m) (gm := Dr.mg x) (by repeat (first | with_reducible exact Sel.here | with_reducible apply Sel.there)) hn) ?_
  refine go_ ?_
  refine s_cls (φ := DrOk σ) (X := Dr.parts b σ) x hx (by repeat (first | exact Split.nil | apply Split.perx (by repeat (first | with_reducible exact Sel.here | with_reducible apply Sel.there)) (by infer_instance) | apply Split.cons (by repeat (first | with_reducible exact Sel.here | with_reducible apply Sel.there)))) ?_
  exact s_ret1 (rs := [.tmp 2]) Try.func38 rfl (by intro j; refine RVS.tmp _ rfl ?_; exact RVS.nil) (⟨rfl, rfl⟩) (by repeat (first | exact Ent.nil | refine Ent.per (by repeat (first | with_reducible exact Sel.here | with_reducible apply Sel.there)) ?_ | refine Ent.cons (by repeat (first | with_reducible exact Sel.here | with_reducible apply Sel.there)) ?_))
theorem nwrite0_c (k g : Int) : Ctr Try.prog 72 [.agg #[.int .i64 0, .slice none 0 0, .slice none 0 0], .int .i64 k, .int .i64 g] [] (fun v Bs => v = .tuple #[.slice none 0 0, .int .i64 1] ∧ Bs = []) := by
  refine s_enter 72 [(0, _), (1, _), (2, _)] (fun F => [F]) Try.func72 fun F => ?_
  refine go_ ?_
  refine s_box fun r3 => ?_
  refine s_nilN (sz := 4) (m := 0) (row := itemRow (fun _ => (none, 0)) []) rfl ?_
  refine s_nilN (sz := 4) (m := 0) (row := kidRow []) rfl ?_
  refine go_ ?_
  refine s_call (sp := (by repeat (first | exact Split.nil | apply Split.perx (by repeat (first | with_reducible exact Sel.here | with_reducible apply Sel.there)) (by infer_instance) | apply Split.cons (by repeat (first | with_reducible exact Sel.here | with_reducible apply Sel.there))))) (hs := nmay_c ⟨0, [], []⟩ (a := none) (b := none) (n := 0) (c := 0) (m := 0) (d := 0) (w := fun _ => (none, 0)) rfl rfl (by decide) (by decide) (fun i hi => absurd hi (Nat.not_lt_zero _))) (h := ?_)
  rintro v Bs ⟨rfl, rfl⟩
  rw [show nodeOk ⟨0, [], []⟩ = false by rfl]
  refine go_ ?_
  exact s_rett (rs := [.tmp 6, .tmp 7]) (vs := [_, _]) Try.func72 rfl (by intro j; refine RVS.tmp _ rfl ?_; refine RVS.tmp _ rfl ?_; exact RVS.nil) rfl (⟨rfl, rfl⟩) (by repeat (first | exact Ent.nil | refine Ent.per (by repeat (first | with_reducible exact Sel.here | with_reducible apply Sel.there)) ?_ | refine Ent.cons (by repeat (first | with_reducible exact Sel.here | with_reducible apply Sel.there)) ?_))
theorem nz_c (c : Nat) : Ctr Try.prog 91 [.int .u8 c] [] (fun v Bs => v = .bool (decide (c ≠ 0)) ∧ Bs = []) := by
  refine s_enter 5 [(0, _)] (fun F => [F]) Try.func91 fun F => ?_
  refine go_ ?_
  exact s_ret1 (rs := [.tmp 2]) Try.func91 rfl (by intro j; refine RVS.tmp _ rfl ?_; exact RVS.nil) (⟨by congr 1; by_cases h : c = 0 <;> simp [h], rfl⟩) (by repeat (first | exact Ent.nil | refine Ent.per (by repeat (first | with_reducible exact Sel.here | with_reducible apply Sel.there)) ?_ | refine Ent.cons (by repeat (first | with_reducible exact Sel.here | with_reducible apply Sel.there)) ?_))
theorem index0_c {a : Option Addr} {n c : Nat} {l : List Nat} (hn : l.length = n) (hz : ∀ i, i < n → l.getD i 0 = 0) (hl : n < 1000000) : Ctr Try.prog 116 [.slice a n c, .func (.func 91) #[] #[]] [SA none 1 (.slice a n c) n (byR l)] (fun v Bs => v = .int .i64 (-1) ∧ Bs = []) := by
  refine s_enter 19 [(0, _), (1, _)] (fun F => [_, F]) Try.func116 fun F => ?_
  refine go_ ?_
  refine s_loop (fun i : Nat => [(0, .slice a n c), (1, .func (.func 91) #[] #[]), (7, .int .i64 n), (8, .int .i64 i)]) (fun _ => [SA none 1 (.slice a n c) n (byR l), F]) (fun i => i ≤ n) (fun i => n - i) 0 (Nat.zero_le _) (by repeat (first | exact Ent.nil | refine Ent.per (by repeat (first | with_reducible exact Sel.here | with_reducible apply Sel.there)) ?_ | refine Ent.cons (by repeat (first | with_reducible exact Sel.here | with_reducible apply Sel.there)) ?_)) ?_
  intro i hi next
  refine go_ ?_
  refine s_if (fun h => ?_) (fun h => ?_)
  · have hi2 : i < n := by omega
    refine go_ ?_
    refine s_step (st_callC (sp := (by repeat (first | exact Split.nil | apply Split.perx (by repeat (first | with_reducible exact Sel.here | with_reducible apply Sel.there)) (by infer_instance) | apply Split.cons (by repeat (first | with_reducible exact Sel.here | with_reducible apply Sel.there))))) (hs := nz_c (l.getD i 0))) ?_
    rintro v Bs ⟨Cs, ⟨rfl, rfl⟩, rfl⟩
    rw [hz i hi2]
    refine go_ ?_
    exact s_entF (by repeat (first | exact Ent.nil | refine Ent.per (by repeat (first | with_reducible exact Sel.here | with_reducible apply Sel.there)) ?_ | refine Ent.cons (by repeat (first | with_reducible exact Sel.here | with_reducible apply Sel.there)) ?_)) (s_keep _ (next (i + 1) (by omega) (by omega)))
  · refine go_ ?_
    exact s_ret1 (rs := [.tmp 4]) Try.func116 rfl (by intro j; refine RVS.tmp _ rfl ?_; exact RVS.nil) (⟨rfl, rfl⟩) (by repeat (first | exact Ent.nil | refine Ent.per (by repeat (first | with_reducible exact Sel.here | with_reducible apply Sel.there)) ?_ | refine Ent.cons (by repeat (first | with_reducible exact Sel.here | with_reducible apply Sel.there)) ?_))
theorem contains0_c {a : Option Addr} {n c : Nat} {l : List Nat} (hn : l.length = n) (hz : ∀ i, i < n → l.getD i 0 = 0) (hl : n < 1000000) : Ctr Try.prog 90 [.slice a n c, .func (.func 91) #[] #[]] [SA none 1 (.slice a n c) n (byR l)] (fun v Bs => v = .bool false ∧ Bs = []) := by
  refine s_enter 9 [(0, _), (1, _)] (fun F => [_, F]) Try.func90 fun F => ?_
  refine go_ ?_
  refine s_call (sp := (by repeat (first | exact Split.nil | apply Split.perx (by repeat (first | with_reducible exact Sel.here | with_reducible apply Sel.there)) (by infer_instance) | apply Split.cons (by repeat (first | with_reducible exact Sel.here | with_reducible apply Sel.there))))) (hs := index0_c (a := a) (c := c) hn hz hl) (h := ?_)
  rintro v Bs ⟨rfl, rfl⟩
  refine go_ ?_
  exact s_ret1 (rs := [.tmp 4]) Try.func90 rfl (by intro j; refine RVS.tmp _ rfl ?_; exact RVS.nil) (⟨rfl, rfl⟩) (by repeat (first | exact Ent.nil | refine Ent.per (by repeat (first | with_reducible exact Sel.here | with_reducible apply Sel.there)) ?_ | refine Ent.cons (by repeat (first | with_reducible exact Sel.here | with_reducible apply Sel.there)) ?_))
/-! ### blocks of bytes that are laid down -/
structure OB where
  kind : Int
  l : List Nat
  a : Option Addr
  c : Nat
abbrev OB.v (o : OB) : Value := .agg #[.int .i64 o.kind, .int .i64 0, .slice none 0 0, .slice none 0 0, .slice o.a o.l.length o.c]
abbrev bmap (g : Int → Option OB) : Int → Option Value := fun k => (g k).map OB.v
def bset (g : Int → Option OB) (k : Int) (o : OB) : Int → Option OB := fun q => if q = k then some o else g q
theorem bmap_set (g : Int → Option OB) (k : Int) (o : OB) : mset (bmap g) k (some o.v) = bmap (bset g k o) := by
  funext q; unfold mset bmap bset; by_cases e : q = k
  · rw [if_pos e, if_pos e]; rfl
  · rw [if_neg e, if_neg e]
def Obs (g : Int → Option OB) : HP := ⟨fun H M => ∀ k o, g k = some o → (BS (.slice o.a o.l.length o.c) o.l).p H M, fun h1 h2 h k o e => (BS (.slice o.a o.l.length o.c) o.l).mono h1 h2 (h k o e)⟩
instance {g : Int → Option OB} : Per (Obs g) := ⟨fun h k o e => Per.h (A := BS (.slice o.a o.l.length o.c) o.l) (h k o e)⟩
section
variable {P : Program} {f : FuncId} {n : Nat} {R : Value → HP} {k : List It} {l : List (Nat × Value)} {As Bs Rs : List HP}
theorem s_obs0 (h : RunS P f n R k l (Obs (fun _ => none) :: As)) : RunS P f n R k l As := .mk fun H M s => h H M (per_add (M0 := M) (fun _ _ e => nomatch e) s)
theorem s_obsP {g : Int → Option OB} (kk : Int) (o : OB) (s0 : Sel (Obs g) As Bs) (s1 : Sel (BS (.slice o.a o.l.length o.c) o.l) Bs Rs) (h : RunS P f n R k l (Obs (bset g kk o) :: Rs)) : RunS P f n R k l As := .mk fun H M s => by
  have a0 := s0.hold s
  have t0 := star_snd (s0.sat s)
  have a1 := s1.hold t0
  refine h H M (per_add (M0 := M) (fun q y e => ?_) (star_snd (s1.sat t0)))
  unfold bset at e
  by_cases hq : q = kk
  · rw [if_pos hq] at e; cases e; exact a1
  · rw [if_neg hq] at e; exact a0 q y e
theorem s_obsG {g : Int → Option OB} (kk : Int) (o : OB) (s0 : Sel (Obs g) As Bs) (e : g kk = some o) (h : RunS P f n R k l (BS (.slice o.a o.l.length o.c) o.l :: As)) : RunS P f n R k l As := .mk fun H M s =>
  h H M (per_add (M0 := M) (s0.hold s kk o e) s)
end
set_option maxHeartbeats 4000000 in
theorem layB_c (p b gen n bc m : Nat) (σ : Ct) (gm : Int → Option Value) (o : OB) : Ctr Try.prog 67 [.pointer (some ⟨p, 0, none⟩), o.v] [PoB p b gen n bc m, CtA bc σ, MG m gm]
    (fun v Bs => (∃ i, σ.free? = some i ∧ v = .tuple #[.int .i64 (i : Nat), .int .i64 0] ∧ Bs = [PoB p b gen n bc m, CtA bc { σ with now := nset σ.now i 1 }, MG m (mset gm i (some o.v))]) ∨
      (σ.free? = none ∧ v = .tuple #[.int .i64 0, .int .i64 6] ∧ Bs = [PoB p b gen n bc m, CtA bc σ, MG m gm])) := by
  refine s_enter 26 [(0, _), (1, _)] (fun F => [_, _, _, F]) Try.func67 fun F => ?_
  refine go_ ?_
  refine s_box fun r3 => ?_
  refine go_ ?_
  refine s_call (sp := (by repeat (first | exact Split.nil | apply Split.perx (by repeat (first | with_reducible exact Sel.here | with_reducible apply Sel.there)) (by infer_instance) | apply Split.cons (by repeat (first | with_reducible exact Sel.here | with_reducible apply Sel.there))))) (hs := calloc_c bc σ) (h := ?_)
  rintro v Bs (⟨i, hf, rfl, rfl⟩ | ⟨hf, rfl, rfl⟩)
  · refine go_ ?_
    refine s_front (a := MG m gm) (by repeat (first | with_reducible exact Sel.here | with_reducible apply Sel.there)) ?_
    refine s_drawN 1 [.q 0, .q 1, .q 2, .q 3, .q 4, .q 5, .s 6] ?_
    refine do_ ?_
    refine d_stepU rfl (st_mu (by repeat (first | with_reducible exact Sel.here | with_reducible apply Sel.there))) ?_
    rintro v Bs rfl
    refine do_ ?_
    refine go_ ?_
    exact s_rett (rs := [.tmp 4, .tmp 5]) (vs := [_, _]) Try.func67 rfl (by intro j; refine RVS.tmp _ rfl ?_; refine RVS.tmp _ rfl ?_; exact RVS.nil) rfl (.inl ⟨i, hf, rfl, rfl⟩) (by repeat (first | exact Ent.nil | refine Ent.per (by repeat (first | with_reducible exact Sel.here | with_reducible apply Sel.there)) ?_ | refine Ent.cons (by repeat (first | with_reducible exact Sel.here | with_reducible apply Sel.there)) ?_))
  · refine go_ ?_
    exact s_rett (rs := [.tmp 4, .tmp 5]) (vs := [_, _]) Try.func67 rfl (by intro j; refine RVS.tmp _ rfl ?_; refine RVS.tmp _ rfl ?_; exact RVS.nil) rfl (.inr ⟨hf, rfl, rfl⟩) (by repeat (first | exact Ent.nil | refine Ent.per (by repeat (first | with_reducible exact Sel.here | with_reducible apply Sel.there)) ?_ | refine Ent.cons (by repeat (first | with_reducible exact Sel.here | with_reducible apply Sel.there)) ?_))
set_option maxHeartbeats 4000000 in
theorem pputB_c (p b gen n bc m : Nat) (σ : Ct) (g : Int → Option OB) {a : Option Addr} {c : Nat} (l : List Nat) (hl : l.length ≤ 128) : Ctr Try.prog 34 [.pointer (some ⟨p, 0, none⟩), .int .i64 5, .slice a l.length c] [PoB p b gen n bc m, CtA bc σ, MG m (bmap g), Obs g, BS (.slice a l.length c) l]
    (fun v Bs => (∃ i a' c', σ.free? = some i ∧ v = .tuple #[.int .i64 (i : Nat), .int .i64 0] ∧ Bs = [PoB p b gen n bc m, CtA bc { σ with now := nset σ.now i 1 }, MG m (bmap (bset g i ⟨5, l, a', c'⟩)), Obs (bset g i ⟨5, l, a', c'⟩)]) ∨
      (σ.free? = none ∧ v = .tuple #[.int .i64 0, .int .i64 6] ∧ Bs = [PoB p b gen n bc m, CtA bc σ, MG m (bmap g), Obs g])) := by
  refine s_enter 31 [(0, _), (1, _), (2, _)] (fun F => [_, _, _, _, _, F]) Try.func34 fun F => ?_
  refine go_ ?_
  refine s_call (sp := (by repeat (first | exact Split.nil | apply Split.perx (by repeat (first | with_reducible exact Sel.here | with_reducible apply Sel.there)) (by infer_instance) | apply Split.cons (by repeat (first | with_reducible exact Sel.here | with_reducible apply Sel.there))))) (hs := most_c 5) (h := ?_)
  rintro v Bs ⟨rfl, rfl⟩
  refine go_ ?_
  refine s_if (fun h => ?_) (fun h => ?_)
  · exact absurd h (by show ¬ (l.length : Int) > 128; omega)
  refine go_ ?_
  refine s_call (sp := (by repeat (first | exact Split.nil | apply Split.perx (by repeat (first | with_reducible exact Sel.here | with_reducible apply Sel.there)) (by infer_instance) | apply Split.cons (by repeat (first | with_reducible exact Sel.here | with_reducible apply Sel.there))))) (hs := cloneB_c (A := BS (.slice a l.length c) l) (a := a) (n := l.length) (c := c) (row := byR l) (by rw [flat_byR']; exact bcl_one l) (by omega)) (h := ?_)
  rintro v Bs ⟨a', c', rfl, rfl⟩
  refine go_ ?_
  refine s_fzO (e := 5) (v := .slice a' l.length c') (by repeat (first | with_reducible exact Sel.here | with_reducible apply Sel.there)) ?_
  refine s_open (B := BS (.slice a' l.length c') l) (fun _ _ q => q) ?_
  refine s_call (sp := (by repeat (first | exact Split.nil | apply Split.perx (by repeat (first | with_reducible exact Sel.here | with_reducible apply Sel.there)) (by infer_instance) | apply Split.cons (by repeat (first | with_reducible exact Sel.here | with_reducible apply Sel.there))))) (hs := layB_c p b gen n bc m σ (bmap g) ⟨5, l, a', c'⟩) (h := ?_)
  rintro v Bs (⟨i, hf, rfl, rfl⟩ | ⟨hf, rfl, rfl⟩)
  · refine go_ ?_
    rw [bmap_set]
    refine s_obsP (g := g) (i : Int) ⟨5, l, a', c'⟩ (by repeat (first | with_reducible exact Sel.here | with_reducible apply Sel.there)) (by repeat (first | with_reducible exact Sel.here | with_reducible apply Sel.there)) ?_
    exact s_rett (rs := [.tmp 6, .tmp 7]) (vs := [_, _]) Try.func34 rfl (by intro j; refine RVS.tmp _ rfl ?_; refine RVS.tmp _ rfl ?_; exact RVS.nil) rfl (.inl ⟨i, a', c', hf, rfl, rfl⟩) (by repeat (first | exact Ent.nil | refine Ent.per (by repeat (first | with_reducible exact Sel.here | with_reducible apply Sel.there)) ?_ | refine Ent.cons (by repeat (first | with_reducible exact Sel.here | with_reducible apply Sel.there)) ?_))
  · refine go_ ?_
    exact s_rett (rs := [.tmp 6, .tmp 7]) (vs := [_, _]) Try.func34 rfl (by intro j; refine RVS.tmp _ rfl ?_; refine RVS.tmp _ rfl ?_; exact RVS.nil) rfl (.inr ⟨hf, rfl, rfl⟩) (by repeat (first | exact Ent.nil | refine Ent.per (by repeat (first | with_reducible exact Sel.here | with_reducible apply Sel.there)) ?_ | refine Ent.cons (by repeat (first | with_reducible exact Sel.here | with_reducible apply Sel.there)) ?_))
end Go.Proofs.Ytgbbcpfnmkeijaa
/- pool.Bytes. -/
namespace Go.Proofs.Ytgbbcpfnmkeijaa
open Go.Cam
set_option maxRecDepth 100000
theorem pcountN_c (p b gen n bc m : Nat) (σ : Ct) (k : Nat) (hk : k < σ.n) : Ctr Try.prog 49 [.pointer (some ⟨p, 0, none⟩), .int .i64 k] [PoB p b gen n bc m, CtA bc σ] (fun v Bs => v = .int .i64 (σ.now k : Nat) ∧ Bs = [PoB p b gen n bc m, CtA bc σ]) := by
  have := pcount_c p b gen n bc m σ (k : Int)
  rw [if_pos ⟨by omega, by omega⟩, Int.toNat_natCast] at this
  exact this
set_option maxHeartbeats 4000000 in
/-- of a block that is counted by nobody -/
theorem pbytesN_c (p b gen n bc m : Nat) (σ : Ct) (k : Nat) (hk : k < σ.n) (h0 : σ.now k = 0) : Ctr Try.prog 54 [.pointer (some ⟨p, 0, none⟩), .int .i64 k, .int .i64 5] [PoB p b gen n bc m, CtA bc σ] (fun v Bs => v = .tuple #[.slice none 0 0, .int .i64 1] ∧ Bs = [PoB p b gen n bc m, CtA bc σ]) := by
  refine s_enter 88 [(0, _), (1, _), (2, _)] (fun F => [_, _, F]) Try.func54 fun F => ?_
  refine go_ ?_
  refine s_call (sp := (by repeat (first | exact Split.nil | apply Split.perx (by repeat (first | with_reducible exact Sel.here | with_reducible apply Sel.there)) (by infer_instance) | apply Split.cons (by repeat (first | with_reducible exact Sel.here | with_reducible apply Sel.there))))) (hs := most_c 5) (h := ?_)
  rintro v Bs ⟨rfl, rfl⟩
  refine go_ ?_
  refine s_call (sp := (by repeat (first | exact Split.nil | apply Split.perx (by repeat (first | with_reducible exact Sel.here | with_reducible apply Sel.there)) (by infer_instance) | apply Split.cons (by repeat (first | with_reducible exact Sel.here | with_reducible apply Sel.there))))) (hs := pcountN_c p b gen n bc m σ k hk) (h := ?_)
  rintro v Bs ⟨rfl, rfl⟩
  rw [h0]
  refine go_ ?_
  exact s_rett (rs := [.tmp 6, .tmp 7]) (vs := [_, _]) Try.func54 rfl (by intro j; refine RVS.tmp _ rfl ?_; refine RVS.tmp _ rfl ?_; exact RVS.nil) rfl (⟨rfl, rfl⟩) (by repeat (first | exact Ent.nil | refine Ent.per (by repeat (first | with_reducible exact Sel.here | with_reducible apply Sel.there)) ?_ | refine Ent.cons (by repeat (first | with_reducible exact Sel.here | with_reducible apply Sel.there)) ?_))
set_option maxHeartbeats 4000000 in
/-- of a block that was laid down since the last commit -/
theorem pbytesM_c (p b gen n bc m : Nat) (σ : Ct) (g : Int → Option OB) (k : Nat) (hk : k < σ.n) (h0 : σ.now k ≠ 0) (o : OB) (hg : g k = some o) (ho : o.kind = 5) (hl : o.l.length < 1000000) : Ctr Try.prog 54 [.pointer (some ⟨p, 0, none⟩), .int .i64 k, .int .i64 5] [PoB p b gen n bc m, CtA bc σ, MG m (bmap g), Obs g]
    (fun v Bs => ∃ a c, v = .tuple #[.slice a o.l.length c, .int .i64 0] ∧ Bs = [PoB p b gen n bc m, CtA bc σ, MG m (bmap g), Obs g, BS (.slice a o.l.length c) o.l]) := by
  have hgm : bmap g k = some o.v := by show (g k).map _ = _; rw [hg]; rfl
  refine s_enter 88 [(0, _), (1, _), (2, _)] (fun F => [_, _, _, _, F]) Try.func54 fun F => ?_
  refine go_ ?_
  refine s_call (sp := (by repeat (first | exact Split.nil | apply Split.perx (by repeat (first | with_reducible exact Sel.here | with_reducible apply Sel.there)) (by infer_instance) | apply Split.cons (by repeat (first | with_reducible exact Sel.here | with_reducible apply Sel.there))))) (hs := most_c 5) (h := ?_)
  rintro v Bs ⟨rfl, rfl⟩
  refine go_ ?_
  refine s_call (sp := (by repeat (first | exact Split.nil | apply Split.perx (by repeat (first | with_reducible exact Sel.here | with_reducible apply Sel.there)) (by infer_instance) | apply Split.cons (by repeat (first | with_reducible exact Sel.here | with_reducible apply Sel.there))))) (hs := pcountN_c p b gen n bc m σ k hk) (h := ?_)
  rintro v Bs ⟨rfl, rfl⟩
  refine go_ ?_
  rw [show ((((σ.now k : Nat) : Int)) == 0) = false from beq_eq_false_iff_ne.2 (by omega)]
  refine go_ ?_
  refine s_look (lk_lks2 hgm) ?_
  refine go_ ?_
  refine s_alloc fun r10 => ?_
  refine go_ ?_
  rw [ho]
  refine go_ ?_
  refine s_obsG k o (by repeat (first | with_reducible exact Sel.here | with_reducible apply Sel.there)) hg ?_
  refine s_call (sp := (by repeat (first | exact Split.nil | apply Split.perx (by repeat (first | with_reducible exact Sel.here | with_reducible apply Sel.there)) (by infer_instance) | apply Split.cons (by repeat (first | with_reducible exact Sel.here | with_reducible apply Sel.there))))) (hs := cloneB_c (A := BS (.slice o.a o.l.length o.c) o.l) (a := o.a) (n := o.l.length) (c := o.c) (row := byR o.l) (by rw [flat_byR']; exact bcl_one o.l) hl) (h := ?_)
  rintro v Bs ⟨a', c', rfl, rfl⟩
  refine go_ ?_
  refine s_fzO (e := 5) (v := .slice a' o.l.length c') (by repeat (first | with_reducible exact Sel.here | with_reducible apply Sel.there)) ?_
  refine s_open (B := BS (.slice a' o.l.length c') o.l) (fun _ _ q => q) ?_
  exact s_rett (rs := [.tmp 6, .tmp 7]) (vs := [_, _]) Try.func54 rfl (by intro j; refine RVS.tmp _ rfl ?_; refine RVS.tmp _ rfl ?_; exact RVS.nil) rfl (⟨a', c', rfl, rfl⟩) (by repeat (first | exact Ent.nil | refine Ent.per (by repeat (first | with_reducible exact Sel.here | with_reducible apply Sel.there)) ?_ | refine Ent.cons (by repeat (first | with_reducible exact Sel.here | with_reducible apply Sel.there)) ?_))
set_option maxHeartbeats 8000000 in
/-- of a block on the disk -/
theorem pbytesD_c (p b gen n bc m : Nat) (σ : Ct) (g : Int → Option OB) (σd : Dr) (k gn : Nat) (l : List Nat) (hk : k < σ.n) (h0 : σ.now k ≠ 0) (hg : g k = none) (hn : k < σd.n) (hon : σd.off = false) (hst : σd.steps < 1000000000) (hl : l.length ≤ 128) (hb : Bys l) (hh : Head.ok ⟨5, k, l.length, 0, gn⟩) (hs : σd.lastS k = sealB ⟨5, k, l.length, 0, gn⟩ l) :
    Ctr Try.prog 54 [.pointer (some ⟨p, 0, none⟩), .int .i64 k, .int .i64 5] [PoB p b gen n bc m, CtA bc σ, MG m (bmap g), DrA b σd]
    (fun v Bs => ∃ a c, v = .tuple #[.slice a l.length c, .int .i64 0] ∧ Bs = [PoB p b gen n bc m, CtA bc σ, MG m (bmap g), DrA b σd, BS (.slice a l.length c) l]) := by
  have hgm : bmap g k = none := by show (g k).map _ = _; rw [hg]; rfl
  obtain ⟨o1, o2, o3⟩ := open_seal hh hb (by omega)
  have hck : checkOk (sealB ⟨5, k, l.length, 0, gn⟩ l) 5 k := ⟨o1, by rw [o2], by rw [o2]⟩
  refine s_enter 88 [(0, _), (1, _), (2, _)] (fun F => [_, _, _, _, F]) Try.func54 fun F => ?_
  refine go_ ?_
  refine s_call (sp := (by repeat (first | exact Split.nil | apply Split.perx (by repeat (first | with_reducible exact Sel.here | with_reducible apply Sel.there)) (by infer_instance) | apply Split.cons (by repeat (first | with_reducible exact Sel.here | with_reducible apply Sel.there))))) (hs := most_c 5) (h := ?_)
  rintro v Bs ⟨rfl, rfl⟩
  refine go_ ?_
  refine s_call (sp := (by repeat (first | exact Split.nil | apply Split.perx (by repeat (first | with_reducible exact Sel.here | with_reducible apply Sel.there)) (by infer_instance) | apply Split.cons (by repeat (first | with_reducible exact Sel.here | with_reducible apply Sel.there))))) (hs := pcountN_c p b gen n bc m σ k hk) (h := ?_)
  rintro v Bs ⟨rfl, rfl⟩
  refine go_ ?_
  rw [show ((((σ.now k : Nat) : Int)) == 0) = false from beq_eq_false_iff_ne.2 (by omega)]
  refine go_ ?_
  refine s_look (lk_lkn2 hgm) ?_
  refine go_ ?_
  refine s_alloc fun r10 => ?_
  refine go_ ?_
  refine s_call (sp := (by repeat (first | exact Split.nil | apply Split.perx (by repeat (first | with_reducible exact Sel.here | with_reducible apply Sel.there)) (by infer_instance) | apply Split.cons (by repeat (first | with_reducible exact Sel.here | with_reducible apply Sel.there))))) (hs := dread_c b σd k hn hst) (h := ?_)
  rintro v Bs (⟨ho, _⟩ | ⟨_, ra, rfl, rfl⟩)
  · rw [hon] at ho; cases ho
  rw [hs]
  refine go_ ?_
  refine s_call (sp := (by repeat (first | exact Split.nil | apply Split.perx (by repeat (first | with_reducible exact Sel.here | with_reducible apply Sel.there)) (by infer_instance) | apply Split.cons (by repeat (first | with_reducible exact Sel.here | with_reducible apply Sel.there))))) (hs := check_c (sealB ⟨5, k, l.length, 0, gn⟩ l) 5 k (sealB_len (by omega)) (sealB_bys hb)) (h := ?_)
  rintro v Bs (⟨ho, _⟩ | ⟨_, a2, c2, rfl, rfl⟩)
  · exact absurd hck ho
  rw [o2, o3]
  refine go_ ?_
  refine s_alloc fun r14 => ?_
  refine go_ ?_
  refine s_know (a := SA none 1 (.slice a2 236 c2) 236 (byR (l ++ List.replicate (236 - l.length) 0))) (by repeat (first | with_reducible exact Sel.here | with_reducible apply Sel.there)) (fun H M q => SA.cap H M q) fun hcap => ?_
  refine s_if (fun h => ?_) (fun h => ?_)
  · exact absurd h (by show ¬ (l.length : Int) > 128; omega)
  refine go_ ?_
  refine s_look (lk_slc (a := a2) (len := 236) (cap := c2) l.length 236 (by omega) hcap) ?_
  refine s_part l.length 236 (by omega) (Nat.le_refl _) (a := a2) (m := 236) (cap := c2) (by repeat (first | with_reducible exact Sel.here | with_reducible apply Sel.there)) ?_
  refine s_open (SA.cg (byR (List.replicate (236 - l.length) 0)) fun i hi => by
    simp [byR, List.getD_eq_getElem?_getD, List.getElem?_append_right]) ?_
  refine go_ ?_
  refine s_call (sp := (by repeat (first | exact Split.nil | apply Split.perx (by repeat (first | with_reducible exact Sel.here | with_reducible apply Sel.there)) (by infer_instance) | apply Split.cons (by repeat (first | with_reducible exact Sel.here | with_reducible apply Sel.there))))) (hs := contains0_c (l := List.replicate (236 - l.length) 0) (n := 236 - l.length) (by simp) (fun i hi => getD_zeros _ _) (by omega)) (h := ?_)
  rintro v Bs ⟨rfl, rfl⟩
  refine go_ ?_
  refine s_look (lk_slc (a := a2) (len := 236) (cap := c2) 0 l.length (by omega) (by omega)) ?_
  refine s_part 0 l.length (by omega) (by omega) (a := a2) (m := 236) (cap := c2) (by repeat (first | with_reducible exact Sel.here | with_reducible apply Sel.there)) ?_
  rw [sladdr0]
  refine s_open (B := BS (.slice a2 l.length c2) l) (SA.cg (byR l) fun i hi => by
    have : i < l.length := by omega
    simp [byR, List.getD_eq_getElem?_getD, List.getElem?_append_left, this]) ?_
  refine go_ ?_
  exact s_rett (rs := [.tmp 6, .tmp 7]) (vs := [_, _]) Try.func54 rfl (by intro j; refine RVS.tmp _ rfl ?_; refine RVS.tmp _ rfl ?_; exact RVS.nil) rfl (⟨a2, c2, rfl, rfl⟩) (by repeat (first | exact Ent.nil | refine Ent.per (by repeat (first | with_reducible exact Sel.here | with_reducible apply Sel.there)) ?_ | refine Ent.cons (by repeat (first | with_reducible exact Sel.here | with_reducible apply Sel.there)) ?_))
end Go.Proofs.Ytgbbcpfnmkeijaa
/- pool.Commit. -/
namespace Go.Proofs.Ytgbbcpfnmkeijaa
open Go.Cam
set_option maxRecDepth 100000
/-- the blocks that a commit writes -/
def putsW (σ : Ct) (g : Int → Option OB) (gn : Nat) : List Int → List (Nat × List Nat)
  | [] => []
  | k :: ks => (match g k with | some o => if σ.now k.toNat = 0 then [] else [(k.toNat, sealB ⟨5, k.toNat, o.l.length, 0, gn⟩ o.l)] | none => []) ++ putsW σ g gn ks
def Dr.puts (σ : Dr) : List (Nat × List Nat) → Dr × Bool
  | [] => (σ, true)
  | x :: ws => if (σ.write x.1 x.2).2 then (σ.write x.1 x.2).1.puts ws else ((σ.write x.1 x.2).1, false)
structure BmOk (σ : Ct) (g : Int → Option OB) : Prop where
  k : ∀ k, g k ≠ none → 0 ≤ k ∧ k < (σ.n : Nat)
  o : ∀ k o, g k = some o → o.kind = 5 ∧ o.l.length ≤ 128 ∧ Bys o.l
theorem bmap_none {g : Int → Option OB} {k : Int} : bmap g k ≠ none ↔ g k ≠ none := by
  unfold bmap
  cases g k <;> simp
theorem blkHd_ok {n k len gn : Nat} (hn : n ≤ 2048) (hk : k < n) (hl : len ≤ 128) (hg : gn ≤ 1099511627775) : Head.ok ⟨5, k, len, 0, gn⟩ := by
  refine ⟨by show 1 ≤ 5; omega, by show 5 ≤ 6; omega, fun q hq => ?_⟩
  match q, hq with
  | 0, _ => exact Nat.zero_le _
  | 1, _ => show k ≤ 2047; omega
  | 2, _ => exact Nat.le_trans hl (by decide)
  | 3, _ => exact hg
/-- what a commit does to the disk; true: all is there -/
def Dr.commit (σd : Dr) (σ : Ct) (g : Int → Option OB) (gn : Nat) : Dr × Bool :=
  if (σd.puts (putsW σ g gn (keysN (bmap g) σ.n))).2 then (σd.puts (putsW σ g gn (keysN (bmap g) σ.n))).1.flip σ gn else ((σd.puts (putsW σ g gn (keysN (bmap g) σ.n))).1, false)
set_option maxHeartbeats 16000000 in
theorem pcommit_c (p b gen bc m : Nat) (σ : Ct) (g : Int → Option OB) (σd : Dr) (h1 : 32 ≤ σ.n) (h2 : σ.n ≤ 2048) (hn : σd.n = σ.n) (hst : σd.steps < 800000000) (hgen : gen + 1 ≤ 1099511627775) (hbm : BmOk σ g) :
    Ctr Try.prog 37 [.pointer (some ⟨p, 0, none⟩)] [PoB p b gen σ.n bc m, CtA bc σ, MG m (bmap g), Obs g, DrA b σd]
    (fun v Bs => ((σd.commit σ g (gen + 1)).2 = true ∧ v = .int .i64 0 ∧ Bs = [PoB p b (gen + 1) σ.n bc m, CtA bc { σ with done := σ.now }, MG m (fun _ => none), DrA b (σd.commit σ g (gen + 1)).1]) ∨
      ((σd.commit σ g (gen + 1)).2 = false ∧ v = .int .i64 4 ∧ Bs = [PoB p b gen σ.n bc m, CtA bc σ, MG m (bmap g), Obs g, DrA b (σd.commit σ g (gen + 1)).1])) := by
  refine s_enter 104 [(0, _)] (fun F => [_, _, _, _, _, F]) Try.func37 fun F => ?_
  refine go_ ?_
  refine s_alloc fun r3 => ?_
  refine go_ ?_
  rw [show (gen : Int) + 1 = ((gen + 1 : Nat) : Int) by omega]
  refine s_call (sp := (by repeat (first | exact Split.nil | apply Split.perx (by repeat (first | with_reducible exact Sel.here | with_reducible apply Sel.there)) (by infer_instance) | apply Split.cons (by repeat (first | with_reducible exact Sel.here | with_reducible apply Sel.there))))) (hs := keys_c m) (h := ?_)
  rintro v Bs ⟨rk, rfl, rfl⟩
  refine go_ ?_
  refine s_call (sp := (by repeat (first | exact Split.nil | apply Split.perx (by repeat (first | with_reducible exact Sel.here | with_reducible apply Sel.there)) (by infer_instance) | apply Split.cons (by repeat (first | with_reducible exact Sel.here | with_reducible apply Sel.there))))) (hs := sorted_c m rk (bmap g) σ.n (by omega) (fun k hk => hbm.k k (bmap_none.1 hk))) (h := ?_)
  rintro v Bs ⟨ak, ck, rfl, rfl⟩
  refine go_ ?_
  have hkm := fun k => keysN_mem (gm := bmap g) (N := σ.n) (fun k hk => hbm.k k (bmap_none.1 hk)) k
  have hkl : (keysN (bmap g) σ.n).length ≤ σ.n := by
    unfold keysN
    refine Nat.le_trans (List.length_filter_le _ _) ?_
    simp
  generalize hK : keysN (bmap g) σ.n = ks at *
  refine s_loop (fun q : Nat × Dr => [(0, .pointer (some ⟨p, 0, none⟩)), (3, .pointer (some ⟨r3, 0, none⟩)), (24, .slice ak ks.length ck), (25, .int .i64 (ks.length : Nat)), (26, .int .i64 q.1)])
    (fun q => [SO 3 1 (.slice ak ks.length ck) ks.length (pathR ks), PoB p b gen σ.n bc m, CtA bc σ, MG m (bmap g), Obs g, DrA b q.2, Box r3 82 (supL (gen + 1) σ.n), F])
    (fun q => q.1 ≤ ks.length ∧ q.2.n = σ.n ∧ q.2.steps ≤ σd.steps + q.1 ∧ q.2.puts (putsW σ g (gen + 1) (ks.drop q.1)) = σd.puts (putsW σ g (gen + 1) ks)) (fun q => ks.length - q.1) (0, σd) ⟨Nat.zero_le _, hn, Nat.le_refl _, rfl⟩ (by repeat (first | exact Ent.nil | refine Ent.per (by repeat (first | with_reducible exact Sel.here | with_reducible apply Sel.there)) ?_ | refine Ent.cons (by repeat (first | with_reducible exact Sel.here | with_reducible apply Sel.there)) ?_)) ?_
  rintro ⟨i, σi⟩ ⟨hi, hin, hist, he⟩ next
  dsimp only at hi hin hist he next ⊢
  refine go_ ?_
  refine s_if (fun h => ?_) (fun h => ?_)
  · have hi2 : i < ks.length := by omega
    have hki : ks.getD i 0 = ks[i] := by simp [List.getD_eq_getElem?_getD, hi2]
    have hgk : g (ks.getD i 0) ≠ none := bmap_none.1 ((hkm _).1 (by rw [hki]; exact List.getElem_mem hi2))
    obtain ⟨o, ho⟩ : ∃ o, g (ks.getD i 0) = some o := by
      cases hq : g (ks.getD i 0) with
      | none => exact absurd hq hgk
      | some o => exact ⟨o, rfl⟩
    obtain ⟨hk1, hk2⟩ := hbm.k _ hgk
    obtain ⟨o1, o2, o3⟩ := hbm.o _ _ ho
    rw [List.drop_eq_getElem_cons hi2, ← hki, putsW, ho] at he
    obtain ⟨k, hk⟩ : ∃ k : Nat, ks.getD i 0 = (k : Int) := ⟨(ks.getD i 0).toNat, by omega⟩
    rw [hk] at ho hk1 hk2 he
    rw [Int.toNat_natCast] at he
    refine go_ ?_
    rw [hk]
    refine s_call (sp := (by repeat (first | exact Split.nil | apply Split.perx (by repeat (first | with_reducible exact Sel.here | with_reducible apply Sel.there)) (by infer_instance) | apply Split.cons (by repeat (first | with_reducible exact Sel.here | with_reducible apply Sel.there))))) (hs := pcountN_c p b gen σ.n bc m σ k (by omega)) (h := ?_)
    rintro v Bs ⟨rfl, rfl⟩
    dsimp only at he
    refine go_ ?_
    by_cases h0' : σ.now k = 0
    · rw [if_pos h0', List.nil_append] at he
      rw [show ((((σ.now k : Nat) : Int)) == 0) = true from beq_iff_eq.2 (by omega)]
      refine go_ ?_
      exact s_entF (by repeat (first | exact Ent.nil | refine Ent.per (by repeat (first | with_reducible exact Sel.here | with_reducible apply Sel.there)) ?_ | refine Ent.cons (by repeat (first | with_reducible exact Sel.here | with_reducible apply Sel.there)) ?_)) (s_keep _ (next (i + 1, σi) ⟨by dsimp only; omega, hin, by dsimp only; omega, he⟩ (by dsimp only; omega)))
    · rw [if_neg h0', List.singleton_append, Dr.puts] at he
      rw [show ((((σ.now k : Nat) : Int)) == 0) = false from beq_eq_false_iff_ne.2 (by omega)]
      dsimp only at he
      have hgm : bmap g (k : Int) = some o.v := by show (g k).map _ = _; rw [ho]; rfl
      refine go_ ?_
      refine s_look (lk_lks hgm) ?_
      refine go_ ?_
      refine s_alloc fun r6 => ?_
      refine go_ ?_
      refine s_call (sp := (by repeat (first | exact Split.nil | apply Split.perx (by repeat (first | with_reducible exact Sel.here | with_reducible apply Sel.there)) (by infer_instance) | apply Split.cons (by repeat (first | with_reducible exact Sel.here | with_reducible apply Sel.there))))) (hs := nwrite0_c (k : Int) ((gen + 1 : Nat) : Int)) (h := ?_)
      rintro v Bs ⟨rfl, rfl⟩
      refine go_ ?_
      rw [o1]
      refine s_obsG (k : Int) o (by repeat (first | with_reducible exact Sel.here | with_reducible apply Sel.there)) ho ?_
      refine go_ ?_
      refine s_call (sp := (by repeat (first | exact Split.nil | apply Split.perx (by repeat (first | with_reducible exact Sel.here | with_reducible apply Sel.there)) (by infer_instance) | apply Split.cons (by repeat (first | with_reducible exact Sel.here | with_reducible apply Sel.there))))) (hs := seal_c (a := o.a) (c := o.c) ⟨5, k, o.l.length, 0, gen + 1⟩ o.l (blkHd_ok h2 (by omega) o2 hgen) o3 (by omega)) (h := ?_)
      rintro v Bs ⟨rs, rfl, rfl⟩
      refine go_ ?_
      refine s_call (sp := (by repeat (first | exact Split.nil | apply Split.perx (by repeat (first | with_reducible exact Sel.here | with_reducible apply Sel.there)) (by infer_instance) | apply Split.cons (by repeat (first | with_reducible exact Sel.here | with_reducible apply Sel.there))))) (hs := dwrite_c b σi k (sealB ⟨5, k, o.l.length, 0, gen + 1⟩ o.l) (a := some ⟨rs, 0, none⟩) (c := 256) (by omega) ⟨sealB_len (by omega), sealB_bys o3⟩ (by omega)) (h := ?_)
      rintro v Bs ⟨rfl, rfl⟩
      obtain ⟨n1, n2⟩ := σi.write_n k (sealB ⟨5, k, o.l.length, 0, gen + 1⟩ o.l)
      cases hw : (σi.write k (sealB ⟨5, k, o.l.length, 0, gen + 1⟩ o.l)).2 with
      | true =>
        rw [hw, if_pos rfl] at he
        refine go_ ?_
        exact s_entF (by repeat (first | exact Ent.nil | refine Ent.per (by repeat (first | with_reducible exact Sel.here | with_reducible apply Sel.there)) ?_ | refine Ent.cons (by repeat (first | with_reducible exact Sel.here | with_reducible apply Sel.there)) ?_)) (s_keep _ (next (i + 1, (σi.write k (sealB ⟨5, k, o.l.length, 0, gen + 1⟩ o.l)).1) ⟨by dsimp only; omega, by dsimp only; omega, by dsimp only; omega, he⟩ (by dsimp only; omega)))
      | false =>
        rw [hw, if_neg (by simp)] at he
        have e1 : σd.commit σ g (gen + 1) = ((σi.write k (sealB ⟨5, k, o.l.length, 0, gen + 1⟩ o.l)).1, false) := by
          unfold Dr.commit; rw [hK, ← he]; rfl
        rw [e1]
        refine go_ ?_
        exact s_ret1 (rs := [.tmp 2]) Try.func37 rfl (by intro j; refine RVS.tmp _ rfl ?_; exact RVS.nil) (.inr ⟨rfl, rfl, rfl⟩) (by repeat (first | exact Ent.nil | refine Ent.per (by repeat (first | with_reducible exact Sel.here | with_reducible apply Sel.there)) ?_ | refine Ent.cons (by repeat (first | with_reducible exact Sel.here | with_reducible apply Sel.there)) ?_))
  · have : i = ks.length := by omega
    subst this
    rw [List.drop_length, putsW, Dr.puts] at he
    have e1 : σd.commit σ g (gen + 1) = σi.flip σ (gen + 1) := by
      unfold Dr.commit; rw [hK, ← he]; rfl
    rw [e1]
    refine go_ ?_
    refine s_front (a := DrA b σi) (by repeat (first | with_reducible exact Sel.here | with_reducible apply Sel.there)) ?_
    refine s_front (a := CtA bc σ) (by repeat (first | with_reducible exact Sel.here | with_reducible apply Sel.there)) ?_
    refine s_drawN 2 [.q 0, .q 1, .q 2, .q 3, .q 4, .q 5, .q 6, .q 7, .q 8, .s 9, .q 10] ?_
    refine do_ ?_
    refine d_step rfl (st_call (sp := (by repeat (first | exact Split.nil | apply Split.perx (by repeat (first | with_reducible exact Sel.here | with_reducible apply Sel.there)) (by infer_instance) | apply Split.cons (by repeat (first | with_reducible exact Sel.here | with_reducible apply Sel.there))))) (hs := pflip_c b bc σi σ (gen + 1) h1 h2 hin (by omega) hgen (by omega))) ?_
    rintro v Bs ⟨Cs, ⟨rfl, rfl⟩, rfl⟩
    refine do_ ?_
    refine go_ ?_
    cases hf : (σi.flip σ (gen + 1)).2 with
    | false =>
      refine go_ ?_
      exact s_ret1 (rs := [.tmp 2]) Try.func37 rfl (by intro j; refine RVS.tmp _ rfl ?_; exact RVS.nil) (.inr ⟨rfl, rfl, rfl⟩) (by repeat (first | exact Ent.nil | refine Ent.per (by repeat (first | with_reducible exact Sel.here | with_reducible apply Sel.there)) ?_ | refine Ent.cons (by repeat (first | with_reducible exact Sel.here | with_reducible apply Sel.there)) ?_))
    | true =>
      refine go_ ?_
      refine s_call (sp := (by repeat (first | exact Split.nil | apply Split.perx (by repeat (first | with_reducible exact Sel.here | with_reducible apply Sel.there)) (by infer_instance) | apply Split.cons (by repeat (first | with_reducible exact Sel.here | with_reducible apply Sel.there))))) (hs := ccommit_c bc σ) (h := ?_)
      rintro v Bs ⟨rfl, rfl⟩
      refine go_ ?_
      refine s_stepU (st_clm (by repeat (first | with_reducible exact Sel.here | with_reducible apply Sel.there))) ?_
      rintro v Bs rfl
      refine go_ ?_
      exact s_ret1 (rs := [.tmp 2]) Try.func37 rfl (by intro j; refine RVS.tmp _ rfl ?_; exact RVS.nil) (.inl ⟨rfl, rfl, rfl⟩) (by repeat (first | exact Ent.nil | refine Ent.per (by repeat (first | with_reducible exact Sel.here | with_reducible apply Sel.there)) ?_ | refine Ent.cons (by repeat (first | with_reducible exact Sel.here | with_reducible apply Sel.there)) ?_))
end Go.Proofs.Ytgbbcpfnmkeijaa
