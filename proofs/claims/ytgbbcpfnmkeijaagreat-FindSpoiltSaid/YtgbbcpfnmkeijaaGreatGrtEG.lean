/- pool.Commit of an open map of nodes and bytes. -/
import Derived.Test.YtgbbcpfnmkeijaaGreatGrtEA
import Derived.Test.YtgbbcpfnmkeijaaGreatGrtED
import Derived.Test.YtgbbcpfnmkeijaaGreatGrtAP
namespace Go.Proofs.YtgbbcpfnmkeijaaGreat
open Go.Cam
set_option maxRecDepth 100000
/-- a block that was laid down, and where it lies -/
inductive Bk where
  | nd (x : Node)
  | bs (kd : Nat) (l : List Nat)
structure Pc where
  u : Plc
  a : Option Addr
  c : Nat
def Bk.v : Bk → Pc → Value
  | .nd x, q => blkV x q.u
  | .bs kd l, q => .agg #[.int .i64 kd, .int .i64 0, .slice none 0 0, .slice none 0 0, .slice q.a l.length q.c]
def Bk.at_ : Bk → Pc → Heap → Heap → Prop
  | .nd x, q, H, M => (Nd1 x q.u).p H M ∧ (Nd2 x q.u).p H M ∧ (Nd3 x q.u).p H M
  | .bs _ l, q, H, M => (BS (.slice q.a l.length q.c) l).p H M
/-- the bytes of its sector -/
def Bk.blk (k gn : Nat) : Bk → List Nat
  | .nd x => sealB (nodH x k gn) (nodB x)
  | .bs kd l => sealB ⟨kd, k, l.length, 0, gn⟩ l
def Bk.ok : Bk → Prop
  | .nd x => nodeOk x = true ∧ ∀ y ∈ x.items, Bys y.val
  | .bs kd l => (kd = 5 ∧ l.length ≤ 128 ∨ kd = 6 ∧ l.length ≤ 236) ∧ Bys l
abbrev kmap (g : Int → Option (Bk × Pc)) : Int → Option Value := fun k => (g k).map fun q => q.1.v q.2
theorem Bk.at_mono {b : Bk} {q : Pc} {H M H' M' : Heap} (h1 : Le H H') (h2 : Le M M') (h : b.at_ q H M) : b.at_ q H' M' := by
  cases b with
  | nd x => exact ⟨(Nd1 x q.u).mono h1 h2 h.1, (Nd2 x q.u).mono h1 h2 h.2.1, (Nd3 x q.u).mono h1 h2 h.2.2⟩
  | bs kd l => exact (BS (.slice q.a l.length q.c) l).mono h1 h2 h
def Bks (g : Int → Option (Bk × Pc)) : HP := ⟨fun H M => ∀ k b q, g k = some (b, q) → b.at_ q H M, fun h1 h2 h k b q e => Bk.at_mono h1 h2 (h k b q e)⟩
instance {g : Int → Option (Bk × Pc)} : Per (Bks g) := ⟨fun h k b q e => by
  have := h k b q e
  cases b with
  | nd x => exact ⟨(perNd1 x q.u).h this.1, (perNd2 x q.u).h this.2.1, (perNd3 x q.u).h this.2.2⟩
  | bs kd l => exact Per.h (A := BS (.slice q.a l.length q.c) l) this⟩
section
variable {P : Program} {f : FuncId} {n : Nat} {R : Value → HP} {k : List It} {l : List (Nat × Value)} {As Bs Rs Ss Zs : List HP}
theorem s_bks0 (h : RunS P f n R k l (Bks (fun _ => none) :: As)) : RunS P f n R k l As := .mk fun H M s => h H M (per_add (M0 := M) (fun _ _ _ e => nomatch e) s)
theorem s_bksN {g : Int → Option (Bk × Pc)} (kk : Int) (x : Node) (q : Pc) (s0 : Sel (Bks g) As Bs) (e : g kk = some (.nd x, q)) (h : RunS P f n R k l (Nd1 x q.u :: Nd2 x q.u :: Nd3 x q.u :: As)) : RunS P f n R k l As := .mk fun H M s => by
  obtain ⟨a1, a2, a3⟩ := s0.hold s kk _ q e
  exact h H M (per_add (M0 := M) a1 (per_add (M0 := M) a2 (per_add (M0 := M) a3 s)))
theorem s_bksB {g : Int → Option (Bk × Pc)} (kk : Int) (kd : Nat) (b : List Nat) (q : Pc) (s0 : Sel (Bks g) As Bs) (e : g kk = some (.bs kd b, q)) (h : RunS P f n R k l (BS (.slice q.a b.length q.c) b :: As)) : RunS P f n R k l As := .mk fun H M s =>
  h H M (per_add (M0 := M) (s0.hold s kk _ q e) s)
end
/-- a pool: what lies where is not told -/
def PL.parts (p : Nat) (z : PoZ) (σ : Ct) (g : Int → Option (Bk × Pc)) : List HP := [PoB p z.b z.gen z.n z.bc z.m, CtA z.bc σ, MG z.m (kmap g), Bks g]
abbrev PL (p : Nat) (z : PoZ) (σ : Ct) (G : Int → Option Bk) : HP := EX (fun g : Int → Option (Bk × Pc) => ∀ k, G k = (g k).map Prod.fst) (PL.parts p z σ)
/-- what a commit writes -/
def putsK (σ : Ct) (G : Int → Option Bk) (gn : Nat) : List Int → List (Nat × List Nat)
  | [] => []
  | k :: ks => (match G k with | some o => if σ.now k.toNat = 0 then [] else [(k.toNat, o.blk k.toNat gn)] | none => []) ++ putsK σ G gn ks
def keysK (G : Int → Option Bk) (N : Nat) : List Int := keysN (fun k => (G k).map fun _ => .bool true) N
theorem keysK_of {G : Int → Option Bk} {g : Int → Option (Bk × Pc)} (h : ∀ k, G k = (g k).map Prod.fst) (N : Nat) : keysN (kmap g) N = keysK G N := by
  unfold keysK keysN
  congr 1; funext k
  unfold kmap; dsimp only; rw [h k]; cases g k <;> rfl
structure BkOk (σ : Ct) (G : Int → Option Bk) : Prop where
  k : ∀ k, G k ≠ none → 0 ≤ k ∧ k < (σ.n : Nat)
  o : ∀ k o, G k = some o → o.ok
def Dr.commitK (σd : Dr) (σ : Ct) (G : Int → Option Bk) (gn : Nat) : Dr × Bool :=
  if (σd.puts (putsK σ G gn (keysK G σ.n))).2 then (σd.puts (putsK σ G gn (keysK G σ.n))).1.flip σ gn else ((σd.puts (putsK σ G gn (keysK G σ.n))).1, false)
theorem bsHd_ok {kd n k len gn : Nat} (hd : kd = 5 ∧ len ≤ 128 ∨ kd = 6 ∧ len ≤ 236) (hn : n ≤ 2048) (hk : k < n) (hg : gn ≤ 1099511627775) : Head.ok ⟨kd, k, len, 0, gn⟩ := by
  refine ⟨by show 1 ≤ kd; omega, by show kd ≤ 6; omega, fun q hq => ?_⟩
  match q, hq with
  | 0, _ => exact Nat.zero_le _
  | 1, _ => show k ≤ 2047; omega
  | 2, _ => show len ≤ 65535; omega
  | 3, _ => exact hg
theorem Bk.blk_len {k gn : Nat} {o : Bk} (h : o.ok) : (o.blk k gn).length = 256 := by
  cases o with
  | nd x => exact sealB_len (NdF.of h.1).len
  | bs kd l => exact sealB_len (by have := h.1; omega)
theorem Bk.blk_bys {k gn : Nat} {o : Bk} (h : o.ok) : Bys (o.blk k gn) := by
  cases o with
  | nd x => exact sealB_bys (nodB_bys h.2)
  | bs kd l => exact sealB_bys h.2
set_option maxHeartbeats 16000000 in
theorem pcommitK_c (p : Nat) (z : PoZ) (σ : Ct) (G : Int → Option Bk) (σd : Dr) (hz : z.n = σ.n) (h1 : 32 ≤ σ.n) (h2 : σ.n ≤ 2048) (hn : σd.n = σ.n) (hst : σd.steps < 800000000) (hgen : z.gen + 1 ≤ 1099511627775) (hbm : BkOk σ G) :
    Ctr Tryz.prog 16 [.pointer (some ⟨p, 0, none⟩)] [PL p z σ G, DrA z.b σd]
    (fun v Bs => ((σd.commitK σ G (z.gen + 1)).2 = true ∧ v = .int .i64 0 ∧ Bs = [PL p { z with gen := z.gen + 1 } { σ with done := σ.now } (fun _ => none), DrA z.b (σd.commitK σ G (z.gen + 1)).1]) ∨
      ((σd.commitK σ G (z.gen + 1)).2 = false ∧ v = .int .i64 4 ∧ Bs = [PL p z σ G, DrA z.b (σd.commitK σ G (z.gen + 1)).1])) := by
  obtain ⟨b, gen, n, bc, m⟩ := z
  dsimp only at hz hgen ⊢
  subst hz
  refine s_enter 104 [(0, _)] (fun F => [_, _, F]) Tryz.func16 fun F => ?_
  refine s_opn (φ := fun g : Int → Option (Bk × Pc) => ∀ k, G k = (g k).map Prod.fst) (X := PL.parts p ⟨b, gen, σ.n, bc, m⟩ σ) (by repeat (first | with_reducible exact Sel.here | with_reducible apply Sel.there)) fun g hg => ?_
  unfold PL.parts
  refine s_nrm ?_
  dsimp only
  have hgn : ∀ k, kmap g k ≠ none → 0 ≤ k ∧ k < (σ.n : Nat) := fun k hk => hbm.k k (by
    rw [hg k]; intro e; apply hk; unfold kmap
    cases hq : g k with
    | none => rfl
    | some y => rw [hq] at e; cases e)
  refine go_ ?_
  refine s_alloc fun r3 => ?_
  refine go_ ?_
  rw [show (gen : Int) + 1 = ((gen + 1 : Nat) : Int) by omega]
  refine s_call (sp := (by repeat (first | exact Split.nil | apply Split.perx (by repeat (first | with_reducible exact Sel.here | with_reducible apply Sel.there)) (by infer_instance) | apply Split.cons (by repeat (first | with_reducible exact Sel.here | with_reducible apply Sel.there))))) (hs := keys_c m) (h := ?_)
  rintro v Bs ⟨rk, rfl, rfl⟩
  refine go_ ?_
  refine s_call (sp := (by repeat (first | exact Split.nil | apply Split.perx (by repeat (first | with_reducible exact Sel.here | with_reducible apply Sel.there)) (by infer_instance) | apply Split.cons (by repeat (first | with_reducible exact Sel.here | with_reducible apply Sel.there))))) (hs := sorted_c m rk (kmap g) σ.n (by omega) hgn) (h := ?_)
  rintro v Bs ⟨ak, ck, rfl, rfl⟩
  refine go_ ?_
  have hkm := fun k => keysN_mem (gm := kmap g) (N := σ.n) hgn k
  have hkl : (keysN (kmap g) σ.n).length ≤ σ.n := by
    unfold keysN
    refine Nat.le_trans (List.length_filter_le _ _) ?_
    simp
  have hK2 := keysK_of hg σ.n
  rw [hK2] at hkm hkl ⊢
  generalize hK : keysK G σ.n = ks at *
  refine s_loop (fun q : Nat × Dr => [(0, .pointer (some ⟨p, 0, none⟩)), (3, .pointer (some ⟨r3, 0, none⟩)), (24, .slice ak ks.length ck), (25, .int .i64 (ks.length : Nat)), (26, .int .i64 q.1)])
    (fun q => [SO 3 1 (.slice ak ks.length ck) ks.length (pathR ks), PoB p b gen σ.n bc m, CtA bc σ, MG m (kmap g), Bks g, DrA b q.2, Box r3 68 (supL (gen + 1) σ.n), F])
    (fun q => q.1 ≤ ks.length ∧ q.2.n = σ.n ∧ q.2.steps ≤ σd.steps + q.1 ∧ q.2.puts (putsK σ G (gen + 1) (ks.drop q.1)) = σd.puts (putsK σ G (gen + 1) ks)) (fun q => ks.length - q.1) (0, σd) ⟨Nat.zero_le _, hn, Nat.le_refl _, rfl⟩ (by repeat (first | exact Ent.nil | refine Ent.per (by repeat (first | with_reducible exact Sel.here | with_reducible apply Sel.there)) ?_ | refine Ent.cons (by repeat (first | with_reducible exact Sel.here | with_reducible apply Sel.there)) ?_)) ?_
  rintro ⟨i, σi⟩ ⟨hi, hin, hist, he⟩ next
  dsimp only at hi hin hist he next ⊢
  refine go_ ?_
  refine s_if (fun h => ?_) (fun h => ?_)
  · have hi2 : i < ks.length := by omega
    have hki : ks.getD i 0 = ks[i] := by simp [List.getD_eq_getElem?_getD, hi2]
    have hgk : kmap g (ks.getD i 0) ≠ none := (hkm _).1 (by rw [hki]; exact List.getElem_mem hi2)
    obtain ⟨⟨o, q⟩, ho⟩ : ∃ o, g (ks.getD i 0) = some o := by
      cases hq : g (ks.getD i 0) with
      | none => exact absurd (by unfold kmap; rw [hq]; rfl) hgk
      | some o => exact ⟨o, rfl⟩
    obtain ⟨hk1, hk2⟩ := hgn _ hgk
    have hGo : G (ks.getD i 0) = some o := by rw [hg, ho]; rfl
    have hok := hbm.o _ _ hGo
    rw [List.drop_eq_getElem_cons hi2, ← hki, putsK, hGo] at he
    obtain ⟨k, hk⟩ : ∃ k : Nat, ks.getD i 0 = (k : Int) := ⟨(ks.getD i 0).toNat, by omega⟩
    rw [hk] at ho hk1 hk2 he
    rw [Int.toNat_natCast] at he
    refine go_ ?_
    rw [hk]
    refine s_call (sp := (by repeat (first | exact Split.nil | apply Split.perx (by repeat (first | with_reducible exact Sel.here | with_reducible apply Sel.there)) (by infer_instance) | apply Split.cons (by repeat (first | with_reducible exact Sel.here | with_reducible apply Sel.there))))) (hs := pcountN_c p b gen σ.n bc m σ k (by omega)) (h := ?_)
    rintro v Bs ⟨rfl, rfl⟩
    dsimp only at he
    refine go_ ?_
    by_cases h0' : σ.now k = 0
    · rw [if_pos h0', List.nil_append] at he
      rw [show ((((σ.now k : Nat) : Int)) == 0) = true from beq_iff_eq.2 (by omega)]
      refine go_ ?_
      exact s_entF (by repeat (first | exact Ent.nil | refine Ent.per (by repeat (first | with_reducible exact Sel.here | with_reducible apply Sel.there)) ?_ | refine Ent.cons (by repeat (first | with_reducible exact Sel.here | with_reducible apply Sel.there)) ?_)) (s_keep _ (next (i + 1, σi) ⟨by dsimp only; omega, hin, by dsimp only; omega, he⟩ (by dsimp only; omega)))
    · rw [if_neg h0', List.singleton_append, Dr.puts] at he
      rw [show ((((σ.now k : Nat) : Int)) == 0) = false from beq_eq_false_iff_ne.2 (by omega)]
      dsimp only at he
      cases o with
      | nd x =>
        have hgm : kmap g (k : Int) = some (blkV x q.u) := by show (g k).map _ = _; rw [ho]; rfl
        refine go_ ?_
        refine s_look (lk_lks hgm) ?_
        refine go_ ?_
        refine s_alloc fun r6 => ?_
        refine go_ ?_
        refine s_bksN (k : Int) x q (by repeat (first | with_reducible exact Sel.here | with_reducible apply Sel.there)) ho ?_
        refine s_call (sp := (by repeat (first | exact Split.nil | apply Split.perx (by repeat (first | with_reducible exact Sel.here | with_reducible apply Sel.there)) (by infer_instance) | apply Split.cons (by repeat (first | with_reducible exact Sel.here | with_reducible apply Sel.there))))) (hs := nwrite_c x q.u hok.1 hok.2 k (gen + 1) (by omega) hgen) (h := ?_)
        rintro v Bs ⟨rs, rfl, rfl⟩
        refine go_ ?_
        refine s_call (sp := (by repeat (first | exact Split.nil | apply Split.perx (by repeat (first | with_reducible exact Sel.here | with_reducible apply Sel.there)) (by infer_instance) | apply Split.cons (by repeat (first | with_reducible exact Sel.here | with_reducible apply Sel.there))))) (hs := dwrite_c b σi k (sealB (nodH x k (gen + 1)) (nodB x)) (a := some ⟨rs, 0, none⟩) (c := 256) (by omega) ⟨Bk.blk_len (o := .nd x) hok, Bk.blk_bys (o := .nd x) hok⟩ (by omega)) (h := ?_)
        rintro v Bs ⟨rfl, rfl⟩
        obtain ⟨n1, n2⟩ := σi.write_n k (sealB (nodH x k (gen + 1)) (nodB x))
        change (if (σi.write k (sealB (nodH x k (gen + 1)) (nodB x))).2 = true then _ else ((σi.write k (sealB (nodH x k (gen + 1)) (nodB x))).1, false)) = _ at he
        cases hw : (σi.write k (sealB (nodH x k (gen + 1)) (nodB x))).2 with
        | true =>
          rw [hw, if_pos rfl] at he
          refine go_ ?_
          exact s_entF (by repeat (first | exact Ent.nil | refine Ent.per (by repeat (first | with_reducible exact Sel.here | with_reducible apply Sel.there)) ?_ | refine Ent.cons (by repeat (first | with_reducible exact Sel.here | with_reducible apply Sel.there)) ?_)) (s_keep _ (next (i + 1, (σi.write k (sealB (nodH x k (gen + 1)) (nodB x))).1) ⟨by dsimp only; omega, by dsimp only; omega, by dsimp only; omega, he⟩ (by dsimp only; omega)))
        | false =>
          rw [hw, if_neg (by simp)] at he
          have e1 : σd.commitK σ G (gen + 1) = ((σi.write k (sealB (nodH x k (gen + 1)) (nodB x))).1, false) := by
            unfold Dr.commitK; rw [hK, ← he]; rfl
          rw [e1]
          refine go_ ?_
          refine s_cls (φ := fun g : Int → Option (Bk × Pc) => ∀ k, G k = (g k).map Prod.fst) (X := PL.parts p ⟨b, gen, σ.n, bc, m⟩ σ) g hg (by repeat (first | exact Split.nil | apply Split.perx (by repeat (first | with_reducible exact Sel.here | with_reducible apply Sel.there)) (by infer_instance) | apply Split.cons (by repeat (first | with_reducible exact Sel.here | with_reducible apply Sel.there)))) ?_
          exact s_ret1 (rs := [.tmp 2]) Tryz.func16 rfl (by intro j; refine RVS.tmp _ rfl ?_; exact RVS.nil) (.inr ⟨rfl, rfl, rfl⟩) (by repeat (first | exact Ent.nil | refine Ent.per (by repeat (first | with_reducible exact Sel.here | with_reducible apply Sel.there)) ?_ | refine Ent.cons (by repeat (first | with_reducible exact Sel.here | with_reducible apply Sel.there)) ?_))
      | bs kd l =>
        have hd : kd = 5 ∧ l.length ≤ 128 ∨ kd = 6 ∧ l.length ≤ 236 := hok.1
        have hgm : kmap g (k : Int) = some (.agg #[.int .i64 kd, .int .i64 0, .slice none 0 0, .slice none 0 0, .slice q.a l.length q.c]) := by show (g k).map _ = _; rw [ho]; rfl
        refine go_ ?_
        refine s_look (lk_lks hgm) ?_
        refine go_ ?_
        refine s_alloc fun r6 => ?_
        refine go_ ?_
        refine s_call (sp := (by repeat (first | exact Split.nil | apply Split.perx (by repeat (first | with_reducible exact Sel.here | with_reducible apply Sel.there)) (by infer_instance) | apply Split.cons (by repeat (first | with_reducible exact Sel.here | with_reducible apply Sel.there))))) (hs := nwrite0_c (k : Int) ((gen + 1 : Nat) : Int)) (h := ?_)
        rintro v Bs ⟨rfl, rfl⟩
        refine go_ ?_
        rw [show ((kd : Int) != 0) = true by simp; omega]
        refine s_bksB (k : Int) kd l q (by repeat (first | with_reducible exact Sel.here | with_reducible apply Sel.there)) ho ?_
        refine go_ ?_
        refine s_call (sp := (by repeat (first | exact Split.nil | apply Split.perx (by repeat (first | with_reducible exact Sel.here | with_reducible apply Sel.there)) (by infer_instance) | apply Split.cons (by repeat (first | with_reducible exact Sel.here | with_reducible apply Sel.there))))) (hs := seal_c (a := q.a) (c := q.c) ⟨kd, k, l.length, 0, gen + 1⟩ l (bsHd_ok hd h2 (by omega) hgen) hok.2 (by omega)) (h := ?_)
        rintro v Bs ⟨rs, rfl, rfl⟩
        refine go_ ?_
        refine s_call (sp := (by repeat (first | exact Split.nil | apply Split.perx (by repeat (first | with_reducible exact Sel.here | with_reducible apply Sel.there)) (by infer_instance) | apply Split.cons (by repeat (first | with_reducible exact Sel.here | with_reducible apply Sel.there))))) (hs := dwrite_c b σi k (sealB ⟨kd, k, l.length, 0, gen + 1⟩ l) (a := some ⟨rs, 0, none⟩) (c := 256) (by omega) ⟨sealB_len (by omega), sealB_bys hok.2⟩ (by omega)) (h := ?_)
        rintro v Bs ⟨rfl, rfl⟩
        obtain ⟨n1, n2⟩ := σi.write_n k (sealB ⟨kd, k, l.length, 0, gen + 1⟩ l)
        change (if (σi.write k (sealB ⟨kd, k, l.length, 0, gen + 1⟩ l)).2 = true then _ else ((σi.write k (sealB ⟨kd, k, l.length, 0, gen + 1⟩ l)).1, false)) = _ at he
        cases hw : (σi.write k (sealB ⟨kd, k, l.length, 0, gen + 1⟩ l)).2 with
        | true =>
          rw [hw, if_pos rfl] at he
          refine go_ ?_
          exact s_entF (by repeat (first | exact Ent.nil | refine Ent.per (by repeat (first | with_reducible exact Sel.here | with_reducible apply Sel.there)) ?_ | refine Ent.cons (by repeat (first | with_reducible exact Sel.here | with_reducible apply Sel.there)) ?_)) (s_keep _ (next (i + 1, (σi.write k (sealB ⟨kd, k, l.length, 0, gen + 1⟩ l)).1) ⟨by dsimp only; omega, by dsimp only; omega, by dsimp only; omega, he⟩ (by dsimp only; omega)))
        | false =>
          rw [hw, if_neg (by simp)] at he
          have e1 : σd.commitK σ G (gen + 1) = ((σi.write k (sealB ⟨kd, k, l.length, 0, gen + 1⟩ l)).1, false) := by
            unfold Dr.commitK; rw [hK, ← he]; rfl
          rw [e1]
          refine go_ ?_
          refine s_cls (φ := fun g : Int → Option (Bk × Pc) => ∀ k, G k = (g k).map Prod.fst) (X := PL.parts p ⟨b, gen, σ.n, bc, m⟩ σ) g hg (by repeat (first | exact Split.nil | apply Split.perx (by repeat (first | with_reducible exact Sel.here | with_reducible apply Sel.there)) (by infer_instance) | apply Split.cons (by repeat (first | with_reducible exact Sel.here | with_reducible apply Sel.there)))) ?_
          exact s_ret1 (rs := [.tmp 2]) Tryz.func16 rfl (by intro j; refine RVS.tmp _ rfl ?_; exact RVS.nil) (.inr ⟨rfl, rfl, rfl⟩) (by repeat (first | exact Ent.nil | refine Ent.per (by repeat (first | with_reducible exact Sel.here | with_reducible apply Sel.there)) ?_ | refine Ent.cons (by repeat (first | with_reducible exact Sel.here | with_reducible apply Sel.there)) ?_))
  · have : i = ks.length := by omega
    subst this
    rw [List.drop_length, putsK, Dr.puts] at he
    have e1 : σd.commitK σ G (gen + 1) = σi.flip σ (gen + 1) := by
      unfold Dr.commitK; rw [hK, ← he]; rfl
    rw [e1]
    refine go_ ?_
    refine s_front (a := DrA b σi) (by repeat (first | with_reducible exact Sel.here | with_reducible apply Sel.there)) ?_
    refine s_front (a := CtA bc σ) (by repeat (first | with_reducible exact Sel.here | with_reducible apply Sel.there)) ?_
    refine s_drawN 2 [.q 0, .q 1, .q 2, .q 3, .q 4, .q 5, .q 6, .q 7, .q 8, .s 9, .q 10] ?_
    refine do_ ?_
    refine d_step rfl (st_call (sp := (by repeat (first | exact Split.nil | apply Split.perx (by repeat (first | with_reducible exact Sel.here | with_reducible apply Sel.there)) (by infer_instance) | apply Split.cons (by repeat (first | with_reducible exact Sel.here | with_reducible apply Sel.there))))) (hs := pflip_c b bc σi σ (gen + 1) h1 h2 hin (by omega) hgen (by omega))) ?_
    rintro v Bs ⟨Cs, ⟨rfl, rfl⟩, rfl⟩
    refine do_ ?_
    refine go_ ?_
    cases hf : (σi.flip σ (gen + 1)).2 with
    | false =>
      refine go_ ?_
      refine s_cls (φ := fun g : Int → Option (Bk × Pc) => ∀ k, G k = (g k).map Prod.fst) (X := PL.parts p ⟨b, gen, σ.n, bc, m⟩ σ) g hg (by repeat (first | exact Split.nil | apply Split.perx (by repeat (first | with_reducible exact Sel.here | with_reducible apply Sel.there)) (by infer_instance) | apply Split.cons (by repeat (first | with_reducible exact Sel.here | with_reducible apply Sel.there)))) ?_
      exact s_ret1 (rs := [.tmp 2]) Tryz.func16 rfl (by intro j; refine RVS.tmp _ rfl ?_; exact RVS.nil) (.inr ⟨rfl, rfl, rfl⟩) (by repeat (first | exact Ent.nil | refine Ent.per (by repeat (first | with_reducible exact Sel.here | with_reducible apply Sel.there)) ?_ | refine Ent.cons (by repeat (first | with_reducible exact Sel.here | with_reducible apply Sel.there)) ?_))
    | true =>
      refine go_ ?_
      refine s_call (sp := (by repeat (first | exact Split.nil | apply Split.perx (by repeat (first | with_reducible exact Sel.here | with_reducible apply Sel.there)) (by infer_instance) | apply Split.cons (by repeat (first | with_reducible exact Sel.here | with_reducible apply Sel.there))))) (hs := ccommit_c bc σ) (h := ?_)
      rintro v Bs ⟨rfl, rfl⟩
      refine go_ ?_
      refine s_stepU (st_clm (by repeat (first | with_reducible exact Sel.here | with_reducible apply Sel.there))) ?_
      rintro v Bs rfl
      refine go_ ?_
      refine s_front (a := MG m fun _ => none) (by repeat (first | with_reducible exact Sel.here | with_reducible apply Sel.there)) (s_open (B := MG m (kmap fun _ => none)) (fun _ _ q => q) ?_)
      refine s_bks0 ?_
      refine s_cls (φ := fun g : Int → Option (Bk × Pc) => ∀ k, (fun _ => none : Int → Option Bk) k = (g k).map Prod.fst) (X := PL.parts p ⟨b, gen + 1, σ.n, bc, m⟩ { σ with done := σ.now }) (fun _ => none) (fun _ => rfl) (by repeat (first | exact Split.nil | apply Split.perx (by repeat (first | with_reducible exact Sel.here | with_reducible apply Sel.there)) (by infer_instance) | apply Split.cons (by repeat (first | with_reducible exact Sel.here | with_reducible apply Sel.there)))) ?_
      exact s_ret1 (rs := [.tmp 2]) Tryz.func16 rfl (by intro j; refine RVS.tmp _ rfl ?_; exact RVS.nil) (.inl ⟨rfl, rfl, rfl⟩) (by repeat (first | exact Ent.nil | refine Ent.per (by repeat (first | with_reducible exact Sel.here | with_reducible apply Sel.there)) ?_ | refine Ent.cons (by repeat (first | with_reducible exact Sel.here | with_reducible apply Sel.there)) ?_))
end Go.Proofs.YtgbbcpfnmkeijaaGreat
/- pool.Node: of what is laid down, and of what is on the disk. -/
namespace Go.Proofs.YtgbbcpfnmkeijaaGreat
open Go.Cam
set_option maxRecDepth 100000
/-- what is known of a sector -/
inductive DK where
  | nd (x : Node)
  | bad
  | oth
structure DskOk (σ : Ct) (G : Int → Option Bk) (σd : Dr) (D : Nat → DK) : Prop where
  n : σd.n = σ.n
  n2 : σ.n ≤ 2048
  off : σd.off = false
  st : σd.steps < 1000000000
  ok : BkOk σ G
  d : ∀ k, k < σ.n → σ.now k ≠ 0 → G (k : Int) = none → (∃ x, D k = .nd x ∧ nodeOk x = true ∧ (∀ y ∈ x.items, Bys y.val) ∧ ∃ gn, gn ≤ 1099511627775 ∧ σd.lastS k = sealB (nodH x k gn) (nodB x)) ∨ (D k = .bad ∧ ¬ openOk (σd.lastS k) ∧ (σd.lastS k).length = 256 ∧ Bys (σd.lastS k))
def rdK (σ : Ct) (G : Int → Option Bk) (D : Nat → DK) (k : Int) : Except Nat Node :=
  if 0 ≤ k ∧ k < σ.n ∧ σ.now k.toNat ≠ 0 then
    match G k with
    | some (.nd x) => .ok x
    | some (.bs _ _) => .error 1
    | none => match D k.toNat with
      | .nd x => .ok x
      | _ => .error 5
  else .error 1
theorem small_of {x : Node} (h : nodeOk x = true) : x.small := by
  have f := NdF.of h
  have := f.sh
  exact ⟨by omega, by omega, fun i hi => by have := f.v i hi; omega⟩
abbrev zNode : Value := .agg #[.int .i64 0, .slice none 0 0, .slice none 0 0]
set_option maxHeartbeats 8000000 in
theorem pnodeK_c (p : Nat) (z : PoZ) (σ : Ct) (G : Int → Option Bk) (σd : Dr) (D : Nat → DK) (h : DskOk σ G σd D) (k : Int) : Ctr Tryz.prog 72 [.pointer (some ⟨p, 0, none⟩), .int .i64 k] [PL p z σ G, DrA z.b σd]
    (fun v Bs => (∃ x u', rdK σ G D k = .ok x ∧ nodeOk x = true ∧ v = .tuple #[ndV x u', .int .i64 0] ∧ Bs = [PL p z σ G, DrA z.b σd, Nd1 x u', Nd2 x u', Nd3 x u']) ∨
      (∃ e : Nat, rdK σ G D k = .error e ∧ e ≠ 0 ∧ v = .tuple #[zNode, .int .i64 e] ∧ Bs = [PL p z σ G, DrA z.b σd])) := by
  refine s_enter 56 [(0, _), (1, _)] (fun F => [_, _, F]) Tryz.func72 fun F => ?_
  refine go_ ?_
  refine s_alloc fun r4 => ?_
  refine s_opn (φ := fun g : Int → Option (Bk × Pc) => ∀ k, G k = (g k).map Prod.fst) (X := PL.parts p z σ) (by repeat (first | with_reducible exact Sel.here | with_reducible apply Sel.there)) fun g hg => ?_
  unfold PL.parts
  refine s_nrm ?_
  refine go_ ?_
  refine s_call (sp := (by repeat (first | exact Split.nil | apply Split.perx (by repeat (first | with_reducible exact Sel.here | with_reducible apply Sel.there)) (by infer_instance) | apply Split.cons (by repeat (first | with_reducible exact Sel.here | with_reducible apply Sel.there))))) (hs := pcount_c p z.b z.gen z.n z.bc z.m σ k) (h := ?_)
  rintro v Bs ⟨rfl, rfl⟩
  by_cases hk : ¬ (0 ≤ k ∧ k < σ.n)
  · rw [if_neg hk]
    have e : rdK σ G D k = .error 1 := by unfold rdK; rw [if_neg (fun q => hk ⟨q.1, q.2.1⟩)]
    refine go_ ?_
    refine s_cls (φ := fun g : Int → Option (Bk × Pc) => ∀ k, G k = (g k).map Prod.fst) (X := PL.parts p z σ) g hg (by repeat (first | exact Split.nil | apply Split.perx (by repeat (first | with_reducible exact Sel.here | with_reducible apply Sel.there)) (by infer_instance) | apply Split.cons (by repeat (first | with_reducible exact Sel.here | with_reducible apply Sel.there)))) ?_
    exact s_rett (rs := [.cell 4 88, .tmp 5]) (vs := [_, _]) Tryz.func72 rfl (by intro j; refine RVS.cell _ _ rfl (by repeat (first | with_reducible exact Sel.here | with_reducible apply Sel.there)) (by rfl) ?_; refine RVS.tmp _ rfl ?_; exact RVS.nil) rfl (.inr ⟨1, e, by decide, rfl, rfl⟩) (by repeat (first | exact Ent.nil | refine Ent.per (by repeat (first | with_reducible exact Sel.here | with_reducible apply Sel.there)) ?_ | refine Ent.cons (by repeat (first | with_reducible exact Sel.here | with_reducible apply Sel.there)) ?_))
  replace hk := Classical.not_not.1 hk
  rw [if_pos hk]
  obtain ⟨hk1, hk2⟩ := hk
  obtain ⟨kn, rfl⟩ : ∃ kn : Nat, k = (kn : Int) := ⟨k.toNat, by omega⟩
  rw [Int.toNat_natCast]
  by_cases h0 : σ.now kn = 0
  · rw [h0]
    have e : rdK σ G D kn = .error 1 := by unfold rdK; rw [if_neg (fun q => q.2.2 (by rw [Int.toNat_natCast]; exact h0))]
    refine go_ ?_
    refine s_cls (φ := fun g : Int → Option (Bk × Pc) => ∀ k, G k = (g k).map Prod.fst) (X := PL.parts p z σ) g hg (by repeat (first | exact Split.nil | apply Split.perx (by repeat (first | with_reducible exact Sel.here | with_reducible apply Sel.there)) (by infer_instance) | apply Split.cons (by repeat (first | with_reducible exact Sel.here | with_reducible apply Sel.there)))) ?_
    exact s_rett (rs := [.cell 4 88, .tmp 5]) (vs := [_, _]) Tryz.func72 rfl (by intro j; refine RVS.cell _ _ rfl (by repeat (first | with_reducible exact Sel.here | with_reducible apply Sel.there)) (by rfl) ?_; refine RVS.tmp _ rfl ?_; exact RVS.nil) rfl (.inr ⟨1, e, by decide, rfl, rfl⟩) (by repeat (first | exact Ent.nil | refine Ent.per (by repeat (first | with_reducible exact Sel.here | with_reducible apply Sel.there)) ?_ | refine Ent.cons (by repeat (first | with_reducible exact Sel.here | with_reducible apply Sel.there)) ?_))
  have e0 : rdK σ G D kn = match G kn with
    | some (.nd x) => .ok x
    | some (.bs _ _) => .error 1
    | none => match D kn with
      | .nd x => .ok x
      | _ => .error 5 := by unfold rdK; rw [if_pos ⟨hk1, hk2, by rw [Int.toNat_natCast]; exact h0⟩, Int.toNat_natCast]
  refine go_ ?_
  rw [show ((((σ.now kn : Nat) : Int)) == 0) = false from beq_eq_false_iff_ne.2 (by omega)]
  cases ho : g kn with
  | some y =>
    obtain ⟨b, q⟩ := y
    have hGo : G kn = some b := by rw [hg, ho]; rfl
    have hbk := h.ok.o _ _ hGo
    rw [hGo] at e0
    cases b with
    | nd x =>
      have hgm : kmap g kn = some (blkV x q.u) := by show (g kn).map _ = _; rw [ho]; rfl
      have hs := small_of hbk.1
      refine go_ ?_
      refine s_look (lk_lks2 hgm) ?_
      refine go_ ?_
      refine s_alloc fun r6 => ?_
      refine go_ ?_
      refine s_bksN kn x q (by repeat (first | with_reducible exact Sel.here | with_reducible apply Sel.there)) ho ?_
      refine s_call (sp := (by repeat (first | exact Split.nil | apply Split.perx (by repeat (first | with_reducible exact Sel.here | with_reducible apply Sel.there)) (by infer_instance) | apply Split.cons (by repeat (first | with_reducible exact Sel.here | with_reducible apply Sel.there))))) (hs := pown_c x (A1 := Nd1 x q.u) (A2 := Nd3 x q.u) (a := q.u.a) (b := q.u.b) (c := q.u.c) (d := q.u.d) (w := q.u.w) rfl rfl hs.i hs.k hs.v) (h := ?_)
      rintro v Bs ⟨a2, c2, b2, d2, w2, rfl, rfl⟩
      refine go_ ?_
      refine s_cls (φ := fun g : Int → Option (Bk × Pc) => ∀ k, G k = (g k).map Prod.fst) (X := PL.parts p z σ) g hg (by repeat (first | exact Split.nil | apply Split.perx (by repeat (first | with_reducible exact Sel.here | with_reducible apply Sel.there)) (by infer_instance) | apply Split.cons (by repeat (first | with_reducible exact Sel.here | with_reducible apply Sel.there)))) ?_
      refine s_fzO (e := 51) (v := .slice a2 x.items.length c2) (by repeat (first | with_reducible exact Sel.here | with_reducible apply Sel.there)) ?_
      refine s_fzO (e := 99) (v := .slice b2 x.kids.length d2) (by repeat (first | with_reducible exact Sel.here | with_reducible apply Sel.there)) ?_
      exact s_rett (rs := [.cell 4 88, .tmp 5]) (vs := [_, _]) Tryz.func72 rfl (by intro j; refine RVS.cell _ _ rfl (by repeat (first | with_reducible exact Sel.here | with_reducible apply Sel.there)) (by rfl) ?_; refine RVS.tmp _ rfl ?_; exact RVS.nil) rfl (.inl ⟨x, ⟨a2, c2, b2, d2, w2⟩, e0, hbk.1, rfl, rfl⟩) (by repeat (first | exact Ent.nil | refine Ent.per (by repeat (first | with_reducible exact Sel.here | with_reducible apply Sel.there)) ?_ | refine Ent.cons (by repeat (first | with_reducible exact Sel.here | with_reducible apply Sel.there)) ?_))
    | bs kd l =>
      have hd : kd = 5 ∧ l.length ≤ 128 ∨ kd = 6 ∧ l.length ≤ 236 := hbk.1
      have hgm : kmap g kn = some (.agg #[.int .i64 kd, .int .i64 0, .slice none 0 0, .slice none 0 0, .slice q.a l.length q.c]) := by show (g kn).map _ = _; rw [ho]; rfl
      refine go_ ?_
      refine s_look (lk_lks2 hgm) ?_
      refine go_ ?_
      refine s_alloc fun r6 => ?_
      refine go_ ?_
      rw [show ((kd : Int) != 0) = true by simp; omega]
      refine go_ ?_
      refine s_cls (φ := fun g : Int → Option (Bk × Pc) => ∀ k, G k = (g k).map Prod.fst) (X := PL.parts p z σ) g hg (by repeat (first | exact Split.nil | apply Split.perx (by repeat (first | with_reducible exact Sel.here | with_reducible apply Sel.there)) (by infer_instance) | apply Split.cons (by repeat (first | with_reducible exact Sel.here | with_reducible apply Sel.there)))) ?_
      exact s_rett (rs := [.cell 4 88, .tmp 5]) (vs := [_, _]) Tryz.func72 rfl (by intro j; refine RVS.cell _ _ rfl (by repeat (first | with_reducible exact Sel.here | with_reducible apply Sel.there)) (by rfl) ?_; refine RVS.tmp _ rfl ?_; exact RVS.nil) rfl (.inr ⟨1, e0, by decide, rfl, rfl⟩) (by repeat (first | exact Ent.nil | refine Ent.per (by repeat (first | with_reducible exact Sel.here | with_reducible apply Sel.there)) ?_ | refine Ent.cons (by repeat (first | with_reducible exact Sel.here | with_reducible apply Sel.there)) ?_))
  | none =>
    have hGo : G kn = none := by rw [hg, ho]; rfl
    have hgm : kmap g kn = none := by show (g kn).map _ = _; rw [ho]; rfl
    rw [hGo] at e0
    have hdk := h.d kn (by omega) h0 hGo
    have hon := h.off
    refine go_ ?_
    refine s_look (lk_lkn2 hgm) ?_
    refine go_ ?_
    refine s_alloc fun r6 => ?_
    refine go_ ?_
    refine s_call (sp := (by repeat (first | exact Split.nil | apply Split.perx (by repeat (first | with_reducible exact Sel.here | with_reducible apply Sel.there)) (by infer_instance) | apply Split.cons (by repeat (first | with_reducible exact Sel.here | with_reducible apply Sel.there))))) (hs := dread_c z.b σd kn (by rw [h.n]; omega) h.st) (h := ?_)
    rintro v Bs (⟨hoff, _⟩ | ⟨_, ra, rfl, rfl⟩)
    · rw [hon] at hoff; cases hoff
    refine go_ ?_
    rcases hdk with ⟨x, d1, d2, d3, gn, d4, d5⟩ | ⟨d1, d2, d3, d4⟩
    · rw [d1] at e0
      rw [d5]
      refine s_call (sp := (by repeat (first | exact Split.nil | apply Split.perx (by repeat (first | with_reducible exact Sel.here | with_reducible apply Sel.there)) (by infer_instance) | apply Split.cons (by repeat (first | with_reducible exact Sel.here | with_reducible apply Sel.there))))) (hs := nreadN_c (a := some ⟨ra, 0, none⟩) (c := 256) x kn gn d2 d3 (by have := h.n2; omega) d4) (h := ?_)
      rintro v Bs ⟨u, rfl, rfl⟩
      refine go_ ?_
      refine s_alloc fun r7 => ?_
      refine go_ ?_
      refine s_cls (φ := fun g : Int → Option (Bk × Pc) => ∀ k, G k = (g k).map Prod.fst) (X := PL.parts p z σ) g hg (by repeat (first | exact Split.nil | apply Split.perx (by repeat (first | with_reducible exact Sel.here | with_reducible apply Sel.there)) (by infer_instance) | apply Split.cons (by repeat (first | with_reducible exact Sel.here | with_reducible apply Sel.there)))) ?_
      exact s_rett (rs := [.cell 4 88, .tmp 5]) (vs := [_, _]) Tryz.func72 rfl (by intro j; refine RVS.cell _ _ rfl (by repeat (first | with_reducible exact Sel.here | with_reducible apply Sel.there)) (by rfl) ?_; refine RVS.tmp _ rfl ?_; exact RVS.nil) rfl (.inl ⟨x, u, e0, d2, rfl, rfl⟩) (by repeat (first | exact Ent.nil | refine Ent.per (by repeat (first | with_reducible exact Sel.here | with_reducible apply Sel.there)) ?_ | refine Ent.cons (by repeat (first | with_reducible exact Sel.here | with_reducible apply Sel.there)) ?_))
    · rw [d1] at e0
      refine s_call (sp := (by repeat (first | exact Split.nil | apply Split.perx (by repeat (first | with_reducible exact Sel.here | with_reducible apply Sel.there)) (by infer_instance) | apply Split.cons (by repeat (first | with_reducible exact Sel.here | with_reducible apply Sel.there))))) (hs := nreadB_c (a := some ⟨ra, 0, none⟩) (c := 256) (σd.lastS kn) d3 d4 kn d2) (h := ?_)
      rintro v Bs ⟨rfl, rfl⟩
      refine go_ ?_
      refine s_alloc fun r7 => ?_
      refine go_ ?_
      refine s_cls (φ := fun g : Int → Option (Bk × Pc) => ∀ k, G k = (g k).map Prod.fst) (X := PL.parts p z σ) g hg (by repeat (first | exact Split.nil | apply Split.perx (by repeat (first | with_reducible exact Sel.here | with_reducible apply Sel.there)) (by infer_instance) | apply Split.cons (by repeat (first | with_reducible exact Sel.here | with_reducible apply Sel.there)))) ?_
      exact s_rett (rs := [.cell 4 88, .tmp 5]) (vs := [_, _]) Tryz.func72 rfl (by intro j; refine RVS.cell _ _ rfl (by repeat (first | with_reducible exact Sel.here | with_reducible apply Sel.there)) (by rfl) ?_; refine RVS.tmp _ rfl ?_; exact RVS.nil) rfl (.inr ⟨5, e0, by decide, rfl, rfl⟩) (by repeat (first | exact Ent.nil | refine Ent.per (by repeat (first | with_reducible exact Sel.here | with_reducible apply Sel.there)) ?_ | refine Ent.cons (by repeat (first | with_reducible exact Sel.here | with_reducible apply Sel.there)) ?_))
end Go.Proofs.YtgbbcpfnmkeijaaGreat
/- find's way to a leaf, and Get, over any nodes that are read. -/
namespace Go.Proofs.YtgbbcpfnmkeijaaGreat
open Go.Cam
set_option maxRecDepth 100000
/-- nodes are read as told -/
abbrev NdC (PP : HP) (p : Nat) (rd : Int → Except Nat Node) : Prop := ∀ k : Int, Ctr Tryz.prog 72 [.pointer (some ⟨p, 0, none⟩), .int .i64 k] [PP]
    (fun v Bs => (∃ x u', rd k = .ok x ∧ nodeOk x = true ∧ v = .tuple #[ndV x u', .int .i64 0] ∧ Bs = [PP, Nd1 x u', Nd2 x u', Nd3 x u']) ∨
      (∃ e : Nat, rd k = .error e ∧ e ≠ 0 ∧ v = .tuple #[zNode, .int .i64 e] ∧ Bs = [PP]))
def atR (rd : Int → Except Nat Node) (k lv : Int) : Except Nat Node :=
  match rd k with
  | .error e => .error e
  | .ok x => if 0 ≤ lv ∧ x.level ≠ lv then .error 5 else .ok x
set_option maxHeartbeats 4000000 in
theorem gat_c {PP : HP} {p : Nat} {rd : Int → Except Nat Node} (hR : NdC PP p rd) (r : Nat) (k lv : Int) (path : List Int) (hp : path.length < 1000000000000) : Ctr Tryz.prog 52 [.pointer (some ⟨r, 0, none⟩), .int .i64 k, .int .i64 lv] [Wk r p path, PP]
    (fun v Bs => (∃ x u', atR rd k lv = .ok x ∧ nodeOk x = true ∧ v = .tuple #[ndV x u', .int .i64 0] ∧ Bs = [Wk r p (path ++ [k]), PP, Nd1 x u', Nd2 x u', Nd3 x u']) ∨
      (∃ e : Nat, atR rd k lv = .error e ∧ e ≠ 0 ∧ v = .tuple #[zNode, .int .i64 e] ∧ Bs = [Wk r p path, PP])) := by
  refine s_enter 45 [(0, _), (1, _), (2, _)] (fun F => [_, _, F]) Tryz.func52 fun F => ?_
  refine go_ ?_
  refine s_alloc fun r6 => ?_
  refine s_opn (φ := fun _ : Option Addr × Nat => True) (X := Wk.parts r p path) (by repeat (first | with_reducible exact Sel.here | with_reducible apply Sel.there)) fun q hq => ?_
  obtain ⟨a, c⟩ := q
  unfold Wk.parts
  refine s_nrm ?_
  refine go_ ?_
  refine s_call (sp := (by repeat (first | exact Split.nil | apply Split.perx (by repeat (first | with_reducible exact Sel.here | with_reducible apply Sel.there)) (by infer_instance) | apply Split.cons (by repeat (first | with_reducible exact Sel.here | with_reducible apply Sel.there))))) (hs := hR k) (h := ?_)
  rintro v Bs (⟨x, u', hr, hok, rfl, rfl⟩ | ⟨e, hr, he, rfl, rfl⟩)
  · refine go_ ?_
    refine s_alloc fun r8 => ?_
    refine go_ ?_
    have hA : ¬ (0 ≤ lv ∧ x.level ≠ lv) → atR rd k lv = .ok x := fun h => by unfold atR; rw [hr]; exact if_neg h
    have hB : (0 ≤ lv ∧ x.level ≠ lv) → atR rd k lv = .error 5 := fun h => by unfold atR; rw [hr]; exact if_pos h
    have hrow : ∀ q, q < path.length + 1 → rcat path.length (pathR path) (fun _ => [.int .i64 k]) q = pathR (path ++ [k]) q := fun q hq => by
      unfold rcat pathR
      by_cases hq2 : q < path.length
      · rw [if_pos hq2, List.getD_eq_getElem?_getD, List.getD_eq_getElem?_getD, List.getElem?_append_left hq2]
      · have : q = path.length := by omega
        subst this
        rw [if_neg hq2]; simp [List.getD_eq_getElem?_getD]
    cases hl0 : decide (lv ≥ 0) with
    | false =>
      have hl1 := of_decide_eq_false hl0
      refine go_ ?_
      refine s_step (st_bs1 (sz := 1) (cells := [.int .i64 k]) rfl) ?_
      rintro _ _ ⟨a3, rfl, rfl⟩
      refine go_ ?_
      refine s_step (st_appO (a := a) (len := path.length) (cap := c) (b := a3) (m := 1) (c := 1) (by repeat (first | with_reducible exact Sel.here | with_reducible apply Sel.there)) (by repeat (first | with_reducible exact SelR.here | with_reducible apply SelR.there)) (by rw [flat_one]; rfl)) ?_
      rintro _ _ ⟨a4, c4, rfl, rfl⟩
      refine s_open (SO.cg (pathR (path ++ [k])) hrow) ?_
      refine go_ ?_
      refine s_front (a := SO 3 1 (.slice a4 (path.length + 1) c4) (path.length + 1) (pathR (path ++ [k]))) (by repeat (first | with_reducible exact Sel.here | with_reducible apply Sel.there)) ?_
      rw [show path.length + 1 = (path ++ [k]).length by simp]
      refine s_cls (φ := fun _ : Option Addr × Nat => True) (X := Wk.parts r p (path ++ [k])) (a4, c4) trivial (by repeat (first | exact Split.nil | apply Split.perx (by repeat (first | with_reducible exact Sel.here | with_reducible apply Sel.there)) (by infer_instance) | apply Split.cons (by repeat (first | with_reducible exact Sel.here | with_reducible apply Sel.there)))) ?_
      exact s_rett (rs := [.cell 6 88, .tmp 7]) (vs := [_, _]) Tryz.func52 rfl (by intro j; refine RVS.cell _ _ rfl (by repeat (first | with_reducible exact Sel.here | with_reducible apply Sel.there)) (by rfl) ?_; refine RVS.tmp _ rfl ?_; exact RVS.nil) rfl (.inl ⟨x, u', hA (fun h => hl1 h.1), hok, rfl, rfl⟩) (by repeat (first | exact Ent.nil | refine Ent.per (by repeat (first | with_reducible exact Sel.here | with_reducible apply Sel.there)) ?_ | refine Ent.cons (by repeat (first | with_reducible exact Sel.here | with_reducible apply Sel.there)) ?_))
    | true =>
      have hl1 := of_decide_eq_true hl0
      refine go_ ?_
      cases hl2 : (x.level != lv) with
      | true =>
        have hl3 : x.level ≠ lv := by simpa using hl2
        refine go_ ?_
        refine s_cls (φ := fun _ : Option Addr × Nat => True) (X := Wk.parts r p path) (a, c) trivial (by repeat (first | exact Split.nil | apply Split.perx (by repeat (first | with_reducible exact Sel.here | with_reducible apply Sel.there)) (by infer_instance) | apply Split.cons (by repeat (first | with_reducible exact Sel.here | with_reducible apply Sel.there)))) ?_
        exact s_rett (rs := [.cell 6 88, .tmp 7]) (vs := [_, _]) Tryz.func52 rfl (by intro j; refine RVS.cell _ _ rfl (by repeat (first | with_reducible exact Sel.here | with_reducible apply Sel.there)) (by rfl) ?_; refine RVS.tmp _ rfl ?_; exact RVS.nil) rfl (.inr ⟨5, hB ⟨hl1, hl3⟩, by decide, rfl, rfl⟩) (by repeat (first | exact Ent.nil | refine Ent.per (by repeat (first | with_reducible exact Sel.here | with_reducible apply Sel.there)) ?_ | refine Ent.cons (by repeat (first | with_reducible exact Sel.here | with_reducible apply Sel.there)) ?_))
      | false =>
        have hl3 : x.level = lv := by simpa using hl2
        refine go_ ?_
        refine s_step (st_bs1 (sz := 1) (cells := [.int .i64 k]) rfl) ?_
        rintro _ _ ⟨a3, rfl, rfl⟩
        refine go_ ?_
        refine s_step (st_appO (a := a) (len := path.length) (cap := c) (b := a3) (m := 1) (c := 1) (by repeat (first | with_reducible exact Sel.here | with_reducible apply Sel.there)) (by repeat (first | with_reducible exact SelR.here | with_reducible apply SelR.there)) (by rw [flat_one]; rfl)) ?_
        rintro _ _ ⟨a4, c4, rfl, rfl⟩
        refine s_open (SO.cg (pathR (path ++ [k])) hrow) ?_
        refine go_ ?_
        refine s_front (a := SO 3 1 (.slice a4 (path.length + 1) c4) (path.length + 1) (pathR (path ++ [k]))) (by repeat (first | with_reducible exact Sel.here | with_reducible apply Sel.there)) ?_
        rw [show path.length + 1 = (path ++ [k]).length by simp]
        refine s_cls (φ := fun _ : Option Addr × Nat => True) (X := Wk.parts r p (path ++ [k])) (a4, c4) trivial (by repeat (first | exact Split.nil | apply Split.perx (by repeat (first | with_reducible exact Sel.here | with_reducible apply Sel.there)) (by infer_instance) | apply Split.cons (by repeat (first | with_reducible exact Sel.here | with_reducible apply Sel.there)))) ?_
        exact s_rett (rs := [.cell 6 88, .tmp 7]) (vs := [_, _]) Tryz.func52 rfl (by intro j; refine RVS.cell _ _ rfl (by repeat (first | with_reducible exact Sel.here | with_reducible apply Sel.there)) (by rfl) ?_; refine RVS.tmp _ rfl ?_; exact RVS.nil) rfl (.inl ⟨x, u', hA (fun h => h.2 hl3), hok, rfl, rfl⟩) (by repeat (first | exact Ent.nil | refine Ent.per (by repeat (first | with_reducible exact Sel.here | with_reducible apply Sel.there)) ?_ | refine Ent.cons (by repeat (first | with_reducible exact Sel.here | with_reducible apply Sel.there)) ?_))
  · refine go_ ?_
    refine s_alloc fun r8 => ?_
    refine go_ ?_
    rw [show (((e : Nat) : Int) != 0) = true by simp; omega]
    have hE : atR rd k lv = .error e := by unfold atR; rw [hr]
    refine go_ ?_
    refine s_cls (φ := fun _ : Option Addr × Nat => True) (X := Wk.parts r p path) (a, c) trivial (by repeat (first | exact Split.nil | apply Split.perx (by repeat (first | with_reducible exact Sel.here | with_reducible apply Sel.there)) (by infer_instance) | apply Split.cons (by repeat (first | with_reducible exact Sel.here | with_reducible apply Sel.there)))) ?_
    exact s_rett (rs := [.cell 6 88, .tmp 7]) (vs := [_, _]) Tryz.func52 rfl (by intro j; refine RVS.cell _ _ rfl (by repeat (first | with_reducible exact Sel.here | with_reducible apply Sel.there)) (by rfl) ?_; refine RVS.tmp _ rfl ?_; exact RVS.nil) rfl (.inr ⟨e, hE, he, rfl, rfl⟩) (by repeat (first | exact Ent.nil | refine Ent.per (by repeat (first | with_reducible exact Sel.here | with_reducible apply Sel.there)) ?_ | refine Ent.cons (by repeat (first | with_reducible exact Sel.here | with_reducible apply Sel.there)) ?_))
end Go.Proofs.YtgbbcpfnmkeijaaGreat
