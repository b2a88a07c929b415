/- seal.Seal. -/
import Derived.Test.YtgbbcpfnmkeijaaFindI
import Derived.Test.YtgbbcpfnmkeijaaCamAJ
namespace Go.Proofs.Ytgbbcpfnmkeijaa
open Go.Cam
set_option maxRecDepth 100000
theorem put_f {a : Option Addr} {c : Nat} (l : List Nat) (x n : Nat) (h1 : 1 ≤ n) (h8 : n ≤ 8) (hx : x < 9223372036854775808) (hl : l.length < 1000000) : Ctr Try.prog 102 [.slice a l.length c, .int .i64 (x : Int), .int .i64 (n : Int)] [BS (.slice a l.length c) l]
    (fun v Bs => ∃ a' cap, v = .slice a' (l ++ putN x n).length cap ∧ Bs = [BS (.slice a' (l ++ putN x n).length cap) (l ++ putN x n)]) :=
  (put_c l x n h1 h8 hx hl).view fun v Bs ⟨a', cap, hv, hb⟩ => ⟨_, ⟨a', cap, hv, rfl⟩, by rw [hb]; exact View.fz⟩
theorem bs_nil {H M : Heap} : (Sat [BS (.slice none ([] : List Nat).length 0) []]).p H M := sat1 ⟨none, 0, rfl, Nat.le_refl _, fun i hi => by simp at hi, fun h => by simp at h⟩
theorem put_f0 (x n : Nat) (h1 : 1 ≤ n) (h8 : n ≤ 8) (hx : x < 9223372036854775808) : Ctr Try.prog 102 [.slice none 0 0, .int .i64 (x : Int), .int .i64 (n : Int)] []
    (fun v Bs => ∃ a' cap, v = .slice a' (putN x n).length cap ∧ Bs = [BS (.slice a' (putN x n).length cap) (putN x n)]) :=
  (put_f (a := none) (c := 0) [] x n h1 h8 hx (by simp)).pre fun _ _ _ => bs_nil
theorem putN_lt (x n : Nat) : Bys (putN x n) := fun c hc => by
  obtain ⟨i, _, rfl⟩ := List.mem_map.1 hc; exact Nat.mod_lt _ (by decide)
/-- a block's header, behind its sum -/
@[reducible] def hdrB (h : Head) : List Nat := putN h.kind 1 ++ putN h.level 1 ++ putN h.addr 2 ++ putN h.count 2 ++ putN h.gen 5
theorem hdrB_len (h : Head) : (hdrB h).length = 11 := by simp [hdrB, putN_len]
/-- a block, behind its sum -/
def sealT (h : Head) (body : List Nat) : List Nat := hdrB h ++ List.replicate 5 0 ++ body ++ List.replicate (236 - body.length) 0
def sealB (h : Head) (body : List Nat) : List Nat := putN (sumB (sealT h body)) 4 ++ sealT h body
theorem sealT_len {h : Head} {body : List Nat} (hb : body.length ≤ 236) : (sealT h body).length = 252 := by simp [sealT, putN_len]; omega
theorem sealB_len {h : Head} {body : List Nat} (hb : body.length ≤ 236) : (sealB h body).length = 256 := by simp [sealB, sealT_len hb, putN_len]
theorem sealT_bys {h : Head} {body : List Nat} (hb : Bys body) : Bys (sealT h body) :=
  ((((((((putN_lt _ _).app (putN_lt _ _)).app (putN_lt _ _)).app (putN_lt _ _)).app (putN_lt _ _))).app (Bys.zeros _)).app hb).app (Bys.zeros _)
theorem sealB_bys {h : Head} {body : List Nat} (hb : Bys body) : Bys (sealB h body) := (putN_lt _ _).app (sealT_bys hb)
theorem over_app (a b c x : List Nat) (h : b.length = x.length) : over (a ++ b ++ c) a.length x = a ++ x ++ c := by
  unfold over
  rw [List.append_assoc a b c, List.take_left' rfl, ← h, ← List.append_assoc a b c, List.drop_left' (by simp)]
theorem over2 (h : Head) (body : List Nat) (hb : body.length ≤ 236) : over (over (List.replicate 256 0) 4 (hdrB h)) 20 body = List.replicate 4 0 ++ sealT h body := by
  have e1 : List.replicate 256 0 = List.replicate 4 0 ++ List.replicate 11 0 ++ List.replicate 241 0 := by rw [List.replicate_append_replicate, List.replicate_append_replicate]
  have e2 : over (List.replicate 256 0) 4 (hdrB h) = List.replicate 4 0 ++ hdrB h ++ List.replicate 241 0 := by
    rw [e1]; exact over_app (List.replicate 4 0) _ _ _ (by simp [putN_len])
  rw [e2]
  have e3 : List.replicate 241 0 = List.replicate 5 0 ++ (List.replicate body.length 0 ++ List.replicate (236 - body.length) 0) := by rw [List.replicate_append_replicate, List.replicate_append_replicate]; congr 1; omega
  rw [e3]
  have := over_app (List.replicate 4 0 ++ hdrB h ++ List.replicate 5 0) (List.replicate body.length 0) (List.replicate (236 - body.length) 0) body (by simp)
  have e6 : (List.replicate 4 0 ++ hdrB h ++ List.replicate 5 0).length = 20 := by simp [putN_len]
  rw [e6] at this
  simpa [sealT, List.append_assoc] using this
theorem over_seal (h : Head) (body s : List Nat) (hb : body.length ≤ 236) (hs : s.length = 4) :
    over (over (over (List.replicate 256 0) 4 (hdrB h)) 20 body) 0 s = s ++ sealT h body := by
  rw [over2 h body hb]
  have := over_app [] (List.replicate 4 0) (sealT h body) s (by simp [hs])
  simpa using this
theorem drop4_seal (h : Head) (body : List Nat) (hb : body.length ≤ 236) : (over (over (List.replicate 256 0) 4 (hdrB h)) 20 body).drop 4 = sealT h body := by
  rw [over2 h body hb]; rfl
set_option maxHeartbeats 2000000 in
theorem seal_c {a : Option Addr} {c : Nat} (h : Head) (body : List Nat) (ho : h.ok) (hb : Bys body) (hl : body.length ≤ 236) : Ctr Try.prog 73 [h.v, .slice a body.length c] [BS (.slice a body.length c) body]
    (fun v Bs => ∃ r, v = .tuple #[.slice (some ⟨r, 0, none⟩) 256 256, .int .i64 0] ∧ Bs = [SA none 1 (.slice (some ⟨r, 0, none⟩) 256 256) 256 (byR (sealB h body))]) := by
  have hg : h.gen < 9223372036854775808 := by have := ho.2.2 3 (by omega); simp only [Head.lo, hdHi] at this; omega
  have hk : h.kind < 9223372036854775808 := by have := ho.2.1; omega
  have hlv : h.level < 9223372036854775808 := by have := ho.2.2 0 (by omega); simp only [Head.lo, hdHi] at this; omega
  have had : h.addr < 9223372036854775808 := by have := ho.2.2 1 (by omega); simp only [Head.lo, hdHi] at this; omega
  have hct : h.count < 9223372036854775808 := by have := ho.2.2 2 (by omega); simp only [Head.lo, hdHi] at this; omega
  refine s_enter 48 [(0, _), (1, _)] (fun F => [_, F]) Try.func73 fun F => ?_
  refine go_ ?_
  refine s_box fun r2 => ?_
  refine go_ ?_
  refine s_call (sp := (by repeat (first | exact Split.nil | apply Split.perx (by repeat (first | with_reducible exact Sel.here | with_reducible apply Sel.there)) (by infer_instance) | apply Split.cons (by repeat (first | with_reducible exact Sel.here | with_reducible apply Sel.there))))) (hs := hmay_c h) (h := ?_)
  rintro v Bs ⟨rfl, rfl⟩
  rw [show decide h.ok = true from decide_eq_true ho]
  refine go_ ?_
  refine s_if (fun h2 => ?_) (fun h2 => ?_)
  · exact absurd h2 (by omega)
  refine go_ ?_
  refine s_step (st_mk (len := 256) (o1 := ⟨rfl⟩)) ?_
  rintro _ _ ⟨ab, rfl, rfl⟩
  refine s_full (m := 256) (by repeat (first | with_reducible exact Sel.here | with_reducible apply Sel.there)) (by decide) fun rb eb => ?_
  subst eb
  refine s_open (B := BA rb 5 (List.replicate 256 0)) (fun _ _ q => q) ?_
  refine go_ ?_
  refine s_drawN 0 [.q 0, .q 1, .q 3, .q 4, .q 6, .q 7, .s 2, .s 5, .s 8, .q 9] ?_
  refine do_ ?_
  refine d_step rfl (st_call (sp := (by repeat (first | exact Split.nil | apply Split.perx (by repeat (first | with_reducible exact Sel.here | with_reducible apply Sel.there)) (by infer_instance) | apply Split.cons (by repeat (first | with_reducible exact Sel.here | with_reducible apply Sel.there))))) (hs := put_f0 h.kind 1 (by omega) (by omega) hk)) ?_
  rintro v Bs ⟨Cs, ⟨a1, c1, rfl, rfl⟩, rfl⟩
  refine do_ ?_
  refine d_step rfl (st_call (sp := (by repeat (first | exact Split.nil | apply Split.perx (by repeat (first | with_reducible exact Sel.here | with_reducible apply Sel.there)) (by infer_instance) | apply Split.cons (by repeat (first | with_reducible exact Sel.here | with_reducible apply Sel.there))))) (hs := put_f (putN h.kind 1) h.level 1 (by omega) (by omega) hlv (by simp [putN_len]))) ?_
  rintro v Bs ⟨Cs, ⟨a2, c2, rfl, rfl⟩, rfl⟩
  refine do_ ?_
  refine d_step rfl (st_call (sp := (by repeat (first | exact Split.nil | apply Split.perx (by repeat (first | with_reducible exact Sel.here | with_reducible apply Sel.there)) (by infer_instance) | apply Split.cons (by repeat (first | with_reducible exact Sel.here | with_reducible apply Sel.there))))) (hs := put_f (putN h.kind 1 ++ putN h.level 1) h.addr 2 (by omega) (by omega) had (by simp [putN_len]))) ?_
  rintro v Bs ⟨Cs, ⟨a3, c3, rfl, rfl⟩, rfl⟩
  refine do_ ?_
  refine go_ ?_
  refine s_drawN 4 [.q 0, .q 1, .q 2, .q 3, .q 4, .q 6, .q 7, .s 5, .s 8, .s 9] ?_
  refine do_ ?_
  refine d_step rfl (st_call (sp := (by repeat (first | exact Split.nil | apply Split.perx (by repeat (first | with_reducible exact Sel.here | with_reducible apply Sel.there)) (by infer_instance) | apply Split.cons (by repeat (first | with_reducible exact Sel.here | with_reducible apply Sel.there))))) (hs := put_f _ h.count 2 (by omega) (by omega) hct (by simp [putN_len]))) ?_
  rintro v Bs ⟨Cs, ⟨a4, c4, rfl, rfl⟩, rfl⟩
  refine do_ ?_
  refine d_step rfl (st_call (sp := (by repeat (first | exact Split.nil | apply Split.perx (by repeat (first | with_reducible exact Sel.here | with_reducible apply Sel.there)) (by infer_instance) | apply Split.cons (by repeat (first | with_reducible exact Sel.here | with_reducible apply Sel.there))))) (hs := put_f _ h.gen 5 (by omega) (by omega) hg (by simp [putN_len]))) ?_
  rintro v Bs ⟨Cs, ⟨a5, c5, rfl, rfl⟩, rfl⟩
  refine do_ ?_
  refine d_step rfl (st_cpB (b := rb) (off := 4) (n' := 252) (u := a5) (c := c5) (o := List.replicate 256 0) (s := hdrB h) (by repeat (first | with_reducible exact Upd.here | with_reducible apply Upd.there)) (by repeat (first | with_reducible exact SelR.here | with_reducible apply SelR.there)) rfl (by rw [hdrB_len]; decide)) ?_
  rintro _ _ ⟨rfl, rfl⟩
  refine do_ ?_
  refine go_ ?_
  rw [show (List.take 252 (hdrB h)) = hdrB h from List.take_of_length_le (by rw [hdrB_len]; decide)]
  refine s_step (st_cpB (b := rb) (off := 20) (n' := 236) (u := a) (c := c) (o := over (List.replicate 256 0) 4 (hdrB h)) (s := body) (by repeat (first | with_reducible exact Upd.here | with_reducible apply Upd.there)) (by repeat (first | with_reducible exact SelR.here | with_reducible apply SelR.there)) rfl (by rw [over_len (by rw [hdrB_len]; decide)]; simp; omega)) ?_
  rintro _ _ ⟨rfl, rfl⟩
  rw [show (List.take 236 body) = body from List.take_of_length_le hl]
  refine go_ ?_
  haveI hrd := rd_BA (r := rb) (ty := 5) (x := over (over (List.replicate 256 0) 4 (hdrB h)) 20 body) 4 252 252 (by rw [over2 h body hl]; simp [sealT_len hl]) (Nat.le_refl _)
  rw [drop4_seal h body hl, List.take_of_length_le (by rw [sealT_len hl]; decide)] at hrd
  refine s_call (sp := (by repeat (first | exact Split.nil | apply Split.perx (by repeat (first | with_reducible exact Sel.here | with_reducible apply Sel.there)) (by infer_instance) | apply Split.cons (by repeat (first | with_reducible exact Sel.here | with_reducible apply Sel.there))))) (hs := sum_n (A := BA rb 5 (over (over (List.replicate 256 0) 4 (hdrB h)) 20 body)) (a := some ⟨rb, 4, none⟩) (n := 252) (c := 252) (sealT h body) (sealT_len hl) (sealT_bys hb) (by decide)) (h := ?_)
  rintro v Bs ⟨rfl, rfl⟩
  refine go_ ?_
  have hsl := moreB_lt 0 (sealT h body) (by decide) (sealT_bys hb)
  rw [show IntKind.i64.wrap ((sumB (sealT h body) : Nat) : Int) = ((sumB (sealT h body) : Nat) : Int) from wrap_id (by omega) (by unfold sumB; omega)]
  refine s_call (sp := (by repeat (first | exact Split.nil | apply Split.perx (by repeat (first | with_reducible exact Sel.here | with_reducible apply Sel.there)) (by infer_instance) | apply Split.cons (by repeat (first | with_reducible exact Sel.here | with_reducible apply Sel.there))))) (hs := put_f0 (sumB (sealT h body)) 4 (by omega) (by omega) (by unfold sumB; omega)) (h := ?_)
  rintro v Bs ⟨a6, c6, rfl, rfl⟩
  refine go_ ?_
  refine s_step (st_cpB (b := rb) (off := 0) (n' := 256) (u := a6) (c := c6) (o := over (over (List.replicate 256 0) 4 (hdrB h)) 20 body) (s := putN (sumB (sealT h body)) 4) (by repeat (first | with_reducible exact Upd.here | with_reducible apply Upd.there)) (by repeat (first | with_reducible exact SelR.here | with_reducible apply SelR.there)) rfl (by rw [over2 h body hl, putN_len]; simp [sealT_len hl])) ?_
  rintro _ _ ⟨rfl, rfl⟩
  rw [show (List.take 256 (putN (sumB (sealT h body)) 4)) = putN (sumB (sealT h body)) 4 from List.take_of_length_le (by rw [putN_len]; decide), over_seal h body _ hl (putN_len _ _)]
  refine go_ ?_
  refine s_fzB 0 256 256 (by repeat (first | with_reducible exact Sel.here | with_reducible apply Sel.there)) (by omega) (by rw [List.length_append, putN_len, sealT_len hl]; decide) (by omega) ?_
  rw [List.drop_zero, List.take_of_length_le (by rw [List.length_append, putN_len, sealT_len hl]; decide)]
  have e256 : (putN (sumB (sealT h body)) 4 ++ sealT h body).length = 256 := by rw [List.length_append, putN_len, sealT_len hl]
  refine s_open (B := SA none 1 (.slice (some ⟨rb, 0, none⟩) 256 256) 256 (byR (sealB h body))) (fun _ _ q => by rw [show BS (.slice (some ⟨rb, 0, none⟩) (256 - 0) 256) (putN (sumB (sealT h body)) 4 ++ sealT h body) = SA none 1 (.slice (some ⟨rb, 0, none⟩) 256 256) 256 (byR (sealB h body)) from by unfold BS; rw [e256]; rfl] at q; exact q) ?_
  exact s_rett (rs := [.tmp 4, .tmp 5]) (vs := [_, _]) Try.func73 rfl (by intro j; refine RVS.tmp _ rfl ?_; refine RVS.tmp _ rfl ?_; exact RVS.nil) rfl (⟨rb, rfl, rfl⟩) (by repeat (first | exact Ent.nil | refine Ent.per (by repeat (first | with_reducible exact Sel.here | with_reducible apply Sel.there)) ?_ | refine Ent.cons (by repeat (first | with_reducible exact Sel.here | with_reducible apply Sel.there)) ?_))
theorem seal_n {a : Option Addr} {n c : Nat} (h : Head) (body : List Nat) (hn : body.length = n) (ho : h.ok) (hb : Bys body) (hl : n ≤ 236) : Ctr Try.prog 73 [h.v, .slice a n c] [SA none 1 (.slice a n c) n (byR body)]
    (fun v Bs => ∃ r, v = .tuple #[.slice (some ⟨r, 0, none⟩) 256 256, .int .i64 0] ∧ Bs = [SA none 1 (.slice (some ⟨r, 0, none⟩) 256 256) 256 (byR (sealB h body))]) := by
  subst hn; exact seal_c h body ho hb hl
end Go.Proofs.Ytgbbcpfnmkeijaa
/- Families of assertions that are only read; slices of slices of bytes. -/
namespace Go.Cam
def Fam (n : Nat) (F : Nat → HP) : HP := ⟨fun H M => ∀ i, i < n → (F i).p H M, fun h1 h2 h i hi => (F i).mono h1 h2 (h i hi)⟩
instance {n : Nat} {F : Nat → HP} [hp : ∀ i, Per (F i)] : Per (Fam n F) := ⟨fun h i hi => (hp i).h (h i hi)⟩
theorem Fam.get {n : Nat} {F : Nat → HP} {i : Nat} (hi : i < n) (H M : Heap) (h : (Fam n F).p H M) : (F i).p H M := h i hi
section
variable {P : Program} {f : FuncId} {n : Nat} {R : Value → HP} {k : List It} {l : List (Nat × Value)} {As Bs Rs Zs : List HP}
theorem s_get {m : Nat} {F : Nat → HP} [hp : ∀ i, Per (F i)] (i : Nat) (u : Sel (Fam m F) As Bs) (hi : i < m) (h : RunS P f n R k l (F i :: As)) : RunS P f n R k l As := s_dup u (s_open (Fam.get hi) h)
theorem s_fam0 {F : Nat → HP} (h : RunS P f n R k l (Fam 0 F :: As)) : RunS P f n R k l As := .mk fun H M s => h H M ⟨fun _ => none, M, (fun _ _ h => nomatch h), Le.refl _, fun _ => .inl rfl, fun i hi => by omega, s⟩
theorem s_famS {m : Nat} {F : Nat → HP} [hp : ∀ i, Per (F i)] (u : Sel (Fam m F) As Bs) (u2 : Sel (F m) Bs Rs) (h : RunS P f n R k l (Fam (m + 1) F :: Rs)) : RunS P f n R k l As := .mk fun H M s => by
  have h1 := u.hold s
  have h2 := star_snd (u.sat s)
  have h3 := u2.hold h2
  refine h H M (per_add (M0 := M) (fun i hi => ?_) (star_snd (u2.sat h2)))
  by_cases e : i = m
  · subst e; exact h3
  · exact h1 i (by omega)
theorem Fam.cg {m : Nat} {F : Nat → HP} (G : Nat → HP) (hc : ∀ i, i < m → ∀ H M, (F i).p H M → (G i).p H M) (H M : Heap) (h : (Fam m F).p H M) : (Fam m G).p H M := fun i hi => hc i hi H M (h i hi)
/-- something that holds is forgotten -/
theorem s_drop {a : HP} (u : Sel a As Bs) (h : RunS P f n R k l Bs) : RunS P f n R k l As := .mk fun H M s => h H M (star_snd (u.sat s))
theorem s_fact {φ : Prop} (hφ : φ) (h : φ → RunS P f n R k l As) : RunS P f n R k l As := h hφ
/-- copy of as many elements as there are -/
theorem st_cpA {dd : Option Nat} {oty : TypeId} {pos : String} {af : Array Edge} {g : Option (Nat × Bool)} {t t2 el e sz m c c' : Nat} {x y : Operand} {a u : Option Addr} {r1 r2 : Nat → List Value} [sc : SC P t el] [hs : SZ P el sz] (h0 : 0 < m) (hsz : 0 < sz)
    (up : Sel (SA (some e) sz (.slice a m c) m r1) As Bs) (hr : SelR As sz (.slice u m c') m r2) (h1 : (flat m r2).all one = true)
    (hx : ∀ j, ev (mk l j) x = .slice a m c := by intro j; rfl) (hy : ∀ j, ev (mk l j) y = .slice u m c' := by intro j; rfl) :
    StepL P ⟨dd, .call ⟨.builtin .copy, #[x, y], #[t, t2]⟩, oty, pos, af, g⟩ l As (fun v Cs => v = .int .i64 (m : Nat) ∧ Cs = SA (some e) sz (.slice a m c) m r2 :: Bs) := .mk fun j Fs H M q => by
  rw [execOp_copy, hx j, hy j]
  obtain ⟨M1, M2, a1, a2, dj, ⟨hr1, hr2, hown, _⟩, hB⟩ := (up.app Fs).sat q
  have hrr := (hr.app Fs).rd q
  have hrl : ∀ i, i < m → (r2 i).length = sz := by obtain ⟨_, _, _, _, h, _⟩ := hrr; exact h
  rcases hown with ⟨h2, _⟩ | ⟨b, ln, cp, cs, e1, h3, h4, h5, h6, h7⟩
  · cases h2; omega
  · cases e1
    have hov : ((HP.own b (.cells cs e (0, 0))).star (Sat (Bs ++ Fs))).p H M := ⟨M1, M2, a1, a2, dj, h6, hB⟩
    obtain ⟨hb, hq⟩ := own_write (o' := .cells (setL cs 0 (flat m r2)) e (0, 0)) hov
    have hle : m * sz ≤ c * sz := Nat.mul_le_mul_right _ h5
    refine hmc_of_hm (hm_bind (hm_copy (n' := m) (c' := c) (off := 0) hb hrr h1 (by rw [Nat.min_self, h4]; omega) (hm_pure ⟨_, .inl rfl, _, ⟨by rw [Nat.min_self], rfl⟩, ?_⟩)))
    rw [Nat.min_self]
    refine star_monoL (fun H M h => ?_) hq
    have hfl := flat_len hrl
    refine ⟨hrl, h1, .inr ⟨b, m, c, _, rfl, hfl, by rw [setL_size]; exact h4, h5, h, ?_⟩, _, _, rfl⟩
    have e2 : cs = cs.toList.toArray := by simp
    rw [e2, setL_list _ _ _ (by rw [hfl]; simp [h4]; omega)]
    simp only [List.take_zero, List.nil_append]
    exact List.take_left' rfl
theorem lk_min {d : Nat} {oty : TypeId} {pos : String} {af : Array Edge} {g : Option (Nat × Bool)} {t t2 : TypeId} {x y : Operand} {kd k2 : IntKind} {a b : Int} (c : Int) (hx : ∀ j, ev (mk l j) x = .int kd a := by intro j; rfl) (hy : ∀ j, ev (mk l j) y = .int k2 b := by intro j; rfl) (hc : (if b < a then b else a) = c := by first | (split <;> omega) | simp) :
    LookS P ⟨some d, .call ⟨.builtin .min, #[x, y], #[t, t2]⟩, oty, pos, af, g⟩ l As (.int kd c) := .mk fun j _ _ _ => by
  refine qt_cst ?_
  show cst P (resolve (ev (mk l j)) ⟨.builtin .min, #[x, y], #[t, t2]⟩ oty >>= fun d => invoke d.target d.args) = _
  have e1 : #[x, y].map (ev (mk l j)) = #[ev (mk l j) x, ev (mk l j) y] := by simp
  unfold resolve
  dsimp only
  rw [e1, hx j, hy j, ← hc]
  rfl
theorem lk_max {d : Nat} {oty : TypeId} {pos : String} {af : Array Edge} {g : Option (Nat × Bool)} {t t2 : TypeId} {x y : Operand} {kd k2 : IntKind} {a b : Int} (c : Int) (hx : ∀ j, ev (mk l j) x = .int kd a := by intro j; rfl) (hy : ∀ j, ev (mk l j) y = .int k2 b := by intro j; rfl) (hc : (if b > a then b else a) = c := by first | (split <;> omega) | simp) :
    LookS P ⟨some d, .call ⟨.builtin .max, #[x, y], #[t, t2]⟩, oty, pos, af, g⟩ l As (.int kd c) := .mk fun j _ _ _ => by
  refine qt_cst ?_
  show cst P (resolve (ev (mk l j)) ⟨.builtin .max, #[x, y], #[t, t2]⟩ oty >>= fun d => invoke d.target d.args) = _
  have e1 : #[x, y].map (ev (mk l j)) = #[ev (mk l j) x, ev (mk l j) y] := by simp
  unfold resolve
  dsimp only
  rw [e1, hx j, hy j, ← hc]
  rfl
theorem strB_snoc (l : List Nat) (c : Nat) : strB (l ++ [c]) = (strB l).push (UInt8.ofNat c) := by
  unfold strB
  apply ByteArray.ext
  show _ = ((l.map UInt8.ofNat).toArray).push (UInt8.ofNat c)
  simp
theorem hq_b2s {H M : Heap} {n c : Nat} {a : Option Addr} {s : List Nat} (hr : SlK (Kn H M) 1 (.slice a n c) n (byR s)) (hl : s.length = n) : hq P (Conv.bytesToString (.slice a n c)) H M (.string (strB s)) := by
  obtain ⟨base, cap, e, _, _, h3⟩ := hr
  cases e
  cases a with
  | none =>
    have : n = 0 := by
      rcases Nat.eq_zero_or_pos n with h | h
      · exact h
      · obtain ⟨_, _, _, _, _, h4, _⟩ := h3 h; cases h4
    subst this
    have : s = [] := List.eq_nil_of_length_eq_zero hl
    subst this
    exact hq_pure
  | some a =>
    unfold Conv.bytesToString
    dsimp only
    have hload : hq P (loadCells a n) H M (bcl s).toArray := by
      rcases Nat.eq_zero_or_pos n with h | h
      · subst h
        have : s = [] := List.eq_nil_of_length_eq_zero hl
        subst this
        exact hq_cst rfl
      · obtain ⟨bx, ox, cx, tx, fx, e, kx, hsx, hxx⟩ := h3 h
        cases e
        intro w0 w hh
        have h4 := loadCells_known (P := P) (off := ox) hh kx n 0 #[] (by omega)
        simp only [Nat.add_zero, Array.empty_append] at h4
        rw [Nat.mul_one] at hxx
        rw [hxx] at h4
        have : flat n (byR s) = bcl s := by rw [← hl]; exact flat_byR' s
        rw [this] at h4
        exact h4
    refine hq_bind hload ?_
    have hloop : ∀ (r d : List Nat), s = d ++ r → hq P (forIn (bcl r) (strB d) (fun c (s : ByteArray) => match c with
        | .int .u8 n => (pure (ForInStep.yield (s.push (UInt8.ofNat n.toNat))) : Sem _)
        | _ => stuck "bytesToString: byte expected")) H M (strB s) := by
      intro r
      induction r with
      | nil => intro d e; rw [List.append_nil] at e; subst e; exact hq_pure
      | cons x r ih =>
        intro d e
        have := ih (d ++ [x]) (by rw [e]; simp)
        rw [strB_snoc] at this
        show hq P (forIn (.int .u8 (x : Int) :: bcl r) _ _) H M _
        rw [List.forIn_cons]
        exact hq_bind hq_pure this
    have h5 := hloop s [] rfl
    rw [List.forIn_toArray]
    refine hq_bind (a := strB s) ?_ hq_pure
    exact h5
end
theorem fill_cons {pl : List (Nat × Nat)} {z : List Value} {i : Nat} {v : Value} {ps : List (Nat × Value)} {r : List Value} {off sz : Nat} {vs z' : List Value} (a : AtP pl i off sz) (c : Cel v vs) (n : LenL vs sz) (f : FitsL z off sz) (s : SetsL z off vs z') (q : FillL pl z' ps r) : FillL pl z ((i, v) :: ps) r := inferInstance
section
variable {P : Program} {f : FuncId} {n : Nat} {R : Value → HP} {k : List It} {l : List (Nat × Value)} {As Bs Rs Zs : List HP}
class U8T (P : Program) (e : Nat) : Prop where
  h : cst P (underlying e) = some (.int .u8)
/-- bytes as a text -/
theorem lk_b2s {d : Nat} {oty : TypeId} {pos : String} {af : Array Edge} {g : Option (Nat × Bool)} {t t2 e m c : Nat} {x : Operand} {a : Option Addr} {s : List Nat} [sc : SC P t e] [sy : STY P t2] [u8 : U8T P e] (hr : SelR As 1 (.slice a m c) m (byR s)) (hl : s.length = m) (hx : ∀ j, ev (mk l j) x = .slice a m c := by intro j; rfl) :
    LookS P ⟨some d, .convert t t2 x, oty, pos, af, g⟩ l As (.string (strB s)) := .mk fun j H M q => by
  refine qt_exec (s := convert t t2 (ev (mk l j) x)) (by unfold execOp; rfl) ?_
  rw [hx j]
  unfold convert
  refine hq_bind (hq_cst sc.h) (hq_bind (hq_cst sy.h) ?_)
  dsimp only
  refine hq_bind (hq_cst u8.h) ?_
  exact hq_b2s (hr.rd q) hl
/-- copy of an empty text: nothing -/
theorem st_cpE {dd : Option Nat} {oty : TypeId} {pos : String} {af : Array Edge} {g : Option (Nat × Bool)} {t t2 el sz m c b off : Nat} {x y : Operand} {cs : Array Value} {ty : TypeId} {s : ByteArray} [sc : SC P t el] [hs : SZ P el sz] (he : s.size = 0) (u : Sel (.own b (.cells cs ty (0, 0))) As Bs)
    (hx : ∀ j, ev (mk l j) x = .slice (some ⟨b, off, none⟩) m c := by intro j; rfl) (hy : ∀ j, ev (mk l j) y = .string s := by intro j; rfl) (hl : off ≤ cs.size := by first | (simp; done) | omega) :
    StepL P ⟨dd, .call ⟨.builtin .copy, #[x, y], #[t, t2]⟩, oty, pos, af, g⟩ l As (fun v Cs => v = .int .i64 ((0 : Nat) : Int) ∧ Cs = As) := .mk fun j Fs H M q => by
  rw [execOp_copy, hx j, hy j]
  have hb : M b = some (.cells cs ty (0, 0)) := star_fst ((u.app Fs).sat q)
  refine hmc_of_hm (hm_bind ?_)
  unfold Builtin.copy_
  simp only [List.getElem?_toArray, List.getElem?_cons_zero, List.getElem?_cons_succ]
  refine hm_bind (hm_cst sc.h ?_)
  dsimp only
  refine hm_bind (hm_cst (a := s.size) rfl ?_)
  refine hm_bind (hm_cst hs.h ?_)
  have hmin : Nat.min s.size m = 0 := by rw [he]; exact Nat.zero_min _
  rw [hmin]
  have hex : (s.extract 0 0).data.map (fun b : UInt8 => Value.int .u8 b.toNat) = #[] := by
    have : (s.extract 0 0).data = #[] := by
      have h1 : (s.extract 0 0).size = 0 := by simp
      exact Array.size_eq_zero_iff.1 h1
    rw [this]; simp
  refine hm_bind ?_
  show hm P (pure ((s.extract 0 0).data.map fun b : UInt8 => Value.int .u8 b.toNat)) H M _
  rw [hex]
  refine hm_pure ?_
  refine hm_bind ?_
  have e0 : upd M b (.cells (setL cs off []) ty (0, 0)) = M := by
    funext q
    by_cases h : q = b
    · subst h; rw [upd_same, hb]; rfl
    · rw [upd_ne h]
  refine hm_storeCells (vs := (#[] : Array Value).toList) hb (by simpa using hl) rfl ?_
  refine hm_pure (hm_pure ⟨_, .inl rfl, _, ⟨rfl, rfl⟩, ?_⟩)
  show (Sat (As ++ Fs)).p H (upd M b (.cells (setL cs off []) ty (0, 0)))
  rw [e0]; exact q
/-- a function that tells nothing comes to its end -/
theorem s_end {fn : Func} {Q : Value → List HP → Prop} {F : HP} (hf : P.funcs[f]? = some fn) (hq : Q (.tuple #[]) Bs) (he : Ent As (Bs ++ [F])) (hr : ∀ j, cst P (resE fn (mk l j)) = some (.tuple #[]) := by intro j; rfl) :
    RunS P f n (post Q F) [] l As := .mk fun _ _ s => run_end hf (fun j _ w _ => cst_run _ (hr j) w) ⟨Bs, hq, he.sat s⟩
end
theorem SlK.pure {K : Nat → Obj → Prop} {sz : Nat} {a : Option Addr} {n c : Nat} {row : Nat → List Value} (h : SlK K sz (.slice a n c) n row) : n ≤ c ∧ (a = none → n = 0) := by
  obtain ⟨b, cap, e, hc, _, h3⟩ := h
  cases e
  refine ⟨hc, fun ha => ?_⟩
  rcases Nat.eq_zero_or_pos n with h | h
  · exact h
  · obtain ⟨_, _, _, _, _, e, _⟩ := h3 h; rw [ha] at e; cases e
theorem rd_pure {A : HP} {sz : Nat} {a : Option Addr} {n c : Nat} {row : Nat → List Value} [r : Rd A sz (.slice a n c) n row] (H M : Heap) (h : A.p H M) : n ≤ c ∧ (a = none → n = 0) := (r.h H M h).pure
end Go.Cam
/- counts: New, free, Alloc, Get, Commit, Body; super.Areas. -/
namespace Go.Proofs.Ytgbbcpfnmkeijaa
open Go.Cam
set_option maxRecDepth 100000
def areaN (n : Nat) : Nat := (n + 117) / 118
def firstN (n : Nat) : Nat := 2 + 2 * areaN n
theorem areas_c (n : Nat) (h : n < 100000) : Ctr Try.prog 93 [.int .i64 (n : Int)] [] (fun v Bs => v = .tuple #[.int .i64 (areaN n : Nat), .int .i64 (firstN n : Nat)] ∧ Bs = []) := by
  refine s_enter 12 [(0, _)] (fun F => [F]) Try.func93 fun F => ?_
  refine go_ ?_
  have e0 : ((n : Int) + 118 - 1).tdiv 118 = ((areaN n : Nat) : Int) := by
    rw [Int.tdiv_eq_ediv_of_nonneg (by omega)]; unfold areaN; omega
  have ha : areaN n < 100000 := by unfold areaN; omega
  rw [e0, wrap_id (x := ((areaN n : Nat) : Int)) (by omega) (by omega), wrap_id (x := 2 * ((areaN n : Nat) : Int)) (by omega) (by omega), wrap_id (x := 2 + 2 * ((areaN n : Nat) : Int)) (by omega) (by omega),
    show 2 + 2 * ((areaN n : Nat) : Int) = ((firstN n : Nat) : Int) by unfold firstN; omega]
  exact s_rett (rs := [.tmp 2, .tmp 3]) (vs := [_, _]) Try.func93 rfl (by intro j; refine RVS.tmp _ rfl ?_; refine RVS.tmp _ rfl ?_; exact RVS.nil) rfl (⟨rfl, rfl⟩) (by repeat (first | exact Ent.nil | refine Ent.per (by repeat (first | with_reducible exact Sel.here | with_reducible apply Sel.there)) ?_ | refine Ent.cons (by repeat (first | with_reducible exact Sel.here | with_reducible apply Sel.there)) ?_))
/-- counts -/
structure Ct where
  n : Nat
  now : Nat → Nat
  done : Nat → Nat
structure CtW where
  a : Option Addr
  c : Nat
  a2 : Option Addr
  c2 : Nat
structure CtOk (σ : Ct) (x : CtW) : Prop where
  n1 : 32 ≤ σ.n
  n2 : σ.n ≤ 2048
  w : ∀ i, σ.now i ≤ 65535
  d : ∀ i, σ.done i ≤ 65535
abbrev intR (f : Nat → Nat) (i : Nat) : List Value := [.int .i64 (f i : Nat)]
abbrev Ct.box (b : Nat) (σ : Ct) (x : CtW) : HP := Box b 167 [.slice x.a σ.n x.c, .slice x.a2 σ.n x.c2, .int .i64 (areaN σ.n : Nat), .int .i64 (firstN σ.n : Nat)]
def Ct.parts (b : Nat) (σ : Ct) (x : CtW) : List HP := [Ct.box b σ x, SA (some 3) 1 (.slice x.a σ.n x.c) σ.n (intR σ.now), SA (some 3) 1 (.slice x.a2 σ.n x.c2) σ.n (intR σ.done)]
abbrev CtA (b : Nat) (σ : Ct) : HP := EX (CtOk σ) (Ct.parts b σ)
abbrev Ct.new (n : Nat) : Ct := ⟨n, fun _ => 0, fun _ => 0⟩
theorem cnew_c (n : Nat) (h1 : 32 ≤ n) (h2 : n ≤ 2048) : Ctr Try.prog 58 [.int .i64 (n : Int)] [] (fun v Bs => ∃ b, v = .tuple #[.pointer (some ⟨b, 0, none⟩), .int .i64 0] ∧ Bs = [CtA b (Ct.new n)]) := by
  refine s_enter 25 [(0, _)] (fun F => [F]) Try.func58 fun F => ?_
  refine go_ ?_
  rw [show decide ((n : Int) < 32) = false from decide_eq_false (by omega)]
  refine go_ ?_
  rw [show decide ((n : Int) > 2048) = false from decide_eq_false (by omega)]
  refine go_ ?_
  refine s_call (sp := (by repeat (first | exact Split.nil | apply Split.perx (by repeat (first | with_reducible exact Sel.here | with_reducible apply Sel.there)) (by infer_instance) | apply Split.cons (by repeat (first | with_reducible exact Sel.here | with_reducible apply Sel.there))))) (hs := areas_c n (by omega)) (h := ?_)
  rintro v Bs ⟨rfl, rfl⟩
  refine go_ ?_
  refine s_drawN 0 [.q 0, .q 2, .q 4, .q 5, .alt 1 3, .q 6, .s 7, .q 8, .q 9] ?_
  refine do_ ?_
  refine d_alt ?_ ?_
  all_goals
    refine d_step rfl (st_mk (len := n) (o1 := ⟨by rfl⟩)) ?_
    rintro v Bs ⟨a1, rfl, rfl⟩
    refine d_open (SA.cg (intR fun _ => 0) fun _ _ => rfl) ?_
    refine d_step rfl (st_mk (len := n) (o1 := ⟨by rfl⟩)) ?_
    rintro v Bs ⟨a2, rfl, rfl⟩
    refine d_open (SA.cg (intR fun _ => 0) fun _ _ => rfl) ?_
    refine do_ ?_
    refine d_step rfl st_box ?_
    rintro v Bs ⟨b, rfl, rfl⟩
    refine do_ ?_
    refine go_ ?_
    refine s_cls (φ := CtOk (Ct.new n)) (X := Ct.parts b (Ct.new n)) ⟨_, n, _, n⟩ ⟨h1, h2, fun _ => Nat.zero_le _, fun _ => Nat.zero_le _⟩ (by repeat (first | exact Split.nil | apply Split.perx (by repeat (first | with_reducible exact Sel.here | with_reducible apply Sel.there)) (by infer_instance) | apply Split.cons (by repeat (first | with_reducible exact Sel.here | with_reducible apply Sel.there)))) ?_
    exact s_rett (rs := [.tmp 2, .tmp 3]) (vs := [_, _]) Try.func58 rfl (by intro j; refine RVS.tmp _ rfl ?_; refine RVS.tmp _ rfl ?_; exact RVS.nil) rfl (⟨b, rfl, rfl⟩) (by repeat (first | exact Ent.nil | refine Ent.per (by repeat (first | with_reducible exact Sel.here | with_reducible apply Sel.there)) ?_ | refine Ent.cons (by repeat (first | with_reducible exact Sel.here | with_reducible apply Sel.there)) ?_))
theorem cget_c (b : Nat) (σ : Ct) (k : Int) : Ctr Try.prog 83 [.pointer (some ⟨b, 0, none⟩), .int .i64 k] [CtA b σ] (fun v Bs => v = .int .i64 (if 0 ≤ k ∧ k < σ.n then σ.now k.toNat else 0 : Nat) ∧ Bs = [CtA b σ]) := by
  refine s_enter 23 [(0, _), (1, _)] (fun F => [_, F]) Try.func83 fun F => ?_
  refine s_opn (by repeat (first | with_reducible exact Sel.here | with_reducible apply Sel.there)) fun x hx => ?_
  unfold Ct.parts
  refine go_ ?_
  cases h : decide (k < 0) with
  | true =>
    have := of_decide_eq_true h
    refine go_ ?_
    refine s_cls (φ := CtOk σ) (X := Ct.parts b σ) x hx (by repeat (first | exact Split.nil | apply Split.perx (by repeat (first | with_reducible exact Sel.here | with_reducible apply Sel.there)) (by infer_instance) | apply Split.cons (by repeat (first | with_reducible exact Sel.here | with_reducible apply Sel.there)))) ?_
    exact s_ret1 (rs := [.tmp 4]) Try.func83 rfl (by intro j; refine RVS.tmp _ rfl ?_; exact RVS.nil) (⟨by rw [if_neg (by omega)]; rfl, rfl⟩) (by repeat (first | exact Ent.nil | refine Ent.per (by repeat (first | with_reducible exact Sel.here | with_reducible apply Sel.there)) ?_ | refine Ent.cons (by repeat (first | with_reducible exact Sel.here | with_reducible apply Sel.there)) ?_))
  | false =>
    have := of_decide_eq_false h
    refine go_ ?_
    refine s_if (fun h2 => ?_) (fun h2 => ?_)
    · refine go_ ?_
      refine s_cls (φ := CtOk σ) (X := Ct.parts b σ) x hx (by repeat (first | exact Split.nil | apply Split.perx (by repeat (first | with_reducible exact Sel.here | with_reducible apply Sel.there)) (by infer_instance) | apply Split.cons (by repeat (first | with_reducible exact Sel.here | with_reducible apply Sel.there)))) ?_
      exact s_ret1 (rs := [.tmp 4]) Try.func83 rfl (by intro j; refine RVS.tmp _ rfl ?_; exact RVS.nil) (⟨by rw [if_neg (by omega)]; rfl, rfl⟩) (by repeat (first | exact Ent.nil | refine Ent.per (by repeat (first | with_reducible exact Sel.here | with_reducible apply Sel.there)) ?_ | refine Ent.cons (by repeat (first | with_reducible exact Sel.here | with_reducible apply Sel.there)) ?_))
    · refine go_ ?_
      refine s_look (lk_ixz k.toNat (m := σ.n) (v := .slice x.a σ.n x.c) (by repeat (first | with_reducible exact SelR.here | with_reducible apply SelR.there))) ?_
      refine go_ ?_
      refine s_cls (φ := CtOk σ) (X := Ct.parts b σ) x hx (by repeat (first | exact Split.nil | apply Split.perx (by repeat (first | with_reducible exact Sel.here | with_reducible apply Sel.there)) (by infer_instance) | apply Split.cons (by repeat (first | with_reducible exact Sel.here | with_reducible apply Sel.there)))) ?_
      exact s_ret1 (rs := [.tmp 4]) Try.func83 rfl (by intro j; refine RVS.tmp _ rfl ?_; exact RVS.nil) (⟨by rw [if_pos (by omega)], rfl⟩) (by repeat (first | exact Ent.nil | refine Ent.per (by repeat (first | with_reducible exact Sel.here | with_reducible apply Sel.there)) ?_ | refine Ent.cons (by repeat (first | with_reducible exact Sel.here | with_reducible apply Sel.there)) ?_))
theorem cfree_c (b : Nat) (σ : Ct) (i : Nat) (hi : i < σ.n) : Ctr Try.prog 97 [.pointer (some ⟨b, 0, none⟩), .int .i64 (i : Int)] [CtA b σ] (fun v Bs => v = .bool (decide (σ.now i = 0 ∧ σ.done i = 0)) ∧ Bs = [CtA b σ]) := by
  refine s_enter 23 [(0, _), (1, _)] (fun F => [_, F]) Try.func97 fun F => ?_
  refine s_opn (by repeat (first | with_reducible exact Sel.here | with_reducible apply Sel.there)) fun x hx => ?_
  unfold Ct.parts
  refine go_ ?_
  cases h : ((σ.now i : Nat) : Int) == 0 with
  | false =>
    have : σ.now i ≠ 0 := by simpa using h
    refine go_ ?_
    refine s_cls (φ := CtOk σ) (X := Ct.parts b σ) x hx (by repeat (first | exact Split.nil | apply Split.perx (by repeat (first | with_reducible exact Sel.here | with_reducible apply Sel.there)) (by infer_instance) | apply Split.cons (by repeat (first | with_reducible exact Sel.here | with_reducible apply Sel.there)))) ?_
    exact s_ret1 (rs := [.tmp 4]) Try.func97 rfl (by intro j; refine RVS.tmp _ rfl ?_; exact RVS.nil) (⟨by rw [decide_eq_false]; omega, rfl⟩) (by repeat (first | exact Ent.nil | refine Ent.per (by repeat (first | with_reducible exact Sel.here | with_reducible apply Sel.there)) ?_ | refine Ent.cons (by repeat (first | with_reducible exact Sel.here | with_reducible apply Sel.there)) ?_))
  | true =>
    have : σ.now i = 0 := by simpa using h
    refine go_ ?_
    refine s_cls (φ := CtOk σ) (X := Ct.parts b σ) x hx (by repeat (first | exact Split.nil | apply Split.perx (by repeat (first | with_reducible exact Sel.here | with_reducible apply Sel.there)) (by infer_instance) | apply Split.cons (by repeat (first | with_reducible exact Sel.here | with_reducible apply Sel.there)))) ?_
    exact s_ret1 (rs := [.tmp 4]) Try.func97 rfl (by intro j; refine RVS.tmp _ rfl ?_; exact RVS.nil) (⟨by congr 1; rw [Bool.eq_iff_iff]; simp [this], rfl⟩) (by repeat (first | exact Ent.nil | refine Ent.per (by repeat (first | with_reducible exact Sel.here | with_reducible apply Sel.there)) ?_ | refine Ent.cons (by repeat (first | with_reducible exact Sel.here | with_reducible apply Sel.there)) ?_))
def nset (f : Nat → Nat) (i v : Nat) : Nat → Nat := fun q => if q = i then v else f q
/-- the first sector that is free -/
def Ct.firstFree (σ : Ct) : Nat → Nat → Option Nat
  | 0, _ => none
  | m + 1, i => if σ.now i = 0 ∧ σ.done i = 0 then some i else σ.firstFree m (i + 1)
def Ct.free? (σ : Ct) : Option Nat := σ.firstFree (σ.n - firstN σ.n) (firstN σ.n)
theorem firstN_lt {n : Nat} (h : 32 ≤ n) (h2 : n ≤ 2048) : firstN n < n := by unfold firstN areaN; omega
theorem intR_put (f : Nat → Nat) (i v q : Nat) : rput (intR f) i 0 [.int .i64 (v : Int)] q = intR (nset f i v) q := by
  unfold rput intR nset
  by_cases h : q = i
  · simp [h]
  · simp [h]
theorem calloc_c (b : Nat) (σ : Ct) : Ctr Try.prog 98 [.pointer (some ⟨b, 0, none⟩)] [CtA b σ]
    (fun v Bs => (∃ i, σ.free? = some i ∧ v = .tuple #[.int .i64 (i : Nat), .int .i64 0] ∧ Bs = [CtA b { σ with now := nset σ.now i 1 }]) ∨ (σ.free? = none ∧ v = .tuple #[.int .i64 0, .int .i64 6] ∧ Bs = [CtA b σ])) := by
  refine s_enter 28 [(0, _)] (fun F => [_, F]) Try.func98 fun F => ?_
  refine s_opn (by repeat (first | with_reducible exact Sel.here | with_reducible apply Sel.there)) fun x hx => ?_
  unfold Ct.parts
  have hn := firstN_lt hx.n1 hx.n2
  have h2 := hx.n2
  refine go_ ?_
  refine s_cls (φ := CtOk σ) (X := Ct.parts b σ) x hx (by repeat (first | exact Split.nil | apply Split.perx (by repeat (first | with_reducible exact Sel.here | with_reducible apply Sel.there)) (by infer_instance) | apply Split.cons (by repeat (first | with_reducible exact Sel.here | with_reducible apply Sel.there)))) ?_
  refine s_loop (fun i : Nat => [(0, .pointer (some ⟨b, 0, none⟩)), (2, .int .i64 0), (3, .int .i64 0), (4, .int .i64 i)]) (fun _ => [CtA b σ, F]) (fun i => i ≤ σ.n ∧ σ.firstFree (σ.n - i) i = σ.free?) (fun i => σ.n - i) (firstN σ.n) ⟨by omega, rfl⟩ (by repeat (first | exact Ent.nil | refine Ent.per (by repeat (first | with_reducible exact Sel.here | with_reducible apply Sel.there)) ?_ | refine Ent.cons (by repeat (first | with_reducible exact Sel.here | with_reducible apply Sel.there)) ?_)) ?_
  rintro i ⟨hi, he⟩ next
  clear hx x
  refine s_opn (by repeat (first | with_reducible exact Sel.here | with_reducible apply Sel.there)) fun x hx => ?_
  unfold Ct.parts
  refine go_ ?_
  refine s_if (fun h3 => ?_) (fun h3 => ?_)
  · obtain ⟨m, hm⟩ : ∃ m, σ.n - i = m + 1 := ⟨σ.n - i - 1, by omega⟩
    rw [hm, Ct.firstFree] at he
    refine go_ ?_
    refine s_cls (φ := CtOk σ) (X := Ct.parts b σ) x hx (by repeat (first | exact Split.nil | apply Split.perx (by repeat (first | with_reducible exact Sel.here | with_reducible apply Sel.there)) (by infer_instance) | apply Split.cons (by repeat (first | with_reducible exact Sel.here | with_reducible apply Sel.there)))) ?_
    refine s_call (sp := (by repeat (first | exact Split.nil | apply Split.perx (by repeat (first | with_reducible exact Sel.here | with_reducible apply Sel.there)) (by infer_instance) | apply Split.cons (by repeat (first | with_reducible exact Sel.here | with_reducible apply Sel.there))))) (hs := cfree_c b σ i (by omega)) (h := ?_)
    rintro v Bs ⟨rfl, rfl⟩
    refine go_ ?_
    refine s_if (fun h4 => ?_) (fun h4 => ?_)
    · rw [if_pos h4] at he
      refine s_opn (by repeat (first | with_reducible exact Sel.here | with_reducible apply Sel.there)) fun y hy => ?_
      unfold Ct.parts
      refine go_ ?_
      refine s_stepU (st_ste (i := i) (fo := 0) (m' := 1) (vs := [.int .i64 1]) (v := .slice y.a σ.n y.c) (by repeat (first | with_reducible exact Sel.here | with_reducible apply Sel.there))) ?_
      rintro _ _ rfl
      refine s_open (SA.cg (intR (nset σ.now i 1)) fun q _ => intR_put σ.now i 1 q) ?_
      refine go_ ?_
      refine s_cls (φ := CtOk { σ with now := nset σ.now i 1 }) (X := Ct.parts b { σ with now := nset σ.now i 1 }) y ⟨hy.n1, hy.n2, fun q => by show nset _ _ _ _ ≤ _; unfold nset; split; omega; exact hy.w q, hy.d⟩ (by repeat (first | exact Split.nil | apply Split.perx (by repeat (first | with_reducible exact Sel.here | with_reducible apply Sel.there)) (by infer_instance) | apply Split.cons (by repeat (first | with_reducible exact Sel.here | with_reducible apply Sel.there)))) ?_
      exact s_rett (rs := [.tmp 2, .tmp 3]) (vs := [_, _]) Try.func98 rfl (by intro j; refine RVS.tmp _ rfl ?_; refine RVS.tmp _ rfl ?_; exact RVS.nil) rfl (.inl ⟨i, he.symm, rfl, rfl⟩) (by repeat (first | exact Ent.nil | refine Ent.per (by repeat (first | with_reducible exact Sel.here | with_reducible apply Sel.there)) ?_ | refine Ent.cons (by repeat (first | with_reducible exact Sel.here | with_reducible apply Sel.there)) ?_))
    · rw [if_neg h4] at he
      refine go_ ?_
      exact s_entF (by repeat (first | exact Ent.nil | refine Ent.per (by repeat (first | with_reducible exact Sel.here | with_reducible apply Sel.there)) ?_ | refine Ent.cons (by repeat (first | with_reducible exact Sel.here | with_reducible apply Sel.there)) ?_)) (s_keep _ (next (i + 1) ⟨by omega, by rw [show σ.n - (i + 1) = m by omega]; exact he⟩ (by omega)))
  · have : σ.n - i = 0 := by omega
    rw [this, Ct.firstFree] at he
    refine go_ ?_
    refine s_cls (φ := CtOk σ) (X := Ct.parts b σ) x hx (by repeat (first | exact Split.nil | apply Split.perx (by repeat (first | with_reducible exact Sel.here | with_reducible apply Sel.there)) (by infer_instance) | apply Split.cons (by repeat (first | with_reducible exact Sel.here | with_reducible apply Sel.there)))) ?_
    exact s_rett (rs := [.tmp 2, .tmp 3]) (vs := [_, _]) Try.func98 rfl (by intro j; refine RVS.tmp _ rfl ?_; refine RVS.tmp _ rfl ?_; exact RVS.nil) rfl (.inr ⟨he.symm, rfl, rfl⟩) (by repeat (first | exact Ent.nil | refine Ent.per (by repeat (first | with_reducible exact Sel.here | with_reducible apply Sel.there)) ?_ | refine Ent.cons (by repeat (first | with_reducible exact Sel.here | with_reducible apply Sel.there)) ?_))
end Go.Proofs.Ytgbbcpfnmkeijaa
