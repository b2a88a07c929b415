/- What may be seen otherwise between two steps: frozen slices. -/
import Derived.Test.YtgbbcpfnmkeijaaGreatCamAH
namespace Go.Cam
theorem sat1 {F : HP} {H M : Heap} (h : F.p H M) : (Sat [F]).p H M := ⟨M, fun _ => none, Le.refl _, (fun _ _ h => nomatch h), fun _ => .inr rfl, h, trivial⟩
/-- what holds may be seen otherwise, whatever stands beside it -/
def View (Bs Cs : List HP) : Prop := ∀ (F : HP) w0 w H M, Has w0 w H M → ((Sat Bs).star F).p H M → ∃ H' M', Has w0 w H' M' ∧ ((Sat Cs).star F).p H' M'
theorem View.refl (Bs : List HP) : View Bs Bs := fun _ _ _ H M hh q => ⟨H, M, hh, q⟩
theorem View.trans {A B C : List HP} (h : View A B) (g : View B C) : View A C := fun F w0 w H M hh q => by
  obtain ⟨H1, M1, h1, q1⟩ := h F w0 w H M hh q
  exact g F w0 w H1 M1 h1 q1
theorem View.imp {A B : List HP} (h : ∀ H M, (Sat A).p H M → (Sat B).p H M) : View A B := fun F w0 w H M hh q => ⟨H, M, hh, star_monoL h q⟩
theorem star_assoc {A B C : HP} {H M : Heap} (h : ((A.star B).star C).p H M) : (A.star (B.star C)).p H M := by
  have h1 := star_comm h
  have h2 := star_swap h1
  exact star_mono (fun _ _ q => star_comm q) h2
theorem star_assoc' {A B C : HP} {H M : Heap} (h : (A.star (B.star C)).p H M) : ((A.star B).star C).p H M := by
  have h1 : (A.star (C.star B)).p H M := star_mono (fun _ _ q => star_comm q) h
  exact star_comm (star_swap h1)
theorem View.cons {a : HP} {A B : List HP} (h : View A B) : View (a :: A) (a :: B) := fun F w0 w H M hh q => by
  obtain ⟨H1, M1, h1, q1⟩ := h (a.star F) w0 w H M hh (star_swap (star_assoc q))
  exact ⟨H1, M1, h1, star_assoc' (star_swap q1)⟩
theorem View.head {a b : HP} {A : List HP} (h : View [a] [b]) : View (a :: A) (b :: A) := fun F w0 w H M hh q => by
  have q1 : ((Sat [a]).star ((Sat A).star F)).p H M := star_monoL (fun H M h => sat1 h) (star_assoc q)
  obtain ⟨H1, M1, h1, q2⟩ := h _ w0 w H M hh q1
  exact ⟨H1, M1, h1, star_assoc' (star_monoL (fun H M h => star_fst h) q2)⟩
theorem View.fz {e sz : Nat} {v : Value} {len : Nat} {row : Nat → List Value} : View [SA (some e) sz v len row] [SA none sz v len row] := fun F w0 w H M hh q => by
  obtain ⟨M1, M2, a1, a2, dj, hA0, hB⟩ := q
  obtain ⟨hr1, hr2, hown, base, cap, hv⟩ := star_fst hA0
  subst hv
  rcases hown with ⟨h1, h2⟩ | ⟨b, ln, cp, cs, h1, h2, h3, h4, h5, h6⟩
  · cases h1
    exact ⟨H, M, hh, star_monoL (fun _ _ h => sat1 h) (per_add (A := SA none sz (.slice none 0 0) 0 row) (M0 := M) ⟨none, 0, rfl, Nat.le_refl _, hr1, fun h => by omega⟩ (F.mono (Le.refl _) a2 hB))⟩
  · cases h1
    obtain ⟨g1, g2⟩ := own_freeze (b := b) (o := .cells cs e (0, 0)) (X := F) hh.d ⟨M1, M2, a1, a2, dj, h5, hB⟩
    refine ⟨_, _, g1 _ _ hh, star_monoL (fun _ _ h => sat1 h) (per_add (A := SA none sz (.slice (some ⟨b, 0, none⟩) len cap) len row) (M0 := M) ⟨_, _, rfl, h4, hr1, fun h0 => ⟨b, 0, cs, e, (0, 0), rfl, upd_same _ _ _, ?_, ?_⟩⟩ g2)⟩
    · rw [h3]; have := Nat.mul_le_mul_right sz h4; omega
    · apply Array.ext'
      rw [Array.toList_extract, List.extract_eq_take_drop]
      rw [flat_len hr1] at h6
      simpa using h6
theorem View.fzO {e sz : Nat} {v : Value} {len : Nat} {row : Nat → List Value} : View [SO e sz v len row] [SA none sz v len row] := fun F w0 w H M hh q => by
  obtain ⟨M1, M2, a1, a2, dj, hA0, hB⟩ := q
  rcases star_fst hA0 with hA | ⟨rfl, a, rfl⟩
  · exact View.fz (e := e) F w0 w H M hh ⟨M1, M2, a1, a2, dj, sat1 hA, hB⟩
  · exact ⟨H, M, hh, star_monoL (fun _ _ h => sat1 h) (per_add (A := SA none sz (.slice a 0 0) 0 row) (M0 := M) ⟨a, 0, rfl, Nat.le_refl _, fun i hi => by omega, fun h => by omega⟩ (F.mono (Le.refl _) a2 hB))⟩
theorem Ctr.view {P : Program} {f : FuncId} {args : List Value} {As : List HP} {Q Q' : Value → List HP → Prop} (h : Ctr P f args As Q) (hv : ∀ v Bs, Q v Bs → ∃ Cs, Q' v Cs ∧ View Bs Cs) : Ctr P f args As Q' := fun F H M s w0 w hh => by
  refine (h F H M s w0 w hh).mono fun e w2 ⟨r, H', M', he, h2, Bs, hq, hb⟩ => ?_
  obtain ⟨Cs, hq', hw⟩ := hv r Bs hq
  obtain ⟨H3, M3, h3, h4⟩ := hw F w0 w2 H' M' h2 (star_mono (fun _ _ => sat_one) (Sat.part hb))
  exact ⟨r, H3, M3, he, h3, Cs, hq', Sat.join h4⟩
theorem Ctr.pre {P : Program} {f : FuncId} {args : List Value} {As Bs : List HP} {Q : Value → List HP → Prop} (h : Ctr P f args As Q) (he : ∀ H M, (Sat Bs).p H M → (Sat As).p H M) : Ctr P f args Bs Q := fun F H M s =>
  h F H M (Sat.join (star_monoL he (star_mono (fun _ _ => sat_one) (Sat.part s))))
/-- what the contract does not ask for stays beside it -/
theorem Ctr.frame {P : Program} {f : FuncId} {args : List Value} {As : List HP} {Q : Value → List HP → Prop} (h : Ctr P f args As Q) (X : List HP) : Ctr P f args (As ++ X) (fun v Bs => ∃ Cs, Q v Cs ∧ Bs = Cs ++ X) := fun F H M s => by
  have s1 : (Sat (As ++ [Sat (X ++ [F])])).p H M := by
    rw [List.append_assoc] at s
    exact Sat.join (Sat.part s)
  refine fun w0 w hh => (h (Sat (X ++ [F])) H M s1 w0 w hh).mono fun e w2 ⟨r, H', M', he, h2, Bs, hq, hb⟩ => ⟨r, H', M', he, h2, Bs ++ X, ⟨Bs, hq, rfl⟩, ?_⟩
  rw [List.append_assoc]; exact Sat.app hb
theorem s_view {P : Program} {f : FuncId} {n : Nat} {R : Value → HP} {k : List It} {l : List (Nat × Value)} {As Bs : List HP} (hv : View As Bs) (h : RunS P f n R k l Bs) : RunS P f n R k l As := .mk fun H M s => by
  intro j w0 w a bb cs' k' hk hh ha hf hn
  obtain ⟨H1, M1, h1, h2⟩ := hv .emp w0 w H M hh ⟨M, fun _ => none, Le.refl _, (fun _ _ h => nomatch h), fun _ => .inr rfl, s, trivial⟩
  exact h _ _ (star_fst h2) j w0 w a bb cs' k' hk h1 ha hf hn
/-- a block of bytes, read as a slice -/
theorem rd_BA {r ty : Nat} {x : List Nat} (p m c : Nat) (h : p + m ≤ x.length) (hc : m ≤ c) : Rd (BA r ty x) 1 (.slice (some ⟨r, p, none⟩) m c) m (byR ((x.drop p).take m)) := ⟨fun H M q => ⟨_, _, rfl, hc, fun _ _ => rfl, fun _ => ⟨r, p, _, ty, (0, 0), rfl, .inl q, by simp; omega, by
  have hl : ((x.drop p).take m).length = m := by simp; omega
  have := flat_byR' ((x.drop p).take m)
  rw [hl] at this
  rw [this, Nat.mul_one, extract_list]
  simp [bcl, List.map_drop, List.map_take]⟩⟩⟩
section
variable {P : Program} {l : List (Nat × Value)} {As : List HP} {d : Nat} {oty : TypeId} {pos : String} {af : Array Edge} {g : Option (Nat × Bool)}
/-- a closure is made -/
theorem lk_mkf {fn : Fn} {cs : List Operand} {vs : List Value} (h : ∀ j, cs.map (ev (mk l j)) = vs := by intro j; rfl) :
    LookS P ⟨some d, .makeFunc fn #[] cs.toArray, oty, pos, af, g⟩ l As (.func fn #[] vs.toArray) := .mk fun j H M _ => by
  refine qt_cst ?_
  show cst P (Instr.makeFunc fn (#[].map (ev (mk l j))) (cs.toArray.map (ev (mk l j))) >>= fun v => pure (Next.value v)) = _
  have e : cs.toArray.map (ev (mk l j)) = vs.toArray := by rw [List.map_toArray, h j]
  rw [e]; simp [Instr.makeFunc]; rfl
theorem lk_mkf1 {fn : Fn} {x0 : Operand} {v0 : Value} (h0 : ∀ j, ev (mk l j) x0 = v0 := by intro j; rfl) :
    LookS P ⟨some d, .makeFunc fn #[] #[x0], oty, pos, af, g⟩ l As (.func fn #[] #[v0]) := lk_mkf (cs := [x0]) (vs := [v0]) (by intro j; simp only [List.map_cons, List.map_nil, h0 j])
theorem lk_mkf2 {fn : Fn} {x0 x1 : Operand} {v0 v1 : Value} (h0 : ∀ j, ev (mk l j) x0 = v0 := by intro j; rfl) (h1 : ∀ j, ev (mk l j) x1 = v1 := by intro j; rfl) :
    LookS P ⟨some d, .makeFunc fn #[] #[x0, x1], oty, pos, af, g⟩ l As (.func fn #[] #[v0, v1]) := lk_mkf (cs := [x0, x1]) (vs := [v0, v1]) (by intro j; simp only [List.map_cons, List.map_nil, h0 j, h1 j])
theorem lk_mkf3 {fn : Fn} {x0 x1 x2 : Operand} {v0 v1 v2 : Value} (h0 : ∀ j, ev (mk l j) x0 = v0 := by intro j; rfl) (h1 : ∀ j, ev (mk l j) x1 = v1 := by intro j; rfl) (h2 : ∀ j, ev (mk l j) x2 = v2 := by intro j; rfl) :
    LookS P ⟨some d, .makeFunc fn #[] #[x0, x1, x2], oty, pos, af, g⟩ l As (.func fn #[] #[v0, v1, v2]) := lk_mkf (cs := [x0, x1, x2]) (vs := [v0, v1, v2]) (by intro j; simp only [List.map_cons, List.map_nil, h0 j, h1 j, h2 j])
theorem lk_mkf4 {fn : Fn} {x0 x1 x2 x3 : Operand} {v0 v1 v2 v3 : Value} (h0 : ∀ j, ev (mk l j) x0 = v0 := by intro j; rfl) (h1 : ∀ j, ev (mk l j) x1 = v1 := by intro j; rfl) (h2 : ∀ j, ev (mk l j) x2 = v2 := by intro j; rfl) (h3 : ∀ j, ev (mk l j) x3 = v3 := by intro j; rfl) :
    LookS P ⟨some d, .makeFunc fn #[] #[x0, x1, x2, x3], oty, pos, af, g⟩ l As (.func fn #[] #[v0, v1, v2, v3]) := lk_mkf (cs := [x0, x1, x2, x3]) (vs := [v0, v1, v2, v3]) (by intro j; simp only [List.map_cons, List.map_nil, h0 j, h1 j, h2 j, h3 j])
theorem lk_mkf5 {fn : Fn} {x0 x1 x2 x3 x4 : Operand} {v0 v1 v2 v3 v4 : Value} (h0 : ∀ j, ev (mk l j) x0 = v0 := by intro j; rfl) (h1 : ∀ j, ev (mk l j) x1 = v1 := by intro j; rfl) (h2 : ∀ j, ev (mk l j) x2 = v2 := by intro j; rfl) (h3 : ∀ j, ev (mk l j) x3 = v3 := by intro j; rfl) (h4 : ∀ j, ev (mk l j) x4 = v4 := by intro j; rfl) :
    LookS P ⟨some d, .makeFunc fn #[] #[x0, x1, x2, x3, x4], oty, pos, af, g⟩ l As (.func fn #[] #[v0, v1, v2, v3, v4]) := lk_mkf (cs := [x0, x1, x2, x3, x4]) (vs := [v0, v1, v2, v3, v4]) (by intro j; simp only [List.map_cons, List.map_nil, h0 j, h1 j, h2 j, h3 j, h4 j])
theorem lk_mkf6 {fn : Fn} {x0 x1 x2 x3 x4 x5 : Operand} {v0 v1 v2 v3 v4 v5 : Value} (h0 : ∀ j, ev (mk l j) x0 = v0 := by intro j; rfl) (h1 : ∀ j, ev (mk l j) x1 = v1 := by intro j; rfl) (h2 : ∀ j, ev (mk l j) x2 = v2 := by intro j; rfl) (h3 : ∀ j, ev (mk l j) x3 = v3 := by intro j; rfl) (h4 : ∀ j, ev (mk l j) x4 = v4 := by intro j; rfl) (h5 : ∀ j, ev (mk l j) x5 = v5 := by intro j; rfl) :
    LookS P ⟨some d, .makeFunc fn #[] #[x0, x1, x2, x3, x4, x5], oty, pos, af, g⟩ l As (.func fn #[] #[v0, v1, v2, v3, v4, v5]) := lk_mkf (cs := [x0, x1, x2, x3, x4, x5]) (vs := [v0, v1, v2, v3, v4, v5]) (by intro j; simp only [List.map_cons, List.map_nil, h0 j, h1 j, h2 j, h3 j, h4 j, h5 j])
/-- a part of a slice, told as one likes -/
theorem lk_slv (p q : Nat) {t : TypeId} {x : Operand} {lo hi : Option Operand} {a : Option Addr} {len cap el sz : Nat} (v : Value) [SC P t el] [SZ P el sz]
    (hx : ∀ j, ev (mk l j) x = .slice a len cap := by intro j; rfl) (hl : p ≤ q := by omega) (hh : q ≤ cap := by omega) (hlo : ∀ j, loB (mk l j) lo p := by intro j; first | rfl | exact ⟨_, rfl⟩) (hhi : ∀ j, hiB (mk l j) hi len q := by intro j; first | rfl | exact ⟨_, rfl⟩) (he : Value.slice (sladdr a sz p cap) (q - p) (cap - p) = v := by rfl) :
    LookS P ⟨some d, .slice t x lo hi none, oty, pos, af, g⟩ l As v := by
  rw [← he]; exact lk_slc p q hl hh hx hlo hhi
end
end Go.Cam
/- Assertions that hide what they are made of. -/
namespace Go.Cam
def EX {α : Type} (φ : α → Prop) (X : α → List HP) : HP := ⟨fun H M => ∃ x, φ x ∧ (Sat (X x)).p H M, fun h1 h2 ⟨x, h, q⟩ => ⟨x, h, (Sat (X x)).mono h1 h2 q⟩⟩
theorem EX.mk {α : Type} {φ : α → Prop} {X : α → List HP} (x : α) (h : φ x) (H M : Heap) (q : (Sat (X x)).p H M) : (EX φ X).p H M := ⟨x, h, q⟩
theorem Sat.pushL {As Bs : List HP} {H M : Heap} (q : ((Sat As).star (Sat Bs)).p H M) : (Sat (As ++ Bs)).p H M := Sat.app (Sat.join q)
section
variable {P : Program} {f : FuncId} {n : Nat} {R : Value → HP} {k : List It} {l : List (Nat × Value)} {As Bs Rs Zs : List HP} {all : Array Oper} {rest os : List Oper} {d : Nat} {dd : Option Nat} {oty : TypeId} {pos : String} {af : Array Edge} {g : Option (Nat × Bool)}
theorem s_opn {α : Type} {φ : α → Prop} {X : α → List HP} (u : Sel (EX φ X) As Bs) (h : ∀ x, φ x → RunS P f n R k l (X x ++ Bs)) : RunS P f n R k l As := .mk fun H M s => by
  obtain ⟨M1, M2, a1, a2, d, ⟨x, hφ, hA⟩, hB⟩ := u.sat s
  exact h x hφ H M (Sat.pushL ⟨M1, M2, a1, a2, d, hA, hB⟩)
theorem s_cls {α : Type} {φ : α → Prop} {X : α → List HP} (x : α) (hφ : φ x) (sp : Split As (X x) Rs) (h : RunS P f n R k l (EX φ X :: Rs)) : RunS P f n R k l As := .mk fun H M s => by
  have h1 := sp.sat s
  have h2 : ((Sat (X x)).star (Sat Rs)).p H M := star_mono (fun _ _ => sat_one) (Sat.part h1)
  exact h H M (star_monoL (C := EX φ X) (fun H M q => ⟨x, hφ, q⟩) h2)
/-- many at once: one of them -/
theorem s_take {ks : List Int} {F : Int → HP} {kk : Int} (u : Sel (All ks F) As Bs) (hk : kk ∈ ks) (h : RunS P f n R k l (F kk :: All (ks.erase kk) F :: Bs)) : RunS P f n R k l As := .mk fun H M s =>
  h H M (star_assoc (star_monoL (fun H M q => All.take hk H M q) (u.sat s)))
theorem s_put {ks : List Int} {F : Int → HP} {kk : Int} (u : Sel (All ks F) As Bs) (u2 : Sel (F kk) Bs Rs) (h : RunS P f n R k l (All (kk :: ks) F :: Rs)) : RunS P f n R k l As := .mk fun H M s => by
  have h1 := star_mono (fun _ _ q => u2.sat q) (u.sat s)
  exact h H M (star_assoc' (star_swap h1))
theorem s_allp {ks ks' : List Int} {F : Int → HP} (u : Sel (All ks F) As Bs) (hp : ks.Perm ks') (h : RunS P f n R k l (All ks' F :: Bs)) : RunS P f n R k l As := .mk fun H M s => h H M (star_monoL (All.perm hp) (u.sat s))
theorem s_allc {ks : List Int} {F : Int → HP} (G : Int → HP) (u : Sel (All ks F) As Bs) (hc : ∀ k ∈ ks, ∀ H M, (F k).p H M → (G k).p H M) (h : RunS P f n R k l (All ks G :: Bs)) : RunS P f n R k l As := .mk fun H M s => h H M (star_monoL (All.cg hc) (u.sat s))
theorem s_all0 {F : Int → HP} (h : RunS P f n R k l (All [] F :: As)) : RunS P f n R k l As := .mk fun H M s => h H M (per_add (A := .emp) (M0 := M) trivial s)
/-- nothing, as a slice of one's own -/
theorem s_newO {e : Nat} {sz : Nat} {row : Nat → List Value} (h : RunS P f n R k l (SO e sz (.slice none 0 0) 0 row :: As)) : RunS P f n R k l As := s_new0 (e := e) (sz := sz) (row := row) (s_open SO.of h)
/-- a slice of one element is written out -/
theorem st_bs1 {t e sz bytes : Nat} {x : Operand} {v z : Value} {cells : List Value} [sl : SL P t e sz bytes] [zv : ZV P e z] (hn : cells.length = sz) (hx : ∀ j, ev (mk l j) x = v := by intro j; rfl) (hc : Cel v cells := by infer_instance) (hm : sz ≤ 16777216 := by decide) :
    StepL P ⟨dd, .buildSlice t 1 #[(0, x)], oty, pos, af, g⟩ l As (fun v Bs => ∃ a, v = .slice a 1 1 ∧ Bs = SA (some e) sz (.slice a 1 1) 1 (fun _ => cells) :: As) := .mk fun j Fs H M s => by
  have hsz : 0 < sz := by obtain ⟨_, _, _, _, _, _, _, _, _, h⟩ := sl.h; exact h
  haveI : OneL cells := ⟨hc.o⟩
  have e0 : v.cells.size = sz := by have := hc.h; rw [← hn, ← this]; simp
  have hf : ∀ j, fillG (fun i => some (i * sz, sz)) (tab (1 * sz) fun i => z.cells[i % z.cells.size]!) ([(0, x)].map fun x => (x.1, ev (mk l j) x.2)) = some cells.toArray := fun j => by
    simp only [List.map_cons, List.map_nil, hx j]
    simp only [fillG, Nat.zero_mul, Nat.one_mul]
    rw [if_neg (by simp [e0, tab_size]), hc.h, setL_whole (by rw [tab_size, hn])]
  have h1 := st_bs (P := P) (l := l) (As := As) (dd := dd) (oty := oty) (pos := pos) (af := af) (g := g) (t := t) (len := 1) (ps := [(0, x)]) (cells := cells) hf (by omega) (by omega) (by rw [Nat.one_mul, hn]; simp)
  refine hmc_mono (h1.h j Fs H M s) fun v H' M' ⟨Bs, ⟨a, hv, hb⟩, hq⟩ => ⟨_, ⟨a, hv, rfl⟩, ?_⟩
  subst hb
  refine star_monoL (fun H M q => ?_) hq
  exact SA_cg1 (fun i hi => by
    have : i = 0 := by omega
    subst this; rw [← hn]; exact rowsOf_one cells) q
/-- an element of a slice, its number told otherwise -/
theorem lk_ixz (i : Nat) {t : TypeId} {x y : Operand} {elem sz m : Nat} {z : Int} {kd : IntKind} {v : Value} {row : Nat → List Value} [hu : SC P t elem] [hs : SZ P elem sz] (s : SelR As sz v m row) (hx : ∀ j, ev (mk l j) x = v := by intro j; rfl)
    (hy : ∀ j, ev (mk l j) y = .int kd z := by intro j; rfl) (hz : z = (i : Int) := by omega) (hi : i < m := by omega) :
    LookS P ⟨some d, .indexAddr t x y, oty, pos, af, g⟩ l As (eptr v sz i 0) := lk_ixs hx (by intro j; rw [hy j, hz]) s hi
/-- a whole element is loaded -/
theorem lk_lde1 {t : TypeId} {x : Operand} {sz m i : Nat} {v : Value} {row : Nat → List Value} [hag : AG P t true] [hs : SZ P t sz] (s : SelR As sz v m row) (hx : ∀ j, ev (mk l j) x = eptr v sz i 0 := by intro j; rfl) (hi : i < m := by omega) :
    LookS P ⟨some d, .load t x, oty, pos, af, g⟩ l As (.agg (row i).toArray) := .mk fun j H M q => by
  have hl : (row i).length = sz := by obtain ⟨_, _, _, _, h, _⟩ := s.rd q; exact h i hi
  haveI : PartL (row i) 0 sz (row i) := ⟨by rw [List.drop_zero, ← hl, List.take_length]⟩
  exact (lk_ldeN (fo := 0) hx s this (by omega) hi).h j H M q
theorem s_steps {K : Value → List HP → Prop} {op : Op} (hs : StepL P ⟨some d, op, oty, pos, af, g⟩ l As K) (h : ∀ v Bs, K v Bs → RunS P f n R (.ops all rest :: k) ((d, v) :: l) Bs) (hd : Nat.blt d n = true := by rfl)
    (hw : ∀ j, wantE ⟨some d, op, oty, pos, af, g⟩ all (mk l j) = true := by intro j; rfl) : RunS P f n R (.ops all (⟨some d, op, oty, pos, af, g⟩ :: rest) :: k) l As := s_step hs h hd hw
end
/-- a stronger end of a contract -/
theorem Ctr.post {P : Program} {f : FuncId} {args : List Value} {As : List HP} {Q Q' : Value → List HP → Prop} (h : Ctr P f args As Q) (hq : ∀ v Bs, Q v Bs → ∃ Cs, Q' v Cs ∧ ∀ H M, (Sat Bs).p H M → (Sat Cs).p H M) : Ctr P f args As Q' :=
  h.view fun v Bs q => by obtain ⟨Cs, h1, h2⟩ := hq v Bs q; exact ⟨Cs, h1, View.imp h2⟩
end Go.Cam
/- Families of assertions that are only read; slices of slices of bytes. -/
namespace Go.Cam
def Fam (n : Nat) (F : Nat → HP) : HP := ⟨fun H M => ∀ i, i < n → (F i).p H M, fun h1 h2 h i hi => (F i).mono h1 h2 (h i hi)⟩
instance {n : Nat} {F : Nat → HP} [hp : ∀ i, Per (F i)] : Per (Fam n F) := ⟨fun h i hi => (hp i).h (h i hi)⟩
theorem Fam.get {n : Nat} {F : Nat → HP} {i : Nat} (hi : i < n) (H M : Heap) (h : (Fam n F).p H M) : (F i).p H M := h i hi
section
variable {P : Program} {f : FuncId} {n : Nat} {R : Value → HP} {k : List It} {l : List (Nat × Value)} {As Bs Rs Zs : List HP}
theorem s_get {m : Nat} {F : Nat → HP} [hp : ∀ i, Per (F i)] (i : Nat) (u : Sel (Fam m F) As Bs) (hi : i < m) (h : RunS P f n R k l (F i :: As)) : RunS P f n R k l As := s_dup u (s_open (Fam.get hi) h)
theorem s_fam0 {F : Nat → HP} (h : RunS P f n R k l (Fam 0 F :: As)) : RunS P f n R k l As := .mk fun H M s => h H M ⟨fun _ => none, M, (fun _ _ h => nomatch h), Le.refl _, fun _ => .inl rfl, fun i hi => by omega, s⟩
theorem s_famS {m : Nat} {F : Nat → HP} [hp : ∀ i, Per (F i)] (u : Sel (Fam m F) As Bs) (u2 : Sel (F m) Bs Rs) (h : RunS P f n R k l (Fam (m + 1) F :: Rs)) : RunS P f n R k l As := .mk fun H M s => by
  have h1 := u.hold s
  have h2 := star_snd (u.sat s)
  have h3 := u2.hold h2
  refine h H M (per_add (M0 := M) (fun i hi => ?_) (star_snd (u2.sat h2)))
  by_cases e : i = m
  · subst e; exact h3
  · exact h1 i (by omega)
theorem Fam.cg {m : Nat} {F : Nat → HP} (G : Nat → HP) (hc : ∀ i, i < m → ∀ H M, (F i).p H M → (G i).p H M) (H M : Heap) (h : (Fam m F).p H M) : (Fam m G).p H M := fun i hi => hc i hi H M (h i hi)
/-- something that holds is forgotten -/
theorem s_drop {a : HP} (u : Sel a As Bs) (h : RunS P f n R k l Bs) : RunS P f n R k l As := .mk fun H M s => h H M (star_snd (u.sat s))
theorem s_fact {φ : Prop} (hφ : φ) (h : φ → RunS P f n R k l As) : RunS P f n R k l As := h hφ
/-- copy of as many elements as there are -/
theorem st_cpA {dd : Option Nat} {oty : TypeId} {pos : String} {af : Array Edge} {g : Option (Nat × Bool)} {t t2 el e sz m c c' : Nat} {x y : Operand} {a u : Option Addr} {r1 r2 : Nat → List Value} [sc : SC P t el] [hs : SZ P el sz] (h0 : 0 < m) (hsz : 0 < sz)
    (up : Sel (SA (some e) sz (.slice a m c) m r1) As Bs) (hr : SelR As sz (.slice u m c') m r2) (h1 : (flat m r2).all one = true)
    (hx : ∀ j, ev (mk l j) x = .slice a m c := by intro j; rfl) (hy : ∀ j, ev (mk l j) y = .slice u m c' := by intro j; rfl) :
    StepL P ⟨dd, .call ⟨.builtin .copy, #[x, y], #[t, t2]⟩, oty, pos, af, g⟩ l As (fun v Cs => v = .int .i64 (m : Nat) ∧ Cs = SA (some e) sz (.slice a m c) m r2 :: Bs) := .mk fun j Fs H M q => by
  rw [execOp_copy, hx j, hy j]
  obtain ⟨M1, M2, a1, a2, dj, ⟨hr1, hr2, hown, _⟩, hB⟩ := (up.app Fs).sat q
  have hrr := (hr.app Fs).rd q
  have hrl : ∀ i, i < m → (r2 i).length = sz := by obtain ⟨_, _, _, _, h, _⟩ := hrr; exact h
  rcases hown with ⟨h2, _⟩ | ⟨b, ln, cp, cs, e1, h3, h4, h5, h6, h7⟩
  · cases h2; omega
  · cases e1
    have hov : ((HP.own b (.cells cs e (0, 0))).star (Sat (Bs ++ Fs))).p H M := ⟨M1, M2, a1, a2, dj, h6, hB⟩
    obtain ⟨hb, hq⟩ := own_write (o' := .cells (setL cs 0 (flat m r2)) e (0, 0)) hov
    have hle : m * sz ≤ c * sz := Nat.mul_le_mul_right _ h5
    refine hmc_of_hm (hm_bind (hm_copy (n' := m) (c' := c) (off := 0) hb hrr h1 (by rw [Nat.min_self, h4]; omega) (hm_pure ⟨_, .inl rfl, _, ⟨by rw [Nat.min_self], rfl⟩, ?_⟩)))
    rw [Nat.min_self]
    refine star_monoL (fun H M h => ?_) hq
    have hfl := flat_len hrl
    refine ⟨hrl, h1, .inr ⟨b, m, c, _, rfl, hfl, by rw [setL_size]; exact h4, h5, h, ?_⟩, _, _, rfl⟩
    have e2 : cs = cs.toList.toArray := by simp
    rw [e2, setL_list _ _ _ (by rw [hfl]; simp [h4]; omega)]
    simp only [List.take_zero, List.nil_append]
    exact List.take_left' rfl
theorem lk_min {d : Nat} {oty : TypeId} {pos : String} {af : Array Edge} {g : Option (Nat × Bool)} {t t2 : TypeId} {x y : Operand} {kd k2 : IntKind} {a b : Int} (c : Int) (hx : ∀ j, ev (mk l j) x = .int kd a := by intro j; rfl) (hy : ∀ j, ev (mk l j) y = .int k2 b := by intro j; rfl) (hc : (if b < a then b else a) = c := by first | (split <;> omega) | simp) :
    LookS P ⟨some d, .call ⟨.builtin .min, #[x, y], #[t, t2]⟩, oty, pos, af, g⟩ l As (.int kd c) := .mk fun j _ _ _ => by
  refine qt_cst ?_
  show cst P (resolve (ev (mk l j)) ⟨.builtin .min, #[x, y], #[t, t2]⟩ oty >>= fun d => invoke d.target d.args) = _
  have e1 : #[x, y].map (ev (mk l j)) = #[ev (mk l j) x, ev (mk l j) y] := by simp
  unfold resolve
  dsimp only
  rw [e1, hx j, hy j, ← hc]
  rfl
theorem lk_max {d : Nat} {oty : TypeId} {pos : String} {af : Array Edge} {g : Option (Nat × Bool)} {t t2 : TypeId} {x y : Operand} {kd k2 : IntKind} {a b : Int} (c : Int) (hx : ∀ j, ev (mk l j) x = .int kd a := by intro j; rfl) (hy : ∀ j, ev (mk l j) y = .int k2 b := by intro j; rfl) (hc : (if b > a then b else a) = c := by first | (split <;> omega) | simp) :
    LookS P ⟨some d, .call ⟨.builtin .max, #[x, y], #[t, t2]⟩, oty, pos, af, g⟩ l As (.int kd c) := .mk fun j _ _ _ => by
  refine qt_cst ?_
  show cst P (resolve (ev (mk l j)) ⟨.builtin .max, #[x, y], #[t, t2]⟩ oty >>= fun d => invoke d.target d.args) = _
  have e1 : #[x, y].map (ev (mk l j)) = #[ev (mk l j) x, ev (mk l j) y] := by simp
  unfold resolve
  dsimp only
  rw [e1, hx j, hy j, ← hc]
  rfl
theorem strB_snoc (l : List Nat) (c : Nat) : strB (l ++ [c]) = (strB l).push (UInt8.ofNat c) := by
  unfold strB
  apply ByteArray.ext
  show _ = ((l.map UInt8.ofNat).toArray).push (UInt8.ofNat c)
  simp
theorem hq_b2s {H M : Heap} {n c : Nat} {a : Option Addr} {s : List Nat} (hr : SlK (Kn H M) 1 (.slice a n c) n (byR s)) (hl : s.length = n) : hq P (Conv.bytesToString (.slice a n c)) H M (.string (strB s)) := by
  obtain ⟨base, cap, e, _, _, h3⟩ := hr
  cases e
  cases a with
  | none =>
    have : n = 0 := by
      rcases Nat.eq_zero_or_pos n with h | h
      · exact h
      · obtain ⟨_, _, _, _, _, h4, _⟩ := h3 h; cases h4
    subst this
    have : s = [] := List.eq_nil_of_length_eq_zero hl
    subst this
    exact hq_pure
  | some a =>
    unfold Conv.bytesToString
    dsimp only
    have hload : hq P (loadCells a n) H M (bcl s).toArray := by
      rcases Nat.eq_zero_or_pos n with h | h
      · subst h
        have : s = [] := List.eq_nil_of_length_eq_zero hl
        subst this
        exact hq_cst rfl
      · obtain ⟨bx, ox, cx, tx, fx, e, kx, hsx, hxx⟩ := h3 h
        cases e
        intro w0 w hh
        have h4 := loadCells_known (P := P) (off := ox) hh kx n 0 #[] (by omega)
        simp only [Nat.add_zero, Array.empty_append] at h4
        rw [Nat.mul_one] at hxx
        rw [hxx] at h4
        have : flat n (byR s) = bcl s := by rw [← hl]; exact flat_byR' s
        rw [this] at h4
        exact h4
    refine hq_bind hload ?_
    have hloop : ∀ (r d : List Nat), s = d ++ r → hq P (forIn (bcl r) (strB d) (fun c (s : ByteArray) => match c with
        | .int .u8 n => (pure (ForInStep.yield (s.push (UInt8.ofNat n.toNat))) : Sem _)
        | _ => stuck "bytesToString: byte expected")) H M (strB s) := by
      intro r
      induction r with
      | nil => intro d e; rw [List.append_nil] at e; subst e; exact hq_pure
      | cons x r ih =>
        intro d e
        have := ih (d ++ [x]) (by rw [e]; simp)
        rw [strB_snoc] at this
        show hq P (forIn (.int .u8 (x : Int) :: bcl r) _ _) H M _
        rw [List.forIn_cons]
        exact hq_bind hq_pure this
    have h5 := hloop s [] rfl
    rw [List.forIn_toArray]
    refine hq_bind (a := strB s) ?_ hq_pure
    exact h5
end
theorem fill_cons {pl : List (Nat × Nat)} {z : List Value} {i : Nat} {v : Value} {ps : List (Nat × Value)} {r : List Value} {off sz : Nat} {vs z' : List Value} (a : AtP pl i off sz) (c : Cel v vs) (n : LenL vs sz) (f : FitsL z off sz) (s : SetsL z off vs z') (q : FillL pl z' ps r) : FillL pl z ((i, v) :: ps) r := inferInstance
section
variable {P : Program} {f : FuncId} {n : Nat} {R : Value → HP} {k : List It} {l : List (Nat × Value)} {As Bs Rs Zs : List HP}
class U8T (P : Program) (e : Nat) : Prop where
  h : cst P (underlying e) = some (.int .u8)
/-- bytes as a text -/
theorem lk_b2s {d : Nat} {oty : TypeId} {pos : String} {af : Array Edge} {g : Option (Nat × Bool)} {t t2 e m c : Nat} {x : Operand} {a : Option Addr} {s : List Nat} [sc : SC P t e] [sy : STY P t2] [u8 : U8T P e] (hr : SelR As 1 (.slice a m c) m (byR s)) (hl : s.length = m) (hx : ∀ j, ev (mk l j) x = .slice a m c := by intro j; rfl) :
    LookS P ⟨some d, .convert t t2 x, oty, pos, af, g⟩ l As (.string (strB s)) := .mk fun j H M q => by
  refine qt_exec (s := convert t t2 (ev (mk l j) x)) (by unfold execOp; rfl) ?_
  rw [hx j]
  unfold convert
  refine hq_bind (hq_cst sc.h) (hq_bind (hq_cst sy.h) ?_)
  dsimp only
  refine hq_bind (hq_cst u8.h) ?_
  exact hq_b2s (hr.rd q) hl
/-- copy of an empty text: nothing -/
theorem st_cpE {dd : Option Nat} {oty : TypeId} {pos : String} {af : Array Edge} {g : Option (Nat × Bool)} {t t2 el sz m c b off : Nat} {x y : Operand} {cs : Array Value} {ty : TypeId} {s : ByteArray} [sc : SC P t el] [hs : SZ P el sz] (he : s.size = 0) (u : Sel (.own b (.cells cs ty (0, 0))) As Bs)
    (hx : ∀ j, ev (mk l j) x = .slice (some ⟨b, off, none⟩) m c := by intro j; rfl) (hy : ∀ j, ev (mk l j) y = .string s := by intro j; rfl) (hl : off ≤ cs.size := by first | (simp; done) | omega) :
    StepL P ⟨dd, .call ⟨.builtin .copy, #[x, y], #[t, t2]⟩, oty, pos, af, g⟩ l As (fun v Cs => v = .int .i64 ((0 : Nat) : Int) ∧ Cs = As) := .mk fun j Fs H M q => by
  rw [execOp_copy, hx j, hy j]
  have hb : M b = some (.cells cs ty (0, 0)) := star_fst ((u.app Fs).sat q)
  refine hmc_of_hm (hm_bind ?_)
  unfold Builtin.copy_
  simp only [List.getElem?_toArray, List.getElem?_cons_zero, List.getElem?_cons_succ]
  refine hm_bind (hm_cst sc.h ?_)
  dsimp only
  refine hm_bind (hm_cst (a := s.size) rfl ?_)
  refine hm_bind (hm_cst hs.h ?_)
  have hmin : Nat.min s.size m = 0 := by rw [he]; exact Nat.zero_min _
  rw [hmin]
  have hex : (s.extract 0 0).data.map (fun b : UInt8 => Value.int .u8 b.toNat) = #[] := by
    have : (s.extract 0 0).data = #[] := by
      have h1 : (s.extract 0 0).size = 0 := by simp
      exact Array.size_eq_zero_iff.1 h1
    rw [this]; simp
  refine hm_bind ?_
  show hm P (pure ((s.extract 0 0).data.map fun b : UInt8 => Value.int .u8 b.toNat)) H M _
  rw [hex]
  refine hm_pure ?_
  refine hm_bind ?_
  have e0 : upd M b (.cells (setL cs off []) ty (0, 0)) = M := by
    funext q
    by_cases h : q = b
    · subst h; rw [upd_same, hb]; rfl
    · rw [upd_ne h]
  refine hm_storeCells (vs := (#[] : Array Value).toList) hb (by simpa using hl) rfl ?_
  refine hm_pure (hm_pure ⟨_, .inl rfl, _, ⟨rfl, rfl⟩, ?_⟩)
  show (Sat (As ++ Fs)).p H (upd M b (.cells (setL cs off []) ty (0, 0)))
  rw [e0]; exact q
/-- a function that tells nothing comes to its end -/
theorem s_end {fn : Func} {Q : Value → List HP → Prop} {F : HP} (hf : P.funcs[f]? = some fn) (hq : Q (.tuple #[]) Bs) (he : Ent As (Bs ++ [F])) (hr : ∀ j, cst P (resE fn (mk l j)) = some (.tuple #[]) := by intro j; rfl) :
    RunS P f n (post Q F) [] l As := .mk fun _ _ s => run_end hf (fun j _ w _ => cst_run _ (hr j) w) ⟨Bs, hq, he.sat s⟩
end
theorem SlK.pure {K : Nat → Obj → Prop} {sz : Nat} {a : Option Addr} {n c : Nat} {row : Nat → List Value} (h : SlK K sz (.slice a n c) n row) : n ≤ c ∧ (a = none → n = 0) := by
  obtain ⟨b, cap, e, hc, _, h3⟩ := h
  cases e
  refine ⟨hc, fun ha => ?_⟩
  rcases Nat.eq_zero_or_pos n with h | h
  · exact h
  · obtain ⟨_, _, _, _, _, e, _⟩ := h3 h; rw [ha] at e; cases e
theorem rd_pure {A : HP} {sz : Nat} {a : Option Addr} {n c : Nat} {row : Nat → List Value} [r : Rd A sz (.slice a n c) n row] (H M : Heap) (h : A.p H M) : n ≤ c ∧ (a = none → n = 0) := (r.h H M h).pure
end Go.Cam
/- The address of an element, where only the slice itself is known to be there. -/
namespace Go.Cam
/-- a slice that is there -/
def Els (v : Value) (n : Nat) : Prop := ∃ b off cap, v = .slice (some ⟨b, off, none⟩) n cap
theorem Els.ptr {v : Value} {n : Nat} (h : Els v n) (sz i fo : Nat) : ∃ b off cap, v = .slice (some ⟨b, off, none⟩) n cap ∧ eptr v sz i fo = .pointer (some ⟨b, off + (i * sz + fo), none⟩) := by
  obtain ⟨b, off, cap, rfl⟩ := h; exact ⟨b, off, cap, rfl, by simp [eptr, addr_add]⟩
theorem rd_els {A : HP} {sz : Nat} {v : Value} {n : Nat} {row : Nat → List Value} [r : Rd A sz v n row] (hn : 0 < n) (H M : Heap) (h : A.p H M) : Els v n := by
  obtain ⟨b, off, _, _, _, cap, e, _⟩ := (r.h H M h).elem hn
  exact ⟨b, off, cap, e⟩
section
variable {P : Program} {l : List (Nat × Value)} {As Bs : List HP} {d : Nat} {oty : TypeId} {pos : String} {af : Array Edge} {g : Option (Nat × Bool)}
theorem lk_ixq {t : TypeId} {x y : Operand} {elem sz n : Nat} {kd : IntKind} {v : Value} {i : Nat} [hu : SC P t elem] [hs : SZ P elem sz] (he : Els v n) (hx : ∀ j, ev (mk l j) x = v := by intro j; rfl)
    (hy : ∀ j, ev (mk l j) y = .int kd (i : Int) := by intro j; rfl) (hi : i < n := by omega) :
    LookS P ⟨some d, .indexAddr t x y, oty, pos, af, g⟩ l As (eptr v sz i 0) := .mk fun j H M q => by
  obtain ⟨b, off, cap, hv, hp⟩ := he.ptr sz i 0
  rw [hp]
  have := qt_ixs (o := ⟨some d, .indexAddr t x y, oty, pos, af, g⟩) (H := H) (M := M) rfl ((hx j).trans hv) (hy j) hu.h hs.h (by omega) (by omega); simpa using this
theorem lk_faeq {st : TypeId} {x : Operand} {fld fo fo' sz n : Nat} {v : Value} {i : Nat} [hf : FO P st fld fo'] (he : Els v n) (hx : ∀ j, ev (mk l j) x = eptr v sz i fo := by intro j; rfl) :
    LookS P ⟨some d, .fieldAddr st x fld, oty, pos, af, g⟩ l As (eptr v sz i (fo + fo')) := .mk fun j H M q => by
  obtain ⟨b, off, cap, hv, hp⟩ := he.ptr sz i fo
  obtain ⟨b', off', cap', hv', hp'⟩ := he.ptr sz i (fo + fo')
  rw [hv] at hv'; cases hv'
  rw [hp']
  have := qt_fa (o := ⟨some d, .fieldAddr _ x fld, oty, pos, af, g⟩) (H := H) (M := M) rfl ((hx j).trans hp) hf.h; simpa [Nat.add_assoc] using this
end
theorem lk_nes {P : Program} {l : List (Nat × Value)} {As : List HP} {d : Nat} {oty : TypeId} {pos : String} {af : Array Edge} {g : Option (Nat × Bool)} {t t2 : TypeId} {x y : Operand} {X Y : Value} {v : Bool} [eq : EQ P t X Y v] (hx : ∀ j, ev (mk l j) x = X := by intro j; rfl) (hy : ∀ j, ev (mk l j) y = Y := by intro j; rfl) :
    LookS P ⟨some d, .binOp .neq t x y t2, oty, pos, af, g⟩ l As (.bool (!v)) := .mk fun j _ _ _ => by
  refine qs_binw rfl ?_ ?_
  · rw [hx j, hy j]; exact eq.g _ _ _
  · rw [hx j, hy j]; exact eq.n
end Go.Cam
/- An empty slice is written out, as a step. -/
namespace Go.Cam
section
variable {P : Program} {l : List (Nat × Value)} {As : List HP} {dd : Option Nat} {oty : TypeId} {pos : String} {af : Array Edge} {g : Option (Nat × Bool)}
theorem st_bs0 {t el sz : Nat} {row : Nat → List Value} [SC P t el] [SZ P el sz] :
    StepL P ⟨dd, .buildSlice t 0 #[], oty, pos, af, g⟩ l As (fun v Bs => ∃ a, v = .slice a 0 0 ∧ Bs = SO el sz (.slice a 0 0) 0 row :: As) := .mk fun j Fs H M s => by
  have e1 : execOp (ev (mk l j)) ⟨dd, .buildSlice t 0 #[], oty, pos, af, g⟩ = (Instr.buildSlice t 0 #[] >>= fun v => pure (Next.value v)) := by
    unfold execOp; simp
  rw [e1]
  refine hmc_of_hm (hm_bind (hm_bs0 (sz := sz) fun r hr => hm_pure ⟨_, .inl rfl, _, ⟨_, rfl, rfl⟩, ?_⟩))
  refine star_monoL (C := SO el sz _ 0 row) (fun H M h => .inl ?_) (own_new hr s)
  exact ⟨fun i hi => by omega, by simp [flat], .inr ⟨r, 0, 0, #[], rfl, by simp [flat], by simp, Nat.le_refl _, h, by simp [flat]⟩, _, _, rfl⟩
/-- a text that is written out, as bytes: its row is marked -/
theorem st_cvb {t e : TypeId} {b m c : Nat} {x : Operand} {cs : Array Value} {ty : TypeId} {As' : List HP} [sc : SC P t e] [u8 : U8T P e] (u : Upd (.own b (.cells cs ty (0, 0))) (.own b (.cells cs ty (cs.size, cs.size + 1))) As As')
    (hx : ∀ j, ev (mk l j) x = .slice (some ⟨b, 0, none⟩) m c := by intro j; rfl) :
    StepL P ⟨dd, .convert t t x, oty, pos, af, g⟩ l As (fun v Bs => v = .slice (some ⟨b, 0, none⟩) m c ∧ Bs = As') := .mk fun j Fs H M q => by
  obtain ⟨Cs, s1, s2⟩ := (u.app Fs).sels
  obtain ⟨hb, hq⟩ := own_write (o' := .cells cs ty (cs.size, cs.size + 1)) (s1.sat q)
  refine hmc_of_hm ?_
  show hm P (convert t t (ev (mk l j) x) >>= fun v => pure (Next.value v)) H M _
  rw [hx j]
  refine hm_bind (fun w0 w hh => ?_)
  have h1 := hh.m b _ hb
  have hsh : w.shape? b = some (ty, cs.size) := by unfold World.shape?; rw [h1]
  refine ⟨.slice (some ⟨b, 0, none⟩) m c, w.freeze ⟨b, cs.size, none⟩ 1, H, upd M b (.cells cs ty (cs.size, cs.size + 1)), ?_, ?_, hm_pure ⟨_, .inl rfl, _, ⟨rfl, rfl⟩, s2.back hq⟩⟩
  · simp [convert, cst_run _ sc.h w, cst_run _ u8.h w, markStringish, hsh]
  · have := hh.modify hb (fun o => match o with | .cells c elem (lo, hi) => .cells c elem (if lo == hi then (cs.size, cs.size + 1) else (min lo cs.size, max hi (cs.size + 1))) | o => o)
    exact this
end
end Go.Cam
