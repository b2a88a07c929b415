/- Slices of slices; slices that begin empty; append within a tail. -/
import Derived.Test.YtimaipclgmcekaaCamL
namespace Go.Cam
/-- the bounds as they are written -/
def loB (e : Nat → Value) (lo : Option Operand) (l : Nat) : Prop := match lo with | none => l = 0 | some y => ∃ k, ev e y = .int k l
def hiB (e : Nat → Value) (hi : Option Operand) (len h : Nat) : Prop := match hi with | none => h = len | some y => ∃ k, ev e y = .int k h
section
variable {P : Program} {H M : Heap}
theorem cst_sliceBound {v : Value} {k : IntKind} {i y : Nat} {code : BoundsCode} (hv : v = .int k i) (h : i ≤ y) : cst P (Instr.sliceBound v y code) = some i := by
  subst hv
  unfold Instr.sliceBound
  rw [cst_bind (show cst P (asIntOf (.int k (i : Int))) = some (k, (i : Int)) from rfl)]
  dsimp only
  rw [if_pos (by omega)]
  simp [cst, pure]
theorem qs_slc {d : Option Nat} {oty : TypeId} {pos : String} {af : Array Edge} {g : Option (Nat × Bool)} {t : TypeId} {x : Operand} {lo hi : Option Operand} {e : Nat → Value} {b off len cap el sz : Nat} (l h : Nat) [sc : SC P t el] [hs : SZ P el sz]
    (hx : ev e x = .slice (some ⟨b, off, none⟩) len cap) (hlo : loB e lo l) (hhi : hiB e hi len h) (hlen : len ≤ cap) (hl : l ≤ h) (hh : h ≤ cap) :
    Qs P ⟨d, .slice t x lo hi none, oty, pos, af, g⟩ e H M (.slice (some ⟨b, if cap = l then off else off + l * sz, none⟩) (h - l) (cap - l)) := by
  refine qt_exec (s := Instr.sliceAt t (ev e x) (lo.map (ev e)) (hi.map (ev e)) none) (by unfold execOp; rfl) fun w0 w _ => ?_
  refine cst_run _ ?_ w
  rw [hx]
  unfold Instr.sliceAt
  rw [cst_bind sc.h]
  dsimp only
  unfold Instr.slice
  rw [cst_bind sc.h]
  dsimp only
  have hb : cst P (Instr.sliceBounds true len cap (lo.map (ev e)) (hi.map (ev e)) none) = some (l, h, cap) := by
    unfold Instr.sliceBounds
    cases lo with
    | none =>
      simp only [loB] at hlo
      subst hlo
      cases hi with
      | none => simp only [hiB] at hhi; subst hhi; rfl
      | some y =>
        obtain ⟨k, hy⟩ := hhi
        simp only [Option.map_none, Option.map_some, pure_bind]
        rw [cst_bind (cst_sliceBound hy hh)]; rfl
    | some z =>
      obtain ⟨k', hz⟩ := hlo
      cases hi with
      | none =>
        simp only [hiB] at hhi
        subst hhi
        simp only [Option.map_none, Option.map_some, pure_bind]
        rw [cst_bind (cst_sliceBound hz hl)]; rfl
      | some y =>
        obtain ⟨k, hy⟩ := hhi
        simp only [Option.map_some, pure_bind]
        rw [cst_bind (cst_sliceBound hy hh), cst_bind (cst_sliceBound hz hl)]; rfl
  rw [cst_bind hb]
  dsimp only
  rw [cst_bind hs.h]
  by_cases hc : cap = l
  · rw [if_pos hc, if_pos hc]; rfl
  · rw [if_neg hc, if_neg hc]; simp only [Option.map_some, addr_add]; rfl
end
section
variable {P : Program} {f : FuncId} {n : Nat} {R : Post} {k : List It} {l l2 : List (Nat × Value)} {H M : Heap} {all : Array Oper} {rest : List Oper} {K : List (Nat × Value) → Heap → Heap → Prop}
theorem run_slc {d : Nat} {oty : TypeId} {pos : String} {af : Array Edge} {g : Option (Nat × Bool)} {t : TypeId} {x : Operand} {lo hi : Option Operand} {b off len cap el sz : Nat} (p q : Nat) [SC P t el] [SZ P el sz] (hd : Nat.blt d n = true) (hw : ∀ j, wantE ⟨some d, .slice t x lo hi none, oty, pos, af, g⟩ all (mk l j) = true)
    (hx : ∀ j, ev (mk l j) x = .slice (some ⟨b, off, none⟩) len cap) (hlo : ∀ j, loB (mk l j) lo p) (hhi : ∀ j, hiB (mk l j) hi len q) (hlen : len ≤ cap) (hl : p ≤ q) (hh : q ≤ cap)
    (h : ∀ off', (p < q → off' = off + p * sz) → off' ≤ off + p * sz → Run P f n R (.ops all rest :: k) ((d, .slice (some ⟨b, off', none⟩) (q - p) (cap - p)) :: l) H M) : Run P f n R (.ops all (⟨some d, .slice t x lo hi none, oty, pos, af, g⟩ :: rest) :: k) l H M :=
  run_qt _ (by exact hd) hw (fun j => (qs_slc p q (hx j) (hlo j) (hhi j) hlen hl hh).qt) (h _ (fun h => by rw [if_neg (by omega)]) (by split <;> omega))
/-- in a drawn region's looking part: where it lies is fixed beforehand -/
theorem ql_slc {d : Nat} {oty : TypeId} {pos : String} {af : Array Edge} {g : Option (Nat × Bool)} {t : TypeId} {x : Operand} {lo hi : Option Operand} {b off len cap el sz : Nat} (p q off' : Nat) [SC P t el] [SZ P el sz] (ho : (if cap = p then off else off + p * sz) = off') (hd : Nat.blt d n = true) (hw : ∀ j, wantE ⟨some d, .slice t x lo hi none, oty, pos, af, g⟩ all (mk l j) = true)
    (hx : ∀ j, ev (mk l j) x = .slice (some ⟨b, off, none⟩) len cap) (hlo : ∀ j, loB (mk l j) lo p) (hhi : ∀ j, hiB (mk l j) hi len q) (hlen : len ≤ cap) (hl : p ≤ q) (hh : q ≤ cap)
    (h : QL P n all H M rest ((d, .slice (some ⟨b, off', none⟩) (q - p) (cap - p)) :: l) l2) : QL P n all H M (⟨some d, .slice t x lo hi none, oty, pos, af, g⟩ :: rest) l l2 := by
  subst ho
  exact .yes _ (by exact hd) hw (fun j => qs_slc p q (hx j) (hlo j) (hhi j) hlen hl hh) h
theorem hm_bs0 {t el : Nat} [sc : SC P t el] {sz : Nat} [hs : SZ P el sz] {K : Value → Heap → Heap → Prop} (h : ∀ r, Fresh H M r → K (.slice (some ⟨r, 0, none⟩) 0 0) H (upd M r (.cells #[] el))) : hm P (Instr.buildSlice t 0 #[]) H M K := by
  unfold Instr.buildSlice
  refine hm_bind (hm_cst sc.h ?_)
  dsimp only
  refine hm_bind (hm_cst hs.h ?_)
  rw [if_neg (by omega), if_pos (by omega)]
  refine hm_bind (hm_pure ?_)
  have e1 : (Array.range (0 * sz)).map (fun x => (#[] : Array Value)[x % (#[] : Array Value).size]!) = #[] := by simp
  rw [e1]
  show hm P (newRow el #[] >>= fun a => pure (.slice (some a) 0 0)) H M K
  exact hm_bind (hm_newRow fun r hr => hm_pure (h r hr))
theorem run_bs0 {d : Nat} {oty : TypeId} {pos : String} {af : Array Edge} {g : Option (Nat × Bool)} {t el sz : Nat} [SC P t el] [SZ P el sz] (hd : Nat.blt d n = true) (hw : ∀ j, wantE ⟨some d, .buildSlice t 0 #[], oty, pos, af, g⟩ all (mk l j) = true)
    (h : ∀ r M1, M1 r = some (.cells #[] el) → New M r M1 → Run P f n R (.ops all rest :: k) ((d, .slice (some ⟨r, 0, none⟩) 0 0) :: l) H M1) : Run P f n R (.ops all (⟨some d, .buildSlice t 0 #[], oty, pos, af, g⟩ :: rest) :: k) l H M := by
  refine run_hm hd hw fun j => ?_
  have e1 : execOp (ev (mk l j)) ⟨some d, .buildSlice t 0 #[], oty, pos, af, g⟩ = (Instr.buildSlice t 0 ((#[] : Array (Nat × Operand)).map fun x => (x.1, ev (mk l j) x.2)) >>= fun v => pure (Next.value v)) := by unfold execOp; rfl
  rw [e1, Array.map_empty]
  exact hm_bind (hm_bs0 fun r hr => hm_pure ⟨_, .inl rfl, h r _ (upd_same _ _ _) (New.of hr _)⟩)
theorem tl_bs0 {d : Nat} {oty : TypeId} {pos : String} {af : Array Edge} {g : Option (Nat × Bool)} {t el sz : Nat} [SC P t el] [SZ P el sz] (hd : Nat.blt d n = true) (hw : ∀ j, wantE ⟨some d, .buildSlice t 0 #[], oty, pos, af, g⟩ all (mk l j) = true)
    (h : ∀ r M1, M1 r = some (.cells #[] el) → New M r M1 → TL P n all rest ((d, .slice (some ⟨r, 0, none⟩) 0 0) :: l) H M1 K) : TL P n all (⟨some d, .buildSlice t 0 #[], oty, pos, af, g⟩ :: rest) l H M K := by
  refine tl_hm hd hw fun j => ?_
  have e1 : execOp (ev (mk l j)) ⟨some d, .buildSlice t 0 #[], oty, pos, af, g⟩ = (Instr.buildSlice t 0 ((#[] : Array (Nat × Operand)).map fun x => (x.1, ev (mk l j) x.2)) >>= fun v => pure (Next.value v)) := by unfold execOp; rfl
  rw [e1, Array.map_empty]
  exact hm_bind (hm_bs0 fun r hr => hm_pure ⟨_, .inl rfl, h r _ (upd_same _ _ _) (New.of hr _)⟩)
theorem execOp_app (e : Nat → Value) {d : Option Nat} {pos : String} {af : Array Edge} {g : Option (Nat × Bool)} {t : TypeId} {p q : Operand} : execOp (ev e) ⟨d, .call ⟨.builtin .append, #[p, q], #[t, t]⟩, t, pos, af, g⟩ = (Builtin.append_ #[t, t] t #[ev e p, ev e q] >>= fun v => pure (Next.value v)) := by
  show (resolve (ev e) ⟨.builtin .append, #[p, q], #[t, t]⟩ t >>= fun d => invoke d.target d.args) = _
  have : #[p, q].map (ev e) = #[ev e p, ev e q] := by simp
  unfold resolve
  dsimp only
  rw [this]; rfl
theorem tl_app {d : Nat} {pos : String} {af : Array Edge} {g : Option (Nat × Bool)} {t e sz bytes m c : Nat} [SL P t e sz bytes] {p q : Operand} {s : Value} {xs : List Value} (ys : List Value) {bx offx : Nat} {cx : Array Value} {tx : TypeId} {fx : Nat × Nat} (hd : Nat.blt d n = true)
    (hw : ∀ j, wantE ⟨some d, .call ⟨.builtin .append, #[p, q], #[t, t]⟩, t, pos, af, g⟩ all (mk l j) = true) (hp : ∀ j, ev (mk l j) p = s) (hq : ∀ j, ev (mk l j) q = .slice (some ⟨bx, offx, none⟩) m c)
    (hown : Own M e sz s xs) (hx : Kn H M bx (.cells cx tx fx)) (hy : cx.extract offx (offx + m * sz) = ys.toArray) (hyl : offx + m * sz ≤ cx.size) (hys : ys.length = m * sz) (h1 : ys.all one = true)
    (hroom : (xs.length / sz + m + 512) * bytes ≤ 140737488355328) (h : ∀ v' M', Own M' e sz v' (xs ++ ys) → App M s M' v' → TL P n all rest ((d, v') :: l) H M' K) :
    TL P n all (⟨some d, .call ⟨.builtin .append, #[p, q], #[t, t]⟩, t, pos, af, g⟩ :: rest) l H M K := by
  refine tl_hm hd hw fun j => ?_
  rw [execOp_app, hp j, hq j]
  exact hm_bind (hm_app ys hown hx hy hyl hys h1 hroom fun v' M' ho ha => hm_pure ⟨v', .inl rfl, h v' M' ho ha⟩)
end
theorem own_nil {M : Heap} {r e sz : Nat} (h : M r = some (.cells #[] e (0, 0))) : Own M e sz (.slice (some ⟨r, 0, none⟩) 0 0) [] := .inr ⟨r, 0, 0, #[], rfl, by simp, by simp, Nat.le_refl _, h, rfl⟩
/-- a part of a row of cells, as a list -/
theorem extract_part {cs : Array Value} {xs : List Value} {N a m : Nat} (h : cs.toList.take N = xs) (hm : a + m ≤ N) : cs.extract a (a + m) = ((xs.drop a).take m).toArray := by
  apply Array.ext'
  rw [Array.toList_extract, List.extract_eq_take_drop, ← h, List.drop_take, List.take_take]
  congr 1
  omega
end Go.Cam
