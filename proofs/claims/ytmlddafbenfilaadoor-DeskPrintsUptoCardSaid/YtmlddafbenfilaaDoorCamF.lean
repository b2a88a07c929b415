/- Memory: what is loaded, stored, made; rows of cells as functions of their places. -/
import Derived.Test.YtmlddafbenfilaaDoorCamB
namespace Go.Cam
section
variable {P : Program} {H M : Heap} {α : Type}
theorem run_load_known {w0 w : World} (hh : Has w0 w H M) {b off : Nat} {c : Array Value} {ty : TypeId} {fr : Nat × Nat} {v : Value}
    (hb : Kn H M b (.cells c ty fr)) (hv : c[off]? = some v) (m : Mode) (kk : Value → Sem α) :
    (Sem.load m ⟨b, off, none⟩ kk).run P w = (kk v).run P w := by
  have hc : w.cell? ⟨b, off, none⟩ = some v := by
    have h1 := hh.look hb
    unfold World.cell?
    simp only [h1]
    simpa using hv
  simp only [Sem.run, hc]
theorem addr_add (b off n : Nat) : (⟨b, off, none⟩ : Addr).add n = ⟨b, off + n, none⟩ := by
  unfold Addr.add; split
  · rename_i h; subst h; rfl
  · rfl
theorem loadCells_known {w0 w : World} (hh : Has w0 w H M) {b off : Nat} {c : Array Value} {ty : TypeId} {fr : Nat × Nat}
    (hb : Kn H M b (.cells c ty fr)) : ∀ (n i : Nat) (acc : Array Value), off + i + n ≤ c.size →
    (loadCellsFrom ⟨b, off, none⟩ i n acc).run P w = .ok (acc ++ c.extract (off + i) (off + i + n)) w
  | 0, i, acc, _ => by
    show Result.ok acc w = _
    simp
    omega
  | n + 1, i, acc, hl => by
    have hlt : off + i < c.size := by omega
    have h1 : (loadCellsFrom ⟨b, off, none⟩ i (n + 1) acc) = Sem.load .plain ((⟨b, off, none⟩ : Addr).add i) (fun v => loadCellsFrom ⟨b, off, none⟩ (i + 1) n (acc.push v)) := rfl
    rw [h1, addr_add, run_load_known hh hb (v := c[off + i]) (by simp [hlt]), loadCells_known hh hb n (i + 1) _ (by omega)]
    congr 1
    apply Array.ext'
    simp only [Array.toList_append, Array.toList_push, Array.toList_extract, List.append_assoc]
    congr 1
    have e1 : off + i + (n + 1) = off + (i + 1) + n := by omega
    rw [e1]
    simp only [List.extract_eq_take_drop]
    have e2 : off + (i + 1) + n - (off + i) = n + 1 := by omega
    have e3 : off + (i + 1) + n - (off + (i + 1)) = n := by omega
    rw [e2, e3]
    have : c.toList.drop (off + i) = c[off + i] :: c.toList.drop (off + (i + 1)) := by
      rw [List.drop_eq_getElem_cons (by simpa using hlt)]; rfl
    rw [this]; rfl
theorem qt_ld1 {o : Oper} {e : Nat → Value} {t : TypeId} {x : Operand} {b off : Nat} {c : Array Value} {ty : TypeId} {fr : Nat × Nat} {v : Value} (ho : o.op = .load t x)
    (hx : ev e x = .pointer (some ⟨b, off, none⟩)) (hag : cst P (isAgg t) = some false) (hb : Kn H M b (.cells c ty fr)) (hv : c[off]? = some v) : Qs P o e H M v := by
  intro w0 w hh
  have h1 : (Instr.loadAt t (ev e x)).run P w = .ok v w := by
    rw [hx]
    show (loadVar t ⟨b, off, none⟩).run P w = _
    unfold loadVar
    rw [hm_run_bind _ _ w (cst_run _ hag w)]
    exact run_load_known hh hb hv _ _
  have : (execOp (ev e) o).run P w = .ok (.value v) w := by
    unfold execOp; rw [ho]
    show (Instr.loadAt t (ev e x) >>= fun v => pure (Next.value v)).run P w = _
    rw [hm_run_bind _ _ w h1]; rfl
  exact this
theorem qt_ldN {o : Oper} {e : Nat → Value} {t : TypeId} {x : Operand} {b off n : Nat} {c : Array Value} {ty : TypeId} {fr : Nat × Nat} {vs : Array Value} (ho : o.op = .load t x)
    (hx : ev e x = .pointer (some ⟨b, off, none⟩)) (hag : cst P (isAgg t) = some true) (hs : cst P (sizeOf t) = some n) (hb : Kn H M b (.cells c ty fr)) (hl : off + n ≤ c.size)
    (hv : c.extract off (off + n) = vs) : Qs P o e H M (.agg vs) := by
  intro w0 w hh
  have h1 : (Instr.loadAt t (ev e x)).run P w = .ok (.agg vs) w := by
    rw [hx]
    show (loadVar t ⟨b, off, none⟩).run P w = _
    unfold loadVar
    rw [hm_run_bind _ _ w (cst_run _ hag w), if_pos rfl, hm_run_bind _ _ w (cst_run _ hs w)]
    have h2 : (loadCells ⟨b, off, none⟩ n).run P w = .ok vs w := by
      have := loadCells_known (P := P) hh hb n 0 #[] (by omega)
      simp only [Nat.add_zero, Array.empty_append, hv] at this
      exact this
    rw [hm_run_bind _ _ w h2]; rfl
  have : (execOp (ev e) o).run P w = .ok (.value (.agg vs)) w := by
    unfold execOp; rw [ho]
    show (Instr.loadAt t (ev e x) >>= fun v => pure (Next.value v)).run P w = _
    rw [hm_run_bind _ _ w h1]; rfl
  exact this
/-- a value of one cell -/
def one : Value → Bool
  | .agg _ | .tuple _ => false
  | _ => true
/-- cells laid one behind the other -/
def setL (c : Array Value) (off : Nat) : List Value → Array Value
  | [] => c
  | v :: r => setL (c.setIfInBounds off v) (off + 1) r
theorem setL_size : ∀ (vs : List Value) (c : Array Value) (off : Nat), (setL c off vs).size = c.size
  | [], c, off => rfl
  | v :: r, c, off => by simp [setL, setL_size r]
theorem setL_get : ∀ (vs : List Value) (c : Array Value) (off i : Nat), i < c.size → (setL c off vs)[i]? = if off ≤ i ∧ i < off + vs.length then vs[i - off]? else c[i]?
  | [], c, off, i, _ => by simp [setL]; omega
  | v :: r, c, off, i, hi => by
    rw [setL, setL_get r _ _ _ (by simpa using hi)]
    by_cases e : i = off
    · subst e; rw [if_neg (by omega), if_pos (by simp)]; simp [hi]
    · have e2 : (c.setIfInBounds off v)[i]? = c[i]? := by rw [Array.getElem?_setIfInBounds, if_neg (fun h => e h.symm)]
      rw [e2]
      by_cases h1 : off + 1 ≤ i ∧ i < off + 1 + r.length
      · rw [if_pos h1, if_pos (by simp; omega)]
        have : i - off = (i - (off + 1)) + 1 := by omega
        rw [this, List.getElem?_cons_succ]
      · rw [if_neg h1, if_neg (by simp; omega)]
theorem storeCells_known {w0 : World} {ty : TypeId} {lo hi : Nat} {b off : Nat} : ∀ (vs : List Value) (w : World) (c : Array Value) (M : Heap) (i : Nat), Has w0 w H M → M b = some (.cells c ty (lo, hi)) →
    off + i + vs.length ≤ c.size → (∀ j, off + i ≤ j → j < off + i + vs.length → ¬ (lo ≤ j ∧ j < hi)) → (∀ v ∈ vs, one v = true) →
    ∃ w', (storeCells ⟨b, off, none⟩ vs i).run P w = .ok () w' ∧ Has w0 w' H (upd M b (.cells (setL c (off + i) vs) ty (lo, hi)))
  | [], w, c, M, i, hh, hb, _, _, _ => ⟨w, rfl, by
      have : upd M b (.cells c ty (lo, hi)) = M := by funext x; by_cases e : x = b <;> simp [upd, e, hb]
      simpa [setL, this] using hh⟩
  | v :: r, w, c, M, i, hh, hb, hl, hf, ho => by
    simp only [List.length_cons] at hl hf
    have hlt : off + i < c.size := by omega
    have hone := ho v (by simp)
    have hcell : w.cell? ⟨b, off + i, none⟩ = some c[off + i] := by
      unfold World.cell?; simp only [hh.m _ _ hb]; simp [hlt]
    have hfr : w.frozen? ⟨b, off + i, none⟩ = false := by
      unfold World.frozen?; simp only [hh.m _ _ hb]
      have := hf (off + i) (by omega) (by omega)
      simpa using this
    have h1 : (storeCells ⟨b, off, none⟩ (v :: r) i) = Sem.store .plain ((⟨b, off, none⟩ : Addr).add i) v (storeCells ⟨b, off, none⟩ r (i + 1)) := rfl
    have h2 : Has w0 (w.setCell ⟨b, off + i, none⟩ v) H (upd M b (.cells (c.setIfInBounds (off + i) v) ty (lo, hi))) := by
      have := hh.modify hb (fun | .cells c elem frozen => .cells (c.setIfInBounds (off + i) v) elem frozen | o => o)
      exact this
    obtain ⟨w', hr, hw'⟩ := storeCells_known (b := b) (off := off) r _ (c.setIfInBounds (off + i) v) _ (i + 1) h2 (upd_same _ _ _) (by simp; omega) (fun j h1 h2 => hf j (by omega) (by omega)) (fun v hv => ho v (by simp [hv]))
    refine ⟨w', ?_, ?_⟩
    · rw [h1, addr_add]
      cases v
      case agg => simp [one] at hone
      case tuple => simp [one] at hone
      all_goals (simp only [Sem.run, hcell, hfr, Bool.false_eq_true, if_false]; exact hr)
    · have e1 : upd (upd M b (.cells (c.setIfInBounds (off + i) v) ty (lo, hi))) b (.cells (setL (c.setIfInBounds (off + i) v) (off + (i + 1)) r) ty (lo, hi)) = upd M b (.cells (setL c (off + i) (v :: r)) ty (lo, hi)) := by
        funext x; by_cases e : x = b <;> simp [upd, e, setL, Nat.add_assoc]
      rwa [e1] at hw'
theorem hm_st {t : TypeId} {b off n : Nat} {c : Array Value} {ty : TypeId} {lo hi : Nat} {v : Value} {K : Unit → Heap → Heap → Prop} (hs : cst P (sizeOf t) = some n)
    (hb : M b = some (.cells c ty (lo, hi))) (hn : v.cells.toList.length = n) (hl : off + n ≤ c.size) (hf : ∀ j, off ≤ j → j < off + n → ¬ (lo ≤ j ∧ j < hi)) (h1 : ∀ u ∈ v.cells.toList, one u = true)
    (h : K () H (upd M b (.cells (setL c off v.cells.toList) ty (lo, hi)))) : hm P (Instr.storeAt t (.pointer (some ⟨b, off, none⟩)) v) H M K := by
  intro w0 w hh
  obtain ⟨w', hr, hw'⟩ := storeCells_known (P := P) (off := off) v.cells.toList w c M 0 hh hb (by omega) (fun j a b => hf j (by omega) (by omega)) h1
  refine ⟨(), w', H, _, ?_, by simpa using hw', h⟩
  show (storeVar t ⟨b, off, none⟩ v).run P w = _
  unfold storeVar
  rw [hm_run_bind _ _ w (cst_run _ hs w)]
  have : ¬ (v.cells.size ≠ n) := by simpa using hn
  rw [if_neg this]
  exact hr
end

class FO (P : Program) (s fld : Nat) (fo : outParam Nat) : Prop where
  h : ∀ a, cst P (Instr.fieldAt s (.pointer (some a)) fld) = some (.pointer (some (a.add fo)))
class SZ (P : Program) (t : Nat) (m : outParam Nat) : Prop where
  h : cst P (sizeOf t) = some m
class AG (P : Program) (t : Nat) (b : outParam Bool) : Prop where
  h : cst P (isAgg t) = some b
class AR (P : Program) (t : Nat) (m e : outParam Nat) : Prop where
  h : cst P (underlying t) = some (.array m e)
class SC (P : Program) (t : Nat) (e : outParam Nat) : Prop where
  h : cst P (underlying t) = some (.slice e)
section
variable {P : Program} {f : FuncId} {n : Nat} {R : Post} {k : List It} {l : List (Nat × Value)} {H M : Heap} {all : Array Oper} {o : Oper} {rest : List Oper}
theorem run_st {oty : TypeId} {pos : String} {af : Array Edge} {g : Option (Nat × Bool)} {t : TypeId} {x y : Operand} (b off m : Nat) {c : Array Value} {ty : TypeId} (v : Value) (c' : Array Value) (hw : ∀ j, wantE ⟨none, .store t x y, oty, pos, af, g⟩ all (mk l j) = true)
    (hx : ∀ j, ev (mk l j) x = .pointer (some ⟨b, off, none⟩)) (hy : ∀ j, ev (mk l j) y = v) [hs : SZ P t m] (hb : M b = some (.cells c ty (0, 0)))
    (hn : v.cells.toList.length = m) (hl : off + m ≤ c.size) (h1 : v.cells.toList.all one = true) (hc : setL c off v.cells.toList = c')
    (h : Run P f n R (.ops all rest :: k) l H (upd M b (.cells c' ty (0, 0)))) : Run P f n R (.ops all (⟨none, .store t x y, oty, pos, af, g⟩ :: rest) :: k) l H M := by
  refine run_hm rfl hw fun j => ?_
  show hm P (Instr.storeAt t (ev (mk l j) x) (ev (mk l j) y) >>= fun _ => pure Next.skip) H M _
  rw [hx j, hy j]
  refine hm_bind (hm_st hs.h hb hn hl (fun j _ _ h => by omega) (fun u hu => List.all_eq_true.1 h1 u hu) (hm_pure ⟨undef, .inr ⟨rfl, rfl⟩, ?_⟩))
  rw [hc]; exact h
/-- slots that are no longer wanted are forgotten -/
def agrees (e : Nat → Value) : List (Nat × Value) → Prop
  | [] => True
  | (t, v) :: r => e t = v ∧ agrees e r
theorem mk_agrees : ∀ (l : List (Nat × Value)) (e : Nat → Value), agrees e l → mk l e = e
  | [], e, _ => rfl
  | (t, v) :: r, e, h => by
    funext s
    simp only [mk]
    by_cases e' : t = s
    · subst e'; simp [h.1]
    · rw [beq_no e', cond_false, mk_agrees r e h.2]
theorem run_keep (l' : List (Nat × Value)) (hl : ∀ j, agrees (mk l j) l') (h : Run P f n R k l' H M) : Run P f n R k l H M := by
  intro j
  have := h (mk l j)
  rwa [mk_agrees _ _ (hl j)] at this
end

section
variable {P : Program} {f : FuncId} {n : Nat} {R : Post} {k : List It} {l : List (Nat × Value)} {H M : Heap}
/-- a loop: what holds at its head, and a measure -/
theorem run_loopI {α : Type} {c : Code} (L : α → List (Nat × Value)) (I : α → Heap → Heap → Prop) (μ : α → Nat) (a0 : α) (hl : ∀ j, agrees (mk l j) (L a0)) (hI : I a0 H M)
    (round : ∀ a H M, I a H M → (∀ a' H' M', I a' H' M' → μ a' < μ a → Run P f n R (.inLoop c :: k) (L a') H' M') → Run P f n R (.code c :: .inLoop c :: k) (L a) H M) : Run P f n R (.code (.loop c) :: k) l H M := by
  have key : ∀ m a H M, μ a = m → I a H M → Run P f n R (.code c :: .inLoop c :: k) (L a) H M := by
    intro m
    induction m using Nat.strongRecOn with
    | _ m ih => exact fun a H M hn hI => round a H M hI fun a' H' M' hI' hlt => run_inLoop (ih (μ a') (hn ▸ hlt) a' H' M' rfl hI')
  exact run_loop (run_keep _ hl (key _ a0 H M rfl hI))
end

def tab (n : Nat) (f : Nat → Value) : Array Value := ((List.range n).map f).toArray
theorem tab_size (n : Nat) (f : Nat → Value) : (tab n f).size = n := by simp [tab]
theorem setL_whole {c : Array Value} {vs : List Value} (h : c.size = vs.length) : setL c 0 vs = vs.toArray := by
  apply Array.ext_getElem?
  intro i
  rcases Nat.lt_or_ge i c.size with hi | hi
  · rw [setL_get _ _ _ _ hi, if_pos (by omega)]; simp
  · rw [Array.getElem?_eq_none (by rw [setL_size]; exact hi), Array.getElem?_eq_none (by simp; omega)]
theorem extract_whole {c : Array Value} {n : Nat} (h : c.size = n) : c.extract 0 (0 + n) = c := by
  subst h; simp
theorem Fresh.ne {H M : Heap} {r b : Nat} {o : Obj} (h : Fresh H M r) (hb : M b = some o) : b ≠ r := fun e => by subst e; rw [h.2] at hb; cases hb
theorem Fresh.old {H M : Heap} {r b : Nat} {o o' : Obj} (h : Fresh H M r) (hb : M b = some o) : upd M r o' b = some o := by rw [upd_ne (h.ne hb)]; exact hb
end Go.Cam
/- Places: fields, indexes; divisions; comparisons. -/
namespace Go.Cam
section
variable {P : Program} {H M : Heap} {o : Oper} {e : Nat → Value}
theorem qt_exec {v : Value} {s : Sem Value} (hs : execOp (ev e) o = (s >>= fun v => pure (Next.value v))) (h : ∀ w0 w, Has w0 w H M → s.run P w = .ok v w) : Qs P o e H M v := by
  intro w0 w hh
  rw [hs, hm_run_bind _ _ w (h w0 w hh)]
  rfl
theorem cst_bind {α β : Type} {s : Sem α} {f : α → Sem β} {a : α} (h : cst P s = some a) : cst P (s >>= f) = cst P (f a) := by
  show cst P (s.bind f) = _
  induction s with
  | pure x => simp only [cst, Option.some.injEq] at h; subst h; rfl
  | program k ih => simp only [Sem.bind, cst] at h ⊢; exact ih _ h
  | mark m k ih => simp only [Sem.bind, cst] at h ⊢; exact ih h
  | _ => simp [cst] at h
theorem qt_fa {s : TypeId} {x : Operand} {fld : Nat} {b off fo : Nat} (ho : o.op = .fieldAddr s x fld) (hx : ev e x = .pointer (some ⟨b, off, none⟩))
    (hf : ∀ a, cst P (Instr.fieldAt s (.pointer (some a)) fld) = some (.pointer (some (a.add fo)))) : Qs P o e H M (.pointer (some ⟨b, off + fo, none⟩)) := by
  refine qt_exec (s := Instr.fieldAt s (ev e x) fld) (by unfold execOp; rw [ho]) fun w0 w _ => ?_
  rw [hx, cst_run _ (hf _) w, addr_add]
theorem qt_ix {t : TypeId} {x y : Operand} {n : Nat} {elem : TypeId} {sz : Nat} {b off : Nat} {kd : IntKind} {i : Int} (ho : o.op = .indexAddr t x y) (hx : ev e x = .pointer (some ⟨b, off, none⟩)) (hy : ev e y = .int kd i)
    (hu : cst P (underlying t) = some (.array n elem)) (hs : cst P (sizeOf elem) = some sz) (h0 : 0 ≤ i) (h1 : i < n) : Qs P o e H M (.pointer (some ⟨b, off + i.toNat * sz, none⟩)) := by
  refine qt_exec (s := Instr.indexAt t (ev e x) (ev e y)) (by unfold execOp; rw [ho]) fun w0 w _ => ?_
  rw [hx, hy]
  refine cst_run _ ?_ w
  unfold Instr.indexAt
  rw [cst_bind (show cst P (asIntOf (.int kd i)) = some (kd, i) from rfl)]
  dsimp only
  rw [cst_bind hu]
  dsimp only
  rw [cst_bind (a := ⟨b, off, none⟩) (by rfl), cst_bind (a := (some ⟨b, off, none⟩, n, elem)) (by rfl)]
  dsimp only
  rw [cst_bind hu]
  dsimp only
  rw [if_pos ⟨h0, h1⟩, cst_bind hs, addr_add]
  rfl
theorem qt_ixs {t : TypeId} {x y : Operand} {n c : Nat} {elem : TypeId} {sz : Nat} {b off : Nat} {kd : IntKind} {i : Int} (ho : o.op = .indexAddr t x y) (hx : ev e x = .slice (some ⟨b, off, none⟩) n c) (hy : ev e y = .int kd i)
    (hu : cst P (underlying t) = some (.slice elem)) (hs : cst P (sizeOf elem) = some sz) (h0 : 0 ≤ i) (h1 : i < n) : Qs P o e H M (.pointer (some ⟨b, off + i.toNat * sz, none⟩)) := by
  refine qt_exec (s := Instr.indexAt t (ev e x) (ev e y)) (by unfold execOp; rw [ho]) fun w0 w _ => ?_
  rw [hx, hy]
  refine cst_run _ ?_ w
  unfold Instr.indexAt
  rw [cst_bind (show cst P (asIntOf (.int kd i)) = some (kd, i) from rfl)]
  dsimp only
  rw [cst_bind hu]
  dsimp only
  rw [cst_bind (a := (some ⟨b, off, none⟩, n, elem)) (by rfl)]
  dsimp only
  rw [cst_bind hu]
  dsimp only
  rw [if_pos ⟨h0, h1⟩, cst_bind hs, addr_add]
  rfl
/-- an element of an array's value, of one cell -/
theorem qt_ixa {t : TypeId} {x y : Operand} {n : Nat} {elem : TypeId} {cs : Array Value} {kd : IntKind} {i : Int} {v : Value} (ho : o.op = .index t x y) (hx : ev e x = .agg cs) (hy : ev e y = .int kd i)
    (hu : cst P (underlying t) = some (.array n elem)) (hs : cst P (sizeOf elem) = some 1) (hag : cst P (isAgg elem) = some false) (h0 : 0 ≤ i) (h1 : i < n) (hv : cs[i.toNat]? = some v) : Qs P o e H M v := by
  refine qt_exec (s := Instr.index t (ev e x) (ev e y)) (by unfold execOp; rw [ho]) fun w0 w _ => ?_
  rw [hx, hy]
  refine cst_run _ ?_ w
  unfold Instr.index
  rw [cst_bind (show cst P (asIntOf (.int kd i)) = some (kd, i) from rfl)]
  dsimp only
  rw [cst_bind hu]
  dsimp only
  rw [if_pos ⟨h0, h1⟩, cst_bind hs]
  unfold part
  rw [cst_bind hag, if_neg (by simp), Nat.mul_one, hv]
  rfl
end
section
variable {P : Program} {f : FuncId} {n : Nat} {R : Post} {k : List It} {l : List (Nat × Value)} {H M : Heap} {all : Array Oper} {o : Oper} {rest : List Oper}
end
theorem cst_of_run {P : Program} {α β : Type} {e : Sem α} {f : α → Sem β} : cst P (e >>= f) = (cst P e).bind fun a => cst P (f a) := by
  show cst P (e.bind f) = _
  induction e with
  | pure x => rfl
  | program k ih => exact ih _
  | mark m k ih => exact ih
  | _ => rfl
def fillS (pl : List (Nat × Nat)) (cells : Array Value) : List (Nat × Value) → Option (Array Value)
  | [] => some cells
  | (i, v) :: rest => match pl[i]? with
    | none => none
    | some (off, size) => if v.cells.size ≠ size || off + v.cells.size > cells.size then none else fillS pl (setL cells off v.cells.toList) rest
theorem setL_fold : ∀ (vs : List Value) (cells : Array Value) (off k : Nat), (vs.zipIdx k).foldl (fun cs (x : Value × Nat) => cs.setIfInBounds (off + x.2) x.1) cells = setL cells (off + k) vs
  | [], cells, off, k => rfl
  | v :: r, cells, off, k => by
    simp only [List.zipIdx_cons, List.foldl_cons, setL]
    rw [setL_fold r _ off (k + 1)]; rfl
theorem fill_eq (pl : List (Nat × Nat)) : ∀ (ps : List (Nat × Value)) (cells : Array Value), Instr.fill (fun i => pl[i]?) cells ps = fillS pl cells ps
  | [], cells => rfl
  | (i, v) :: r, cells => by
    unfold Instr.fill fillS
    cases pl[i]? with
    | none => rfl
    | some p =>
      obtain ⟨off, size⟩ := p
      dsimp only
      split
      · rfl
      · rw [fill_eq pl r]
        congr 1
        have := setL_fold v.cells.toList cells off 0
        rw [Nat.add_zero] at this
        rw [← this, ← Array.foldl_toList, Array.toList_zipIdx]
def placesOf (P : Program) : List Field → Option (List (Nat × Nat))
  | [] => some []
  | f :: r => match cst P (sizeOf f.type), placesOf P r with
    | some m, some l => some ((f.offset, m) :: l)
    | _, _ => none
theorem placesOf_ok {P : Program} : ∀ (fs : List Field) {l : List (Nat × Nat)}, placesOf P fs = some l → cst P (fs.mapM fun f => do pure (f.offset, ← sizeOf f.type)) = some l
  | [], l, h => by simp only [placesOf, Option.some.injEq] at h; subst h; rfl
  | f :: r, l, h => by
    simp only [placesOf] at h
    cases h1 : cst P (sizeOf f.type) with
    | none => simp [h1] at h
    | some m =>
      cases h2 : placesOf P r with
      | none => simp [h1, h2] at h
      | some l2 =>
        simp only [h1, h2, Option.some.injEq] at h
        subst h
        have ih := placesOf_ok r h2
        rw [List.mapM_cons]
        rw [cst_of_run, cst_of_run, h1]
        simp only [Option.bind_some]
        show cst P ((r.mapM (fun f => do pure (f.offset, ← sizeOf f.type))) >>= fun x => pure ((f.offset, m) :: x)) = _
        rw [cst_of_run, ih]; rfl
class BD (P : Program) (t : Nat) (z : outParam (Array Value)) (pl : outParam (List (Nat × Nat))) : Prop where
  h : ∃ v fs, cst P (zeroValue t) = some v ∧ v.cells = z ∧ cst P (underlying t) = some (.struct fs) ∧ placesOf P fs.toList = some pl
theorem cst_build {P : Program} {t : Nat} {z : Array Value} {pl : List (Nat × Nat)} (b : BD P t z pl) (ps : List (Nat × Value)) {cells : Array Value} (hf : fillS pl z ps = some cells) :
    cst P (Instr.build t ps.toArray) = some (.agg cells) := by
  obtain ⟨v, fs, hz, rfl, hu, hp⟩ := b.h
  unfold Instr.build
  rw [cst_bind hz, cst_bind hu]
  dsimp only
  rw [Array.mapM_eq_mapM_toList, map_eq_pure_bind, bind_assoc, cst_bind (placesOf_ok _ hp), pure_bind]
  have : (fun x : Nat => pl.toArray[x]?) = fun i => pl[i]? := by funext i; simp
  rw [this, fill_eq, hf]
  rfl
section
variable {P : Program} {f : FuncId} {n : Nat} {R : Post} {k : List It} {l : List (Nat × Value)} {H M : Heap} {all : Array Oper} {rest : List Oper}
theorem qs_bd {t : TypeId} {e : Nat → Value} {ps : List (Nat × Operand)} {d : Option Nat} {oty : TypeId} {pos : String} {af : Array Edge} {g : Option (Nat × Bool)} {z : Array Value} {pl : List (Nat × Nat)} [b : BD P t z pl] {cells : Array Value}
    (hf : fillS pl z (ps.map fun x => (x.1, ev e x.2)) = some cells) : Qs P ⟨d, .build t ps.toArray, oty, pos, af, g⟩ e H M (.agg cells) := by
  refine qt_cst ?_
  show cst P (Instr.build t (ps.toArray.map fun x => (x.1, ev e x.2)) >>= fun v => pure (Next.value v)) = _
  rw [List.map_toArray, cst_bind (cst_build b _ hf)]
  rfl
end
end Go.Cam
/- The same rules inside a region that draws its order: its looking part, its tail. -/
namespace Go.Cam
section
variable {P : Program} {n : Nat} {l l2 : List (Nat × Value)} {H M : Heap} {all : Array Oper} {rest : List Oper} {K : List (Nat × Value) → Heap → Heap → Prop}
end
inductive RV (P : Program) (H M : Heap) (e : Nat → Value) : List ResultVar → List Value → Prop
  | nil : RV P H M e [] []
  | tmp {t r vs} (v : Value) : e t = v → RV P H M e r vs → RV P H M e (.tmp t :: r) (v :: vs)
  | cell {a t r vs} (b off m : Nat) {c : Array Value} {ty : TypeId} {fr : Nat × Nat} (us : Array Value) : e a = .pointer (some ⟨b, off, none⟩) → cst P (isAgg t) = some true → cst P (sizeOf t) = some m → Kn H M b (.cells c ty fr) →
      off + m ≤ c.size → c.extract off (off + m) = us → RV P H M e r vs → RV P H M e (.cell a t :: r) (.agg us :: vs)
theorem loadVar_known {P : Program} {H M : Heap} {t : TypeId} {b off n : Nat} {c : Array Value} {ty : TypeId} {fr : Nat × Nat} {vs : Array Value} {w0 w : World} (hh : Has w0 w H M)
    (hag : cst P (isAgg t) = some true) (hs : cst P (sizeOf t) = some n) (hb : Kn H M b (.cells c ty fr)) (hl : off + n ≤ c.size) (hv : c.extract off (off + n) = vs) : (loadVar t ⟨b, off, none⟩).run P w = .ok (.agg vs) w := by
  unfold loadVar
  rw [hm_run_bind _ _ w (cst_run _ hag w), if_pos rfl, hm_run_bind _ _ w (cst_run _ hs w)]
  have h2 : (loadCells ⟨b, off, none⟩ n).run P w = .ok vs w := by
    have := loadCells_known (P := P) hh hb n 0 #[] (by omega)
    simp only [Nat.add_zero, Array.empty_append, hv] at this
    exact this
  rw [hm_run_bind _ _ w h2]; rfl
theorem RV.run {P : Program} {H M : Heap} {e : Nat → Value} {r : List ResultVar} {vs : List Value} (h : RV P H M e r vs) {w0 w : World} (hh : Has w0 w H M) : (resL e r).run P w = .ok vs w := by
  induction h with
  | nil => rfl
  | tmp v hv _ ih =>
    show (resL e _ >>= fun vs => pure (e _ :: vs)).run P w = _
    rw [hm_run_bind _ _ w ih, hv]; rfl
  | cell b off m us ha hag hs hb hl hv _ ih =>
    show ((asAddr (e _) >>= fun x => loadVar _ x) >>= fun v => resL e _ >>= fun vs => pure (v :: vs)).run P w = _
    rw [ha]
    have h1 : (asAddr (.pointer (some ⟨b, off, none⟩)) >>= fun x => loadVar _ x).run P w = .ok (.agg us) w := loadVar_known hh hag hs hb hl hv
    rw [hm_run_bind _ _ w h1, hm_run_bind _ _ w ih]; rfl
def resv : List Value → Value
  | [v] => v
  | vs => .tuple vs.toArray
theorem run_retv {P : Program} {f : FuncId} {n : Nat} {R : Post} {k : List It} {l : List (Nat × Value)} {H M : Heap} {fn : Func} {rs : List ResultVar} (vs : List Value) (hf : P.funcs[f]? = some fn) (hrs : fn.results.toList = rs)
    (hr : ∀ j, RV P H M (mk l j) rs vs) (hR : R (resv vs) H M) : Run P f n R (.code .ret :: k) l H M := by
  refine run_ret hf (fun j w0 w hh => ?_) hR
  unfold resE
  rw [hrs, hm_run_bind _ _ w ((hr j).run hh)]
  match vs with
  | [] => rfl
  | [v] => rfl
  | _ :: _ :: _ => rfl
def Ch (bs : List Nat) (M M' : Heap) : Prop := ∀ c o, c ∉ bs → M c = some o → M' c = some o
theorem Ch.refl (bs : List Nat) (M : Heap) : Ch bs M M := fun _ _ _ h => h
theorem Ch.trans {bs : List Nat} {M M1 M2 : Heap} (a : Ch bs M M1) (b : Ch bs M1 M2) : Ch bs M M2 := fun c o hc h => b c o hc (a c o hc h)
theorem Ch.mono {bs bs' : List Nat} {M M' : Heap} (h : Ch bs M M') (hs : ∀ c, c ∈ bs → c ∈ bs') : Ch bs' M M' := fun c o hc => h c o fun hm => hc (hs c hm)
theorem Ch.new {bs : List Nat} {M M1 H : Heap} (a : Ch bs M M1) {r : Nat} (hr : Fresh H M1 r) (o : Obj) : Ch bs M (upd M1 r o) := fun c o' hc h => hr.old (a c o' hc h)
theorem Ch.st {bs : List Nat} {M M1 : Heap} (a : Ch bs M M1) {b : Nat} (hb : b ∈ bs) (o : Obj) : Ch bs M (upd M1 b o) := fun c o' hc h => by
  rw [upd_ne (fun e => hc (by rw [e]; exact hb))]; exact a c o' hc h
/-- a store into a block that was not there at the beginning -/
theorem Ch.box {bs : List Nat} {M M1 : Heap} (a : Ch bs M M1) {r : Nat} (hr : ∀ o, M r ≠ some o) (o : Obj) : Ch bs M (upd M1 r o) := fun c o' hc h => by
  rw [upd_ne (fun e : c = r => hr o' (by rw [← e]; exact h))]; exact a c o' hc h
/-- a block that is new at a later time was not there at the beginning, if it is none of those that changed -/
theorem Ch.none {bs : List Nat} {M M1 H : Heap} (a : Ch bs M M1) {r : Nat} (hr : Fresh H M1 r) (hb : r ∉ bs) : ∀ o, M r ≠ some o := fun o h => by
  have := a r o hb h; rw [hr.2] at this; cases this
theorem Fresh.none {M H : Heap} {r : Nat} (hr : Fresh H M r) : ∀ o, M r ≠ some o := fun o h => by rw [hr.2] at h; cases h
/-- a block came; a block was written -/
def New (M : Heap) (r : Nat) (M1 : Heap) : Prop := ∀ c o, M c = some o → M1 c = some o ∧ c ≠ r
def Put (M : Heap) (b : Nat) (M1 : Heap) : Prop := ∀ c o, c ≠ b → M c = some o → M1 c = some o
theorem New.none {bs : List Nat} {M0 M M1 : Heap} {r : Nat} (a : Ch bs M0 M) (k : New M r M1) (hb : r ∉ bs) : ∀ o, M0 r ≠ some o := fun o h => (k r o (a r o hb h)).2 rfl
section
variable {P : Program} {f : FuncId} {n : Nat} {R : Post} {k : List It} {l : List (Nat × Value)} {H M : Heap} {all : Array Oper} {rest : List Oper} {K : List (Nat × Value) → Heap → Heap → Prop}
end
theorem wrap_id {x : Int} (h0 : -9223372036854775808 ≤ x) (h1 : x < 9223372036854775808) : IntKind.i64.wrap x = x := by
  simp [IntKind.wrap, IntKind.bits, IntKind.signed]; omega
end Go.Cam
/- Slices of one's own: made, appended to. -/
namespace Go.Cam
section
variable {P : Program} {H M : Heap} {α : Type}
theorem hm_choose {q : Question} {K : Nat → Heap → Heap → Prop} (h : ∀ t, (q.forced = true → t = 0) → (q.forced = false → ∃ s, t = q.cut s) → K t H M) : hm P (choose q) H M K := by
  intro w0 w hh
  by_cases hf : q.forced = true
  · exact ⟨0, w, H, M, by show (Sem.choose q Sem.pure).run P w = _; simp only [Sem.run, hf, if_true], hh, h 0 (fun _ => rfl) (fun h2 => by rw [hf] at h2; cases h2)⟩
  · refine ⟨q.cut (w.tape w.drawn q), { w with drawn := w.drawn + 1 }, H, M, ?_, hh.drew, h _ (fun h2 => absurd h2 hf) (fun _ => ⟨_, rfl⟩)⟩
    show (Sem.choose q Sem.pure).run P w = _
    simp only [Sem.run, hf]; rfl
theorem hm_newRow {e : TypeId} {cells : Array Value} {K : Addr → Heap → Heap → Prop} (h : ∀ r, Fresh H M r → K ⟨r, 0, none⟩ H (upd M r (.cells cells e))) : hm P (newRow e cells) H M K := by
  intro w0 w hh
  exact ⟨⟨w.heap.size, 0, none⟩, _, H, _, rfl, hh.push _, h _ hh.fresh⟩
theorem hm_loadCells {b off n : Nat} {c : Array Value} {ty : TypeId} {fr : Nat × Nat} {K : Array Value → Heap → Heap → Prop} (hb : Kn H M b (.cells c ty fr)) (hl : off + n ≤ c.size) (h : K (c.extract off (off + n)) H M) :
    hm P (loadCells ⟨b, off, none⟩ n) H M K := by
  intro w0 w hh
  refine ⟨_, w, H, M, ?_, hh, h⟩
  have := loadCells_known (P := P) hh hb n 0 #[] (by omega)
  simp only [Nat.add_zero, Array.empty_append] at this
  exact this
theorem hm_storeCells {b off : Nat} {c : Array Value} {ty : TypeId} {vs : List Value} {K : Unit → Heap → Heap → Prop} (hb : M b = some (.cells c ty (0, 0))) (hl : off + vs.length ≤ c.size) (h1 : vs.all one = true)
    (h : K () H (upd M b (.cells (setL c off vs) ty (0, 0)))) : hm P (storeCells ⟨b, off, none⟩ vs) H M K := by
  intro w0 w hh
  obtain ⟨w', hr, hw'⟩ := storeCells_known (P := P) (off := off) vs w c M 0 hh hb (by omega) (fun j _ _ h => by omega) (fun u hu => List.all_eq_true.1 h1 u hu)
  exact ⟨(), w', H, _, hr, by simpa using hw', h⟩
theorem hm_askRoom {b : Nat} {K : Unit → Heap → Heap → Prop} (h : K () H M) : hm P (askRoom b) H M K := by
  unfold askRoom
  split
  · exact hm_cst rfl h
  · exact hm_pure h
end
/-- a slice of one's own: nothing yet, or the head of a block that is owned; xs: its cells -/
def Own (M : Heap) (e sz : Nat) (v : Value) (xs : List Value) : Prop :=
  (v = .slice none 0 0 ∧ xs = []) ∨ ∃ b len cap cs, v = .slice (some ⟨b, 0, none⟩) len cap ∧ xs.length = len * sz ∧ cs.size = cap * sz ∧ len ≤ cap ∧ M b = some (.cells cs e (0, 0)) ∧ cs.toList.take xs.length = xs
def ob : Value → Option Nat
  | .slice (some a) _ _ => some a.block
  | _ => none
/-- what an append leaves of the other blocks -/
def App (M : Heap) (v : Value) (M' : Heap) (v' : Value) : Prop := ∀ c o, ob v ≠ some c → M c = some o → M' c = some o ∧ ob v' ≠ some c
theorem Own.frame {M M' : Heap} {e sz : Nat} {v : Value} {xs : List Value} (h : Own M e sz v xs) (hk : ∀ c o, ob v = some c → M c = some o → M' c = some o) : Own M' e sz v xs := by
  rcases h with h | ⟨b, len, cap, cs, rfl, h1, h2, h3, h4, h5⟩
  · exact .inl h
  · exact .inr ⟨b, len, cap, cs, rfl, h1, h2, h3, hk _ _ rfl h4, h5⟩
theorem Own.len {M : Heap} {e sz : Nat} {v : Value} {xs : List Value} (h : Own M e sz v xs) (n : Nat) (hn : xs.length = n * sz) (hz : 0 < sz) : ∃ a cap, v = .slice a n cap := by
  rcases h with ⟨rfl, rfl⟩ | ⟨b, len, cap, cs, rfl, h1, h2, h3, h4, h5⟩
  · have : n = 0 := by
      rw [List.length_nil] at hn
      rcases Nat.eq_zero_or_pos n with h | h
      · exact h
      · have := Nat.mul_pos h hz; omega
    subst this; exact ⟨none, 0, rfl⟩
  · have : len = n := Nat.eq_of_mul_eq_mul_right hz (h1 ▸ hn)
    subst this; exact ⟨_, _, rfl⟩
theorem growBy_le (need : Nat) : ∀ (r c : Nat), c ≤ 2 * need + 1024 → Builtin.growBy need r c ≤ 2 * need + 1024
  | 0, c, h => h
  | r + 1, c, h => by
    unfold Builtin.growBy
    split
    · exact h
    · exact growBy_le need r _ (by omega)
theorem nextslicecap_le (need old : Nat) (h : old ≤ need) : Builtin.nextslicecap need old ≤ 2 * need + 1024 := by
  unfold Builtin.nextslicecap
  split
  · omega
  · split
    · omega
    · exact growBy_le need 4 old (by omega)
section
variable {P : Program} {H M : Heap}
/-- append of m elements that lie in a block that is known -/
theorem hm_append {t e sz bytes m c : Nat} {s : Value} {xs ys : List Value} {bx offx : Nat} {cx : Array Value} {tx : TypeId} {fx : Nat × Nat} {i : TypeInfo} {z : Value} {K : Value → Heap → Heap → Prop}
    (hu : cst P (underlying t) = some (.slice e)) (hs : cst P (sizeOf e) = some sz) (hi : cst P (typeInfo e) = some i) (hby : i.bytes = bytes) (hb0 : 0 < bytes) (hz : cst P (zeroValue e) = some z) (hzs : z.cells.size = sz) (hsz : 0 < sz)
    (hown : Own M e sz s xs) (hx : Kn H M bx (.cells cx tx fx)) (hy : cx.extract offx (offx + m * sz) = ys.toArray) (hyl : offx + m * sz ≤ cx.size) (hys : ys.length = m * sz) (h1 : ys.all one = true)
    (hroom : (xs.length / sz + m + 512) * bytes ≤ 140737488355328)
    (h : ∀ v' M', Own M' e sz v' (xs ++ ys) → App M s M' v' → K v' H M') :
    hm P (Builtin.append_ #[t, t] t #[s, .slice (some ⟨bx, offx, none⟩) m c]) H M K := by
  have hfirst : ∀ (K : Array Value → Heap → Heap → Prop), K ys.toArray H M → hm P (Builtin.firstCells sz m (.slice (some ⟨bx, offx, none⟩) m c)) H M K := by
    intro K hk
    show hm P (loadCells ⟨bx, offx, none⟩ (m * sz)) H M K
    exact hm_loadCells hx hyl (by rw [hy]; exact hk)
  -- the slice's own parts
  obtain ⟨base, len, cap, hv, hlen, hcap, hpart⟩ : ∃ base len cap, s = .slice base len cap ∧ xs.length = len * sz ∧ len ≤ cap ∧
      ((base = none ∧ len = 0 ∧ cap = 0 ∧ xs = []) ∨ ∃ b cs, base = some ⟨b, 0, none⟩ ∧ cs.size = cap * sz ∧ M b = some (.cells cs e (0, 0)) ∧ cs.toList.take xs.length = xs) := by
    rcases hown with ⟨rfl, rfl⟩ | ⟨b, len, cap, cs, rfl, a1, a2, a3, a4, a5⟩
    · exact ⟨none, 0, 0, rfl, by simp, Nat.le_refl _, .inl ⟨rfl, rfl, rfl, rfl⟩⟩
    · exact ⟨_, len, cap, rfl, a1, a3, .inr ⟨b, cs, rfl, a2, a4, a5⟩⟩
  subst hv
  have hdiv : xs.length / sz = len := by rw [hlen]; exact Nat.mul_div_cancel _ hsz
  rw [hdiv] at hroom
  unfold Builtin.append_
  simp only [List.getElem?_toArray, List.getElem?_cons_zero, List.getElem?_cons_succ]
  refine hm_bind (hm_cst hu ?_)
  dsimp only
  refine hm_bind (hm_cst hs ?_)
  refine hm_bind (hm_cst hu ?_)
  dsimp only
  refine hm_bind (hm_pure ?_)
  simp only [Bool.false_eq_true, if_false, Bool.not_false, if_true]
  refine hm_bind (hm_pure ?_)
  by_cases hfit : len + m ≤ cap
  · rw [if_pos hfit]
    refine hm_bind (hfirst _ ?_)
    rcases hpart with ⟨rfl, rfl, rfl, rfl⟩ | ⟨b, cs, rfl, a2, a4, a5⟩
    · have hm0 : m = 0 := by omega
      subst hm0
      have hy0 : ys = [] := by simpa using hys
      subst hy0
      refine hm_bind (hm_pure (hm_pure (h _ M ?_ ?_)))
      · exact .inl ⟨rfl, rfl⟩
      · exact fun c o _ hc => ⟨hc, by simp [ob]⟩
    · have hle : (len + m) * sz ≤ cap * sz := Nat.mul_le_mul_right _ hfit
      rw [Nat.add_mul] at hle
      refine hm_bind ?_
      dsimp only
      rw [addr_add]
      refine hm_storeCells a4 (by simp only [Nat.zero_add, hys, a2]; exact hle) h1 (hm_pure (h _ _ ?_ ?_))
      · refine .inr ⟨b, len + m, cap, _, rfl, by rw [List.length_append, hlen, hys, Nat.add_mul], by rw [setL_size]; exact a2, hfit, upd_same _ _ _, ?_⟩
        apply List.ext_getElem?
        intro q
        rw [List.getElem?_take]
        have hz2 : ∀ q : Nat, (setL cs (0 + len * sz) ys).toList[q]? = (setL cs (0 + len * sz) ys)[q]? := fun q => Array.getElem?_toList
        rw [hz2]
        by_cases hq : q < (xs ++ ys).length
        · rw [if_pos hq]
          simp only [List.length_append, hlen, hys] at hq
          rw [setL_get _ _ _ _ (by rw [a2]; omega)]
          by_cases hq2 : q < len * sz
          · rw [if_neg (by omega), List.getElem?_append_left (by omega)]
            have := congrArg (fun l => l[q]?) a5
            simp only [List.getElem?_take, hlen, hq2, if_true] at this
            simpa using this
          · rw [if_pos (by omega), List.getElem?_append_right (by omega), hlen, Nat.zero_add]
        · rw [if_neg hq, List.getElem?_eq_none (by omega)]
      · intro c' o hc ho
        have hne : c' ≠ b := fun e' => hc (by rw [e']; rfl)
        exact ⟨by rw [upd_ne hne]; exact ho, fun e' => hc e'⟩
  · rw [if_neg hfit]
    refine hm_bind (hm_cst hi ?_)
    rw [if_neg (by simp [hby]; omega)]
    refine hm_bind (hm_cst hi ?_)
    have hns := nextslicecap_le (len + m) cap (by omega)
    have hle : Builtin.nextslicecap (len + m) cap * i.bytes ≤ 2 ^ 48 := by
      rw [hby]
      have h2 : Builtin.nextslicecap (len + m) cap * bytes ≤ (2 * (len + m) + 1024) * bytes := Nat.mul_le_mul_right _ hns
      have h3 : (2 * (len + m) + 1024) * bytes = 2 * ((len + m + 512) * bytes) := by rw [show 2 * (len + m) + 1024 = 2 * (len + m + 512) from by omega, Nat.mul_assoc]
      omega
    rw [if_neg (by omega)]
    refine hm_bind (hm_choose fun newCap _ hcut => ?_)
    obtain ⟨tt, rfl⟩ := hcut rfl
    refine hm_bind (hm_cst hi ?_)
    refine hm_bind (hm_askRoom ?_)
    have hnc : len + m ≤ (Question.appendCap (len + m) cap e).cut tt := by simp [Question.cut]
    generalize (Question.appendCap (len + m) cap e).cut tt = nc at hnc
    have hold : ∀ (K : Array Value → Heap → Heap → Prop), K xs.toArray H M → hm P (Builtin.firstCells sz len (.slice base len cap)) H M K := by
      intro K hk
      rcases hpart with ⟨rfl, rfl, rfl, rfl⟩ | ⟨b, cs, rfl, a2, a4, a5⟩
      · exact hm_pure hk
      · show hm P (loadCells ⟨b, 0, none⟩ (len * sz)) H M K
        have hle : len * sz ≤ cap * sz := Nat.mul_le_mul_right _ hcap
        refine hm_loadCells (.inl a4) (by omega) ?_
        have : cs.extract 0 (0 + len * sz) = xs.toArray := by
          apply Array.ext'
          rw [Array.toList_extract, List.extract_eq_take_drop]
          simp only [Nat.zero_add, Nat.sub_zero, List.drop_zero]
          rw [← hlen]; exact a5
        rw [this]; exact hk
    refine hm_bind (hold _ ?_)
    refine hm_bind (hfirst _ ?_)
    refine hm_bind (hm_cst hz ?_)
    refine hm_bind (hm_newRow fun r hr => hm_pure (h _ _ ?_ ?_))
    · refine .inr ⟨r, len + m, nc, _, rfl, by rw [List.length_append, hlen, hys, Nat.add_mul], ?_, hnc, upd_same _ _ _, ?_⟩
      · have hsz2 : (Builtin.zeroCells z.cells (nc - (len + m))).size = (nc - (len + m)) * sz := by simp [Builtin.zeroCells, hzs]
        simp only [Array.size_append, List.size_toArray, hlen, hys, hsz2]
        rw [← Nat.add_mul, ← Nat.add_mul]
        congr 1; omega
      · simp only [Array.toList_append, List.append_assoc]
        rw [← List.append_assoc]
        exact List.take_left' rfl
    · intro c' o hc ho
      exact ⟨hr.old ho, fun e' => by simp only [ob, Option.some.injEq] at e'; exact hr.ne ho e'.symm⟩
end
/-- what the table says of a slice's type: its element's number, cells, bytes -/
class SL (P : Program) (t : Nat) (e sz bytes : outParam Nat) : Prop where
  h : ∃ i z, cst P (underlying t) = some (.slice e) ∧ cst P (sizeOf e) = some sz ∧ cst P (typeInfo e) = some i ∧ i.bytes = bytes ∧ 0 < bytes ∧ cst P (zeroValue e) = some z ∧ z.cells.size = sz ∧ 0 < sz
section
variable {P : Program} {f : FuncId} {n : Nat} {R : Post} {k : List It} {l : List (Nat × Value)} {H M : Heap} {all : Array Oper} {rest : List Oper}
theorem hm_app {t e sz bytes m c : Nat} [sl : SL P t e sz bytes] {s : Value} {xs : List Value} (ys : List Value) {bx offx : Nat} {cx : Array Value} {tx : TypeId} {fx : Nat × Nat} {K : Value → Heap → Heap → Prop}
    (hown : Own M e sz s xs) (hx : Kn H M bx (.cells cx tx fx)) (hy : cx.extract offx (offx + m * sz) = ys.toArray) (hyl : offx + m * sz ≤ cx.size) (hys : ys.length = m * sz) (h1 : ys.all one = true)
    (hroom : (xs.length / sz + m + 512) * bytes ≤ 140737488355328) (h : ∀ v' M', Own M' e sz v' (xs ++ ys) → App M s M' v' → K v' H M') :
    hm P (Builtin.append_ #[t, t] t #[s, .slice (some ⟨bx, offx, none⟩) m c]) H M K := by
  obtain ⟨i, z, hu, hs, hi, hby, hb0, hz, hzs, hsz⟩ := sl.h
  exact hm_append hu hs hi hby hb0 hz hzs hsz hown hx hy hyl hys h1 hroom h
end
def fillG (place : Nat → Option (Nat × Nat)) (cells : Array Value) : List (Nat × Value) → Option (Array Value)
  | [] => some cells
  | (i, v) :: rest => match place i with
    | none => none
    | some (off, size) => if v.cells.size ≠ size || off + v.cells.size > cells.size then none else fillG place (setL cells off v.cells.toList) rest
theorem fillG_eq (place : Nat → Option (Nat × Nat)) : ∀ (ps : List (Nat × Value)) (cells : Array Value), Instr.fill place cells ps = fillG place cells ps
  | [], cells => rfl
  | (i, v) :: r, cells => by
    unfold Instr.fill fillG
    cases place i with
    | none => rfl
    | some p =>
      obtain ⟨off, size⟩ := p
      dsimp only
      split
      · rfl
      · rw [fillG_eq place r]
        congr 1
        have := setL_fold v.cells.toList cells off 0
        rw [Nat.add_zero] at this
        rw [← this, ← Array.foldl_toList, Array.toList_zipIdx]
class ZV (P : Program) (t : Nat) (z : outParam Value) : Prop where
  h : cst P (zeroValue t) = some z
theorem range_map (n : Nat) (g : Nat → Value) : (Array.range n).map g = tab n g := by
  apply Array.ext'
  simp [tab, Array.toList_range]
theorem hm_bs {P : Program} {H M : Heap} {t e sz len : Nat} {z : Value} (hu : cst P (underlying t) = some (.slice e)) (hs : cst P (sizeOf e) = some sz) (hz : cst P (zeroValue e) = some z) (hlen : 0 < len * sz) (hmax : len * sz ≤ 16777216)
    (ps : List (Nat × Value)) {cells : Array Value} {K : Value → Heap → Heap → Prop} (hf : fillG (fun i => some (i * sz, sz)) (tab (len * sz) fun i => z.cells[i % z.cells.size]!) ps = some cells)
    (h : ∀ r, Fresh H M r → K (.slice (some ⟨r, 0, none⟩) len len) H (upd M r (.cells cells e))) : hm P (Instr.buildSlice t len ps.toArray) H M K := by
  unfold Instr.buildSlice
  refine hm_bind (hm_cst hu ?_)
  dsimp only
  refine hm_bind (hm_cst hs ?_)
  rw [if_neg (by omega), if_neg (by omega)]
  refine hm_bind (hm_cst hz ?_)
  refine hm_bind (hm_pure ?_)
  rw [range_map, fillG_eq, hf]
  dsimp only
  exact hm_bind (hm_newRow fun r hr => hm_pure (h r hr))
section
variable {P : Program} {f : FuncId} {n : Nat} {R : Post} {k : List It} {l : List (Nat × Value)} {H M : Heap} {all : Array Oper} {rest : List Oper}
end
theorem qs_ixA {P : Program} {H M : Heap} {o : Oper} {e : Nat → Value} {t : TypeId} {x y : Operand} {m : Nat} {elem : TypeId} {sz : Nat} {cs : Array Value} {kd : IntKind} {i : Int} {vs : Array Value} (ho : o.op = .index t x y) (hx : ev e x = .agg cs) (hy : ev e y = .int kd i)
    (hu : cst P (underlying t) = some (.array m elem)) (hs : cst P (sizeOf elem) = some sz) (hag : cst P (isAgg elem) = some true) (h0 : 0 ≤ i) (h1 : i < m) (hv : cs.extract (i.toNat * sz) (i.toNat * sz + sz) = vs) : Qs P o e H M (.agg vs) := by
  refine qt_exec (s := Instr.index t (ev e x) (ev e y)) (by unfold execOp; rw [ho]) fun w0 w _ => ?_
  rw [hx, hy]
  refine cst_run _ ?_ w
  unfold Instr.index
  rw [cst_bind (show cst P (asIntOf (.int kd i)) = some (kd, i) from rfl)]
  dsimp only
  rw [cst_bind hu]
  dsimp only
  rw [if_pos ⟨h0, h1⟩, cst_bind hs]
  unfold part
  rw [cst_bind hag, if_pos rfl, cst_bind hs, hv]
  rfl
end Go.Cam
