/- Memory: what is loaded, stored, made; rows of cells as functions of their places. -/
import Derived.Test.YtgbbcpfnmkeijaaGreatCamB
namespace Go.Cam
section
variable {P : Program} {H M : Heap} {α : Type}
theorem run_load_known {w0 w : World} (hh : Has w0 w H M) {b off : Nat} {c : Array Value} {ty : TypeId} {fr : Nat × Nat} {v : Value}
    (hb : Kn H M b (.cells c ty fr)) (hv : c[off]? = some v) (m : Mode) (kk : Value → Sem α) :
    (Sem.load m ⟨b, off, none⟩ kk).run P w = (kk v).run P w := by
  have hc : w.cell? ⟨b, off, none⟩ = some v := by
    have h1 := hh.look hb
    unfold World.cell?
    simp only [h1]
    simpa using hv
  simp only [Sem.run, hc]
theorem addr_add (b off n : Nat) : (⟨b, off, none⟩ : Addr).add n = ⟨b, off + n, none⟩ := by
  unfold Addr.add; split
  · rename_i h; subst h; rfl
  · rfl
theorem loadCells_known {w0 w : World} (hh : Has w0 w H M) {b off : Nat} {c : Array Value} {ty : TypeId} {fr : Nat × Nat}
    (hb : Kn H M b (.cells c ty fr)) : ∀ (n i : Nat) (acc : Array Value), off + i + n ≤ c.size →
    (loadCellsFrom ⟨b, off, none⟩ i n acc).run P w = .ok (acc ++ c.extract (off + i) (off + i + n)) w
  | 0, i, acc, _ => by
    show Result.ok acc w = _
    simp
    omega
  | n + 1, i, acc, hl => by
    have hlt : off + i < c.size := by omega
    have h1 : (loadCellsFrom ⟨b, off, none⟩ i (n + 1) acc) = Sem.load .plain ((⟨b, off, none⟩ : Addr).add i) (fun v => loadCellsFrom ⟨b, off, none⟩ (i + 1) n (acc.push v)) := rfl
    rw [h1, addr_add, run_load_known hh hb (v := c[off + i]) (by simp [hlt]), loadCells_known hh hb n (i + 1) _ (by omega)]
    congr 1
    apply Array.ext'
    simp only [Array.toList_append, Array.toList_push, Array.toList_extract, List.append_assoc]
    congr 1
    have e1 : off + i + (n + 1) = off + (i + 1) + n := by omega
    rw [e1]
    simp only [List.extract_eq_take_drop]
    have e2 : off + (i + 1) + n - (off + i) = n + 1 := by omega
    have e3 : off + (i + 1) + n - (off + (i + 1)) = n := by omega
    rw [e2, e3]
    have : c.toList.drop (off + i) = c[off + i] :: c.toList.drop (off + (i + 1)) := by
      rw [List.drop_eq_getElem_cons (by simpa using hlt)]; rfl
    rw [this]; rfl
theorem qt_ld1 {o : Oper} {e : Nat → Value} {t : TypeId} {x : Operand} {b off : Nat} {c : Array Value} {ty : TypeId} {fr : Nat × Nat} {v : Value} (ho : o.op = .load t x)
    (hx : ev e x = .pointer (some ⟨b, off, none⟩)) (hag : cst P (isAgg t) = some false) (hb : Kn H M b (.cells c ty fr)) (hv : c[off]? = some v) : Qs P o e H M v := by
  intro w0 w hh
  have h1 : (Instr.loadAt t (ev e x)).run P w = .ok v w := by
    rw [hx]
    show (loadVar t ⟨b, off, none⟩).run P w = _
    unfold loadVar
    rw [hm_run_bind _ _ w (cst_run _ hag w)]
    exact run_load_known hh hb hv _ _
  have : (execOp (ev e) o).run P w = .ok (.value v) w := by
    unfold execOp; rw [ho]
    show (Instr.loadAt t (ev e x) >>= fun v => pure (Next.value v)).run P w = _
    rw [hm_run_bind _ _ w h1]; rfl
  exact this
theorem qt_ldN {o : Oper} {e : Nat → Value} {t : TypeId} {x : Operand} {b off n : Nat} {c : Array Value} {ty : TypeId} {fr : Nat × Nat} {vs : Array Value} (ho : o.op = .load t x)
    (hx : ev e x = .pointer (some ⟨b, off, none⟩)) (hag : cst P (isAgg t) = some true) (hs : cst P (sizeOf t) = some n) (hb : Kn H M b (.cells c ty fr)) (hl : off + n ≤ c.size)
    (hv : c.extract off (off + n) = vs) : Qs P o e H M (.agg vs) := by
  intro w0 w hh
  have h1 : (Instr.loadAt t (ev e x)).run P w = .ok (.agg vs) w := by
    rw [hx]
    show (loadVar t ⟨b, off, none⟩).run P w = _
    unfold loadVar
    rw [hm_run_bind _ _ w (cst_run _ hag w), if_pos rfl, hm_run_bind _ _ w (cst_run _ hs w)]
    have h2 : (loadCells ⟨b, off, none⟩ n).run P w = .ok vs w := by
      have := loadCells_known (P := P) hh hb n 0 #[] (by omega)
      simp only [Nat.add_zero, Array.empty_append, hv] at this
      exact this
    rw [hm_run_bind _ _ w h2]; rfl
  have : (execOp (ev e) o).run P w = .ok (.value (.agg vs)) w := by
    unfold execOp; rw [ho]
    show (Instr.loadAt t (ev e x) >>= fun v => pure (Next.value v)).run P w = _
    rw [hm_run_bind _ _ w h1]; rfl
  exact this
/-- a value of one cell -/
def one : Value → Bool
  | .agg _ | .tuple _ => false
  | _ => true
/-- cells laid one behind the other -/
def setL (c : Array Value) (off : Nat) : List Value → Array Value
  | [] => c
  | v :: r => setL (c.setIfInBounds off v) (off + 1) r
theorem setL_size : ∀ (vs : List Value) (c : Array Value) (off : Nat), (setL c off vs).size = c.size
  | [], c, off => rfl
  | v :: r, c, off => by simp [setL, setL_size r]
theorem setL_get : ∀ (vs : List Value) (c : Array Value) (off i : Nat), i < c.size → (setL c off vs)[i]? = if off ≤ i ∧ i < off + vs.length then vs[i - off]? else c[i]?
  | [], c, off, i, _ => by simp [setL]; omega
  | v :: r, c, off, i, hi => by
    rw [setL, setL_get r _ _ _ (by simpa using hi)]
    by_cases e : i = off
    · subst e; rw [if_neg (by omega), if_pos (by simp)]; simp [hi]
    · have e2 : (c.setIfInBounds off v)[i]? = c[i]? := by rw [Array.getElem?_setIfInBounds, if_neg (fun h => e h.symm)]
      rw [e2]
      by_cases h1 : off + 1 ≤ i ∧ i < off + 1 + r.length
      · rw [if_pos h1, if_pos (by simp; omega)]
        have : i - off = (i - (off + 1)) + 1 := by omega
        rw [this, List.getElem?_cons_succ]
      · rw [if_neg h1, if_neg (by simp; omega)]
theorem storeCells_known {w0 : World} {ty : TypeId} {lo hi : Nat} {b off : Nat} : ∀ (vs : List Value) (w : World) (c : Array Value) (M : Heap) (i : Nat), Has w0 w H M → M b = some (.cells c ty (lo, hi)) →
    off + i + vs.length ≤ c.size → (∀ j, off + i ≤ j → j < off + i + vs.length → ¬ (lo ≤ j ∧ j < hi)) → (∀ v ∈ vs, one v = true) →
    ∃ w', (storeCells ⟨b, off, none⟩ vs i).run P w = .ok () w' ∧ Has w0 w' H (upd M b (.cells (setL c (off + i) vs) ty (lo, hi)))
  | [], w, c, M, i, hh, hb, _, _, _ => ⟨w, rfl, by
      have : upd M b (.cells c ty (lo, hi)) = M := by funext x; by_cases e : x = b <;> simp [upd, e, hb]
      simpa [setL, this] using hh⟩
  | v :: r, w, c, M, i, hh, hb, hl, hf, ho => by
    simp only [List.length_cons] at hl hf
    have hlt : off + i < c.size := by omega
    have hone := ho v (by simp)
    have hcell : w.cell? ⟨b, off + i, none⟩ = some c[off + i] := by
      unfold World.cell?; simp only [hh.m _ _ hb]; simp [hlt]
    have hfr : w.frozen? ⟨b, off + i, none⟩ = false := by
      unfold World.frozen?; simp only [hh.m _ _ hb]
      have := hf (off + i) (by omega) (by omega)
      simpa using this
    have h1 : (storeCells ⟨b, off, none⟩ (v :: r) i) = Sem.store .plain ((⟨b, off, none⟩ : Addr).add i) v (storeCells ⟨b, off, none⟩ r (i + 1)) := rfl
    have h2 : Has w0 (w.setCell ⟨b, off + i, none⟩ v) H (upd M b (.cells (c.setIfInBounds (off + i) v) ty (lo, hi))) := by
      have := hh.modify hb (fun | .cells c elem frozen => .cells (c.setIfInBounds (off + i) v) elem frozen | o => o)
      exact this
    obtain ⟨w', hr, hw'⟩ := storeCells_known (b := b) (off := off) r _ (c.setIfInBounds (off + i) v) _ (i + 1) h2 (upd_same _ _ _) (by simp; omega) (fun j h1 h2 => hf j (by omega) (by omega)) (fun v hv => ho v (by simp [hv]))
    refine ⟨w', ?_, ?_⟩
    · rw [h1, addr_add]
      cases v
      case agg => simp [one] at hone
      case tuple => simp [one] at hone
      all_goals (simp only [Sem.run, hcell, hfr, Bool.false_eq_true, if_false]; exact hr)
    · have e1 : upd (upd M b (.cells (c.setIfInBounds (off + i) v) ty (lo, hi))) b (.cells (setL (c.setIfInBounds (off + i) v) (off + (i + 1)) r) ty (lo, hi)) = upd M b (.cells (setL c (off + i) (v :: r)) ty (lo, hi)) := by
        funext x; by_cases e : x = b <;> simp [upd, e, setL, Nat.add_assoc]
      rwa [e1] at hw'
theorem hm_st {t : TypeId} {b off n : Nat} {c : Array Value} {ty : TypeId} {lo hi : Nat} {v : Value} {K : Unit → Heap → Heap → Prop} (hs : cst P (sizeOf t) = some n)
    (hb : M b = some (.cells c ty (lo, hi))) (hn : v.cells.toList.length = n) (hl : off + n ≤ c.size) (hf : ∀ j, off ≤ j → j < off + n → ¬ (lo ≤ j ∧ j < hi)) (h1 : ∀ u ∈ v.cells.toList, one u = true)
    (h : K () H (upd M b (.cells (setL c off v.cells.toList) ty (lo, hi)))) : hm P (Instr.storeAt t (.pointer (some ⟨b, off, none⟩)) v) H M K := by
  intro w0 w hh
  obtain ⟨w', hr, hw'⟩ := storeCells_known (P := P) (off := off) v.cells.toList w c M 0 hh hb (by omega) (fun j a b => hf j (by omega) (by omega)) h1
  refine ⟨(), w', H, _, ?_, by simpa using hw', h⟩
  show (storeVar t ⟨b, off, none⟩ v).run P w = _
  unfold storeVar
  rw [hm_run_bind _ _ w (cst_run _ hs w)]
  have : ¬ (v.cells.size ≠ n) := by simpa using hn
  rw [if_neg this]
  exact hr
end

/-! ### What the program's table says of a type: laid by instances, a row each -/
class FO (P : Program) (s fld : Nat) (fo : outParam Nat) : Prop where
  h : ∀ a, cst P (Instr.fieldAt s (.pointer (some a)) fld) = some (.pointer (some (a.add fo)))
class SZ (P : Program) (t : Nat) (m : outParam Nat) : Prop where
  h : cst P (sizeOf t) = some m
class AG (P : Program) (t : Nat) (b : outParam Bool) : Prop where
  h : cst P (isAgg t) = some b
class AR (P : Program) (t : Nat) (m e : outParam Nat) : Prop where
  h : cst P (underlying t) = some (.array m e)
class SC (P : Program) (t : Nat) (e : outParam Nat) : Prop where
  h : cst P (underlying t) = some (.slice e)
section
variable {P : Program} {f : FuncId} {n : Nat} {R : Post} {k : List It} {l : List (Nat × Value)} {H M : Heap} {all : Array Oper} {o : Oper} {rest : List Oper}
/-- one cell is loaded -/
theorem run_ld {d : Nat} {oty : TypeId} {pos : String} {af : Array Edge} {g : Option (Nat × Bool)} {t : TypeId} {x : Operand} (b off : Nat) {c : Array Value} {ty : TypeId} {fr : Nat × Nat} (v : Value) (hd : Nat.blt d n = true) (hw : ∀ j, wantE ⟨some d, .load t x, oty, pos, af, g⟩ all (mk l j) = true)
    (hx : ∀ j, ev (mk l j) x = .pointer (some ⟨b, off, none⟩)) [hag : AG P t false] (hb : Kn H M b (.cells c ty fr)) (hv : c[off]? = some v)
    (h : Run P f n R (.ops all rest :: k) ((d, v) :: l) H M) : Run P f n R (.ops all (⟨some d, .load t x, oty, pos, af, g⟩ :: rest) :: k) l H M :=
  run_qt v (by exact hd) hw (fun j => (qt_ld1 rfl (hx j) hag.h hb hv).qt) h
theorem run_ldN {d : Nat} {oty : TypeId} {pos : String} {af : Array Edge} {g : Option (Nat × Bool)} {t : TypeId} {x : Operand} (b off m : Nat) {c : Array Value} {ty : TypeId} {fr : Nat × Nat} (vs : Array Value) (hd : Nat.blt d n = true) (hw : ∀ j, wantE ⟨some d, .load t x, oty, pos, af, g⟩ all (mk l j) = true)
    (hx : ∀ j, ev (mk l j) x = .pointer (some ⟨b, off, none⟩)) [hag : AG P t true] [hs : SZ P t m] (hb : Kn H M b (.cells c ty fr)) (hl : off + m ≤ c.size)
    (hv : c.extract off (off + m) = vs) (h : Run P f n R (.ops all rest :: k) ((d, .agg vs) :: l) H M) : Run P f n R (.ops all (⟨some d, .load t x, oty, pos, af, g⟩ :: rest) :: k) l H M :=
  run_qt (.agg vs) (by exact hd) hw (fun j => (qt_ldN rfl (hx j) hag.h hs.h hb hl hv).qt) h
theorem run_st {oty : TypeId} {pos : String} {af : Array Edge} {g : Option (Nat × Bool)} {t : TypeId} {x y : Operand} (b off m : Nat) {c : Array Value} {ty : TypeId} (v : Value) (c' : Array Value) (hw : ∀ j, wantE ⟨none, .store t x y, oty, pos, af, g⟩ all (mk l j) = true)
    (hx : ∀ j, ev (mk l j) x = .pointer (some ⟨b, off, none⟩)) (hy : ∀ j, ev (mk l j) y = v) [hs : SZ P t m] (hb : M b = some (.cells c ty (0, 0)))
    (hn : v.cells.toList.length = m) (hl : off + m ≤ c.size) (h1 : v.cells.toList.all one = true) (hc : setL c off v.cells.toList = c')
    (h : Run P f n R (.ops all rest :: k) l H (upd M b (.cells c' ty (0, 0)))) : Run P f n R (.ops all (⟨none, .store t x y, oty, pos, af, g⟩ :: rest) :: k) l H M := by
  refine run_hm rfl hw fun j => ?_
  show hm P (Instr.storeAt t (ev (mk l j) x) (ev (mk l j) y) >>= fun _ => pure Next.skip) H M _
  rw [hx j, hy j]
  refine hm_bind (hm_st hs.h hb hn hl (fun j _ _ h => by omega) (fun u hu => List.all_eq_true.1 h1 u hu) (hm_pure ⟨undef, .inr ⟨rfl, rfl⟩, ?_⟩))
  rw [hc]; exact h
/-- slots that are no longer wanted are forgotten -/
def agrees (e : Nat → Value) : List (Nat × Value) → Prop
  | [] => True
  | (t, v) :: r => e t = v ∧ agrees e r
theorem mk_agrees : ∀ (l : List (Nat × Value)) (e : Nat → Value), agrees e l → mk l e = e
  | [], e, _ => rfl
  | (t, v) :: r, e, h => by
    funext s
    simp only [mk]
    by_cases e' : t = s
    · subst e'; simp [h.1]
    · rw [beq_no e', cond_false, mk_agrees r e h.2]
theorem run_keep (l' : List (Nat × Value)) (hl : ∀ j, agrees (mk l j) l') (h : Run P f n R k l' H M) : Run P f n R k l H M := by
  intro j
  have := h (mk l j)
  rwa [mk_agrees _ _ (hl j)] at this
theorem run_if {c : Operand} {x y : Code} {p : Prop} [Decidable p] (hc : ∀ j, ev (mk l j) c = .bool (decide p))
    (ht : p → Run P f n R (.code x :: k) l H M) (hf : ¬ p → Run P f n R (.code y :: k) l H M) : Run P f n R (.code (.cond c x y) :: k) l H M :=
  run_cond (decide p) hc (fun h => ht (of_decide_eq_true h)) (fun h => hf (of_decide_eq_false h))
theorem run_ieq {c : Operand} {x y : Code} {p q : Int} (hc : ∀ j, ev (mk l j) c = .bool (p == q))
    (ht : p = q → Run P f n R (.code x :: k) l H M) (hf : ¬ p = q → Run P f n R (.code y :: k) l H M) : Run P f n R (.code (.cond c x y) :: k) l H M :=
  run_cond (p == q) hc (fun h => ht (by simpa using h)) (fun h => hf (by simpa using h))
theorem run_ine {c : Operand} {x y : Code} {p q : Int} (hc : ∀ j, ev (mk l j) c = .bool (p != q))
    (ht : ¬ p = q → Run P f n R (.code x :: k) l H M) (hf : p = q → Run P f n R (.code y :: k) l H M) : Run P f n R (.code (.cond c x y) :: k) l H M :=
  run_cond (p != q) hc (fun h => ht (by simpa using h)) (fun h => hf (by simpa using h))
theorem run_not {c : Operand} {x y : Code} {p : Bool} (hc : ∀ j, ev (mk l j) c = .bool (!p))
    (ht : p = false → Run P f n R (.code x :: k) l H M) (hf : p = true → Run P f n R (.code y :: k) l H M) : Run P f n R (.code (.cond c x y) :: k) l H M :=
  run_cond (!p) hc (fun h => ht (by simpa using h)) (fun h => hf (by simpa using h))
/-- the operations from number n on, proved once for all ways that come there -/
theorem run_cut {α : Type} {os : List Oper} (m : Nat) (L : α → List (Nat × Value)) (Pre : α → Prop) (K : ∀ a, Pre a → Run P f n R (.ops all (os.drop m) :: k) (L a) H M)
    (h : (∀ a, Pre a → Run P f n R (.ops all (os.drop m) :: k) (L a) H M) → Run P f n R (.ops all os :: k) l H M) : Run P f n R (.ops all os :: k) l H M := h K
end

section
variable {P : Program} {f : FuncId} {n : Nat} {R : Post} {k : List It} {l : List (Nat × Value)} {H M : Heap}
/-- a loop: what holds at its head, and a measure -/
theorem run_loopI {α : Type} {c : Code} (L : α → List (Nat × Value)) (I : α → Heap → Heap → Prop) (μ : α → Nat) (a0 : α) (hl : ∀ j, agrees (mk l j) (L a0)) (hI : I a0 H M)
    (round : ∀ a H M, I a H M → (∀ a' H' M', I a' H' M' → μ a' < μ a → Run P f n R (.inLoop c :: k) (L a') H' M') → Run P f n R (.code c :: .inLoop c :: k) (L a) H M) : Run P f n R (.code (.loop c) :: k) l H M := by
  have key : ∀ m a H M, μ a = m → I a H M → Run P f n R (.code c :: .inLoop c :: k) (L a) H M := by
    intro m
    induction m using Nat.strongRecOn with
    | _ m ih => exact fun a H M hn hI => round a H M hI fun a' H' M' hI' hlt => run_inLoop (ih (μ a') (hn ▸ hlt) a' H' M' rfl hI')
  exact run_loop (run_keep _ hl (key _ a0 H M rfl hI))
end

/-! ### Rows of cells -/
def tab (n : Nat) (f : Nat → Value) : Array Value := ((List.range n).map f).toArray
theorem tab_size (n : Nat) (f : Nat → Value) : (tab n f).size = n := by simp [tab]
theorem tab_get {n : Nat} {f : Nat → Value} {i : Nat} (h : i < n) : (tab n f)[i]? = some (f i) := by simp [tab, h]
theorem tab_ext {n : Nat} {f g : Nat → Value} (h : ∀ i, i < n → f i = g i) : tab n f = tab n g := by
  unfold tab; congr 1; exact List.map_congr_left fun i hi => h i (by simpa using hi)
theorem arr_eq_tab {n : Nat} {c : Array Value} {g : Nat → Value} (hs : c.size = n) (h : ∀ i, i < n → c[i]? = some (g i)) : c = tab n g := by
  apply Array.ext_getElem?
  intro i
  rcases Nat.lt_or_ge i n with hi | hi
  · rw [h i hi, tab_get hi]
  · rw [Array.getElem?_eq_none (by omega), Array.getElem?_eq_none (by rw [tab_size]; exact hi)]
theorem setL_tab {n : Nat} {f g : Nat → Value} {off : Nat} {vs : List Value} (h : ∀ i, i < n → (if off ≤ i ∧ i < off + vs.length then vs[i - off]? else some (f i)) = some (g i)) :
    setL (tab n f) off vs = tab n g :=
  arr_eq_tab (by rw [setL_size, tab_size]) fun i hi => by
    rw [setL_get _ _ _ _ (by rw [tab_size]; exact hi), tab_get hi]; exact h i hi
theorem setL_tab1 {n : Nat} {f g : Nat → Value} {off : Nat} {v : Value} (hg : g off = v) (h : ∀ i, i < n → i ≠ off → f i = g i) : setL (tab n f) off [v] = tab n g := by
  refine setL_tab fun i hi => ?_
  by_cases e : i = off
  · subst e; simp [hg]
  · rw [if_neg (by simp; omega), h i hi e]
theorem extract_tab {n off m : Nat} {f : Nat → Value} (h : off + m ≤ n) : (tab n f).extract off (off + m) = tab m (fun i => f (off + i)) := by
  refine arr_eq_tab (by simp [tab_size]; omega) fun i hi => ?_
  rw [Array.getElem?_extract]
  rw [if_pos (by rw [tab_size]; omega), tab_get (by omega)]

theorem tab_all {n : Nat} {f : Nat → Value} (h : ∀ i, one (f i) = true) : (tab n f).toList.all one = true := by
  simp [tab, h]
theorem setL_whole {c : Array Value} {vs : List Value} (h : c.size = vs.length) : setL c 0 vs = vs.toArray := by
  apply Array.ext_getElem?
  intro i
  rcases Nat.lt_or_ge i c.size with hi | hi
  · rw [setL_get _ _ _ _ hi, if_pos (by omega)]; simp
  · rw [Array.getElem?_eq_none (by rw [setL_size]; exact hi), Array.getElem?_eq_none (by simp; omega)]
theorem extract_whole {c : Array Value} {n : Nat} (h : c.size = n) : c.extract 0 (0 + n) = c := by
  subst h; simp
/-! ### Blocks that are new -/
theorem Fresh.ne {H M : Heap} {r b : Nat} {o : Obj} (h : Fresh H M r) (hb : M b = some o) : b ≠ r := fun e => by subst e; rw [h.2] at hb; cases hb
theorem Fresh.neH {H M : Heap} {r b : Nat} {o : Obj} (h : Fresh H M r) (hb : H b = some o) : b ≠ r := fun e => by subst e; rw [h.1] at hb; cases hb
theorem Fresh.old {H M : Heap} {r b : Nat} {o o' : Obj} (h : Fresh H M r) (hb : M b = some o) : upd M r o' b = some o := by rw [upd_ne (h.ne hb)]; exact hb
end Go.Cam
/- Places: fields, indexes; divisions; comparisons. -/
namespace Go.Cam
section
variable {P : Program} {H M : Heap} {o : Oper} {e : Nat → Value}
theorem qt_exec {v : Value} {s : Sem Value} (hs : execOp (ev e) o = (s >>= fun v => pure (Next.value v))) (h : ∀ w0 w, Has w0 w H M → s.run P w = .ok v w) : Qs P o e H M v := by
  intro w0 w hh
  rw [hs, hm_run_bind _ _ w (h w0 w hh)]
  rfl
theorem cst_bind {α β : Type} {s : Sem α} {f : α → Sem β} {a : α} (h : cst P s = some a) : cst P (s >>= f) = cst P (f a) := by
  show cst P (s.bind f) = _
  induction s with
  | pure x => simp only [cst, Option.some.injEq] at h; subst h; rfl
  | program k ih => simp only [Sem.bind, cst] at h ⊢; exact ih _ h
  | mark m k ih => simp only [Sem.bind, cst] at h ⊢; exact ih h
  | _ => simp [cst] at h
theorem qt_fa {s : TypeId} {x : Operand} {fld : Nat} {b off fo : Nat} (ho : o.op = .fieldAddr s x fld) (hx : ev e x = .pointer (some ⟨b, off, none⟩))
    (hf : ∀ a, cst P (Instr.fieldAt s (.pointer (some a)) fld) = some (.pointer (some (a.add fo)))) : Qs P o e H M (.pointer (some ⟨b, off + fo, none⟩)) := by
  refine qt_exec (s := Instr.fieldAt s (ev e x) fld) (by unfold execOp; rw [ho]) fun w0 w _ => ?_
  rw [hx, cst_run _ (hf _) w, addr_add]
theorem qt_ix {t : TypeId} {x y : Operand} {n : Nat} {elem : TypeId} {sz : Nat} {b off : Nat} {kd : IntKind} {i : Int} (ho : o.op = .indexAddr t x y) (hx : ev e x = .pointer (some ⟨b, off, none⟩)) (hy : ev e y = .int kd i)
    (hu : cst P (underlying t) = some (.array n elem)) (hs : cst P (sizeOf elem) = some sz) (h0 : 0 ≤ i) (h1 : i < n) : Qs P o e H M (.pointer (some ⟨b, off + i.toNat * sz, none⟩)) := by
  refine qt_exec (s := Instr.indexAt t (ev e x) (ev e y)) (by unfold execOp; rw [ho]) fun w0 w _ => ?_
  rw [hx, hy]
  refine cst_run _ ?_ w
  unfold Instr.indexAt
  rw [cst_bind (show cst P (asIntOf (.int kd i)) = some (kd, i) from rfl)]
  dsimp only
  rw [cst_bind hu]
  dsimp only
  rw [cst_bind (a := ⟨b, off, none⟩) (by rfl), cst_bind (a := (some ⟨b, off, none⟩, n, elem)) (by rfl)]
  dsimp only
  rw [cst_bind hu]
  dsimp only
  rw [if_pos ⟨h0, h1⟩, cst_bind hs, addr_add]
  rfl
theorem qt_ixs {t : TypeId} {x y : Operand} {n c : Nat} {elem : TypeId} {sz : Nat} {b off : Nat} {kd : IntKind} {i : Int} (ho : o.op = .indexAddr t x y) (hx : ev e x = .slice (some ⟨b, off, none⟩) n c) (hy : ev e y = .int kd i)
    (hu : cst P (underlying t) = some (.slice elem)) (hs : cst P (sizeOf elem) = some sz) (h0 : 0 ≤ i) (h1 : i < n) : Qs P o e H M (.pointer (some ⟨b, off + i.toNat * sz, none⟩)) := by
  refine qt_exec (s := Instr.indexAt t (ev e x) (ev e y)) (by unfold execOp; rw [ho]) fun w0 w _ => ?_
  rw [hx, hy]
  refine cst_run _ ?_ w
  unfold Instr.indexAt
  rw [cst_bind (show cst P (asIntOf (.int kd i)) = some (kd, i) from rfl)]
  dsimp only
  rw [cst_bind hu]
  dsimp only
  rw [cst_bind (a := (some ⟨b, off, none⟩, n, elem)) (by rfl)]
  dsimp only
  rw [cst_bind hu]
  dsimp only
  rw [if_pos ⟨h0, h1⟩, cst_bind hs, addr_add]
  rfl
/-- an element of an array's value, of one cell -/
theorem qt_ixa {t : TypeId} {x y : Operand} {n : Nat} {elem : TypeId} {cs : Array Value} {kd : IntKind} {i : Int} {v : Value} (ho : o.op = .index t x y) (hx : ev e x = .agg cs) (hy : ev e y = .int kd i)
    (hu : cst P (underlying t) = some (.array n elem)) (hs : cst P (sizeOf elem) = some 1) (hag : cst P (isAgg elem) = some false) (h0 : 0 ≤ i) (h1 : i < n) (hv : cs[i.toNat]? = some v) : Qs P o e H M v := by
  refine qt_exec (s := Instr.index t (ev e x) (ev e y)) (by unfold execOp; rw [ho]) fun w0 w _ => ?_
  rw [hx, hy]
  refine cst_run _ ?_ w
  unfold Instr.index
  rw [cst_bind (show cst P (asIntOf (.int kd i)) = some (kd, i) from rfl)]
  dsimp only
  rw [cst_bind hu]
  dsimp only
  rw [if_pos ⟨h0, h1⟩, cst_bind hs]
  unfold part
  rw [cst_bind hag, if_neg (by simp), Nat.mul_one, hv]
  rfl
theorem cst_rem {t : TypeId} {k : IntKind} {a b : Int} (hb : b ≠ 0) : cst P (binOp .rem t (.int k a) (.int k b)) = some (.int k (a.tmod b)) := by
  simp only [binOp, ne_eq, not_true_eq_false, if_false, Op.intDiv, hb, if_false]
  rfl
theorem cst_quo {t : TypeId} {k : IntKind} {a b : Int} (hb : b ≠ 0) : cst P (binOp .quo t (.int k a) (.int k b)) = some (.int k (k.wrap (a.tdiv b))) := by
  simp only [binOp, ne_eq, not_true_eq_false, if_false, Op.intDiv, hb, if_false]
  rfl
theorem qt_bin {op : BinOp} {t t2 : TypeId} {x y : Operand} {v : Value} (ho : o.op = .binOp op t x y t2) (hg : cst P (eqGuard op t x y (ev e x) (ev e y)) = some ()) (hv : cst P (binOp op t (ev e x) (ev e y)) = some v) : Qs P o e H M v := by
  refine qt_exec (s := do eqGuard op t x y (ev e x) (ev e y); binOp op t (ev e x) (ev e y)) (by unfold execOp; rw [ho]) fun w0 w _ => ?_
  refine cst_run _ ?_ w
  rw [cst_bind hg]; exact hv
end
section
variable {P : Program} {f : FuncId} {n : Nat} {R : Post} {k : List It} {l : List (Nat × Value)} {H M : Heap} {all : Array Oper} {o : Oper} {rest : List Oper}
theorem run_fa {d : Nat} {oty : TypeId} {pos : String} {af : Array Edge} {g : Option (Nat × Bool)} {s : TypeId} {x : Operand} {fld b off fo : Nat} (hd : Nat.blt d n = true) (hw : ∀ j, wantE ⟨some d, .fieldAddr s x fld, oty, pos, af, g⟩ all (mk l j) = true) (hx : ∀ j, ev (mk l j) x = .pointer (some ⟨b, off, none⟩))
    [hf : FO P s fld fo]
    (h : Run P f n R (.ops all rest :: k) ((d, .pointer (some ⟨b, off + fo, none⟩)) :: l) H M) : Run P f n R (.ops all (⟨some d, .fieldAddr s x fld, oty, pos, af, g⟩ :: rest) :: k) l H M :=
  run_qt _ (by exact hd) hw (fun j => (qt_fa rfl (hx j) hf.h).qt) h
theorem run_faz {d : Nat} {oty : TypeId} {pos : String} {af : Array Edge} {g : Option (Nat × Bool)} {s : TypeId} {x : Operand} {fld b off : Nat} (hd : Nat.blt d n = true) (hw : ∀ j, wantE ⟨some d, .fieldAddr s x fld, oty, pos, af, g⟩ all (mk l j) = true) (hx : ∀ j, ev (mk l j) x = .pointer (some ⟨b, off, none⟩))
    [hf : FO P s fld 0]
    (h : Run P f n R (.ops all rest :: k) ((d, .pointer (some ⟨b, off, none⟩)) :: l) H M) : Run P f n R (.ops all (⟨some d, .fieldAddr s x fld, oty, pos, af, g⟩ :: rest) :: k) l H M :=
  run_qt _ (by exact hd) hw (fun j => (qt_fa rfl (hx j) hf.h).qt) h
theorem run_zfa {d : Nat} {oty : TypeId} {pos : String} {af : Array Edge} {g : Option (Nat × Bool)} {s : TypeId} {x : Operand} {fld b fo : Nat} (hd : Nat.blt d n = true) (hw : ∀ j, wantE ⟨some d, .fieldAddr s x fld, oty, pos, af, g⟩ all (mk l j) = true) (hx : ∀ j, ev (mk l j) x = .pointer (some ⟨b, 0, none⟩))
    [hf : FO P s fld fo]
    (h : Run P f n R (.ops all rest :: k) ((d, .pointer (some ⟨b, fo, none⟩)) :: l) H M) : Run P f n R (.ops all (⟨some d, .fieldAddr s x fld, oty, pos, af, g⟩ :: rest) :: k) l H M :=
  run_qt _ (by exact hd) hw (fun j => (by have := qt_fa (o := ⟨some d, .fieldAddr s x fld, oty, pos, af, g⟩) (H := H) (M := M) rfl (hx j) hf.h; rw [Nat.zero_add] at this; exact this.qt)) h
theorem run_ix {d : Nat} {oty : TypeId} {pos : String} {af : Array Edge} {g : Option (Nat × Bool)} {t : TypeId} {x y : Operand} {m : Nat} {elem : TypeId} {sz b off : Nat} {kd : IntKind} {i : Int} (hd : Nat.blt d n = true) (hw : ∀ j, wantE ⟨some d, .indexAddr t x y, oty, pos, af, g⟩ all (mk l j) = true)
    (hx : ∀ j, ev (mk l j) x = .pointer (some ⟨b, off, none⟩)) (hy : ∀ j, ev (mk l j) y = .int kd i) [hu : AR P t m elem] [hs : SZ P elem sz] (h0 : 0 ≤ i) (h1 : i < m)
    (h : Run P f n R (.ops all rest :: k) ((d, .pointer (some ⟨b, off + i.toNat * sz, none⟩)) :: l) H M) : Run P f n R (.ops all (⟨some d, .indexAddr t x y, oty, pos, af, g⟩ :: rest) :: k) l H M :=
  run_qt _ (by exact hd) hw (fun j => (qt_ix rfl (hx j) (hy j) hu.h hs.h h0 h1).qt) h
theorem run_zix {d : Nat} {oty : TypeId} {pos : String} {af : Array Edge} {g : Option (Nat × Bool)} {t : TypeId} {x y : Operand} {m : Nat} {elem : TypeId} {sz b : Nat} {kd : IntKind} {i : Int} (hd : Nat.blt d n = true) (hw : ∀ j, wantE ⟨some d, .indexAddr t x y, oty, pos, af, g⟩ all (mk l j) = true)
    (hx : ∀ j, ev (mk l j) x = .pointer (some ⟨b, 0, none⟩)) (hy : ∀ j, ev (mk l j) y = .int kd i) [hu : AR P t m elem] [hs : SZ P elem sz] (h0 : 0 ≤ i) (h1 : i < m)
    (h : Run P f n R (.ops all rest :: k) ((d, .pointer (some ⟨b, i.toNat * sz, none⟩)) :: l) H M) : Run P f n R (.ops all (⟨some d, .indexAddr t x y, oty, pos, af, g⟩ :: rest) :: k) l H M :=
  run_qt _ (by exact hd) hw (fun j => (by have := qt_ix (o := ⟨some d, .indexAddr t x y, oty, pos, af, g⟩) (H := H) (M := M) rfl (hx j) (hy j) hu.h hs.h h0 h1; rw [Nat.zero_add] at this; exact this.qt)) h
theorem run_ixs {d : Nat} {oty : TypeId} {pos : String} {af : Array Edge} {g : Option (Nat × Bool)} {t : TypeId} {x y : Operand} {m c : Nat} {elem : TypeId} {sz b off : Nat} {kd : IntKind} {i : Int} (hd : Nat.blt d n = true) (hw : ∀ j, wantE ⟨some d, .indexAddr t x y, oty, pos, af, g⟩ all (mk l j) = true)
    (hx : ∀ j, ev (mk l j) x = .slice (some ⟨b, off, none⟩) m c) (hy : ∀ j, ev (mk l j) y = .int kd i) [hu : SC P t elem] [hs : SZ P elem sz] (h0 : 0 ≤ i) (h1 : i < m)
    (h : Run P f n R (.ops all rest :: k) ((d, .pointer (some ⟨b, off + i.toNat * sz, none⟩)) :: l) H M) : Run P f n R (.ops all (⟨some d, .indexAddr t x y, oty, pos, af, g⟩ :: rest) :: k) l H M :=
  run_qt _ (by exact hd) hw (fun j => (qt_ixs rfl (hx j) (hy j) hu.h hs.h h0 h1).qt) h
theorem run_ixa {d : Nat} {oty : TypeId} {pos : String} {af : Array Edge} {g : Option (Nat × Bool)} {t : TypeId} {x y : Operand} {m : Nat} {elem : TypeId} {cs : Array Value} {kd : IntKind} {i : Int} (v : Value) (hd : Nat.blt d n = true) (hw : ∀ j, wantE ⟨some d, .index t x y, oty, pos, af, g⟩ all (mk l j) = true)
    (hx : ∀ j, ev (mk l j) x = .agg cs) (hy : ∀ j, ev (mk l j) y = .int kd i) [hu : AR P t m elem] [hs : SZ P elem 1] [hag : AG P elem false]
    (h0 : 0 ≤ i) (h1 : i < m) (hv : cs[i.toNat]? = some v) (h : Run P f n R (.ops all rest :: k) ((d, v) :: l) H M) : Run P f n R (.ops all (⟨some d, .index t x y, oty, pos, af, g⟩ :: rest) :: k) l H M :=
  run_qt _ (by exact hd) hw (fun j => (qt_ixa rfl (hx j) (hy j) hu.h hs.h hag.h h0 h1 hv).qt) h
theorem run_rem {d : Nat} {oty : TypeId} {pos : String} {af : Array Edge} {g : Option (Nat × Bool)} {t t2 : TypeId} {x y : Operand} {kd : IntKind} {p q : Int} (hd : Nat.blt d n = true) (hw : ∀ j, wantE ⟨some d, .binOp .rem t x y t2, oty, pos, af, g⟩ all (mk l j) = true)
    (hx : ∀ j, ev (mk l j) x = .int kd p) (hy : ∀ j, ev (mk l j) y = .int kd q) (hq : q ≠ 0) (h : Run P f n R (.ops all rest :: k) ((d, .int kd (p.tmod q)) :: l) H M) : Run P f n R (.ops all (⟨some d, .binOp .rem t x y t2, oty, pos, af, g⟩ :: rest) :: k) l H M :=
  run_qt _ (by exact hd) hw (fun j => (qt_bin rfl rfl (by rw [hx j, hy j]; exact cst_rem hq)).qt) h
theorem run_quo {d : Nat} {oty : TypeId} {pos : String} {af : Array Edge} {g : Option (Nat × Bool)} {t t2 : TypeId} {x y : Operand} {kd : IntKind} {p q : Int} (hd : Nat.blt d n = true) (hw : ∀ j, wantE ⟨some d, .binOp .quo t x y t2, oty, pos, af, g⟩ all (mk l j) = true)
    (hx : ∀ j, ev (mk l j) x = .int kd p) (hy : ∀ j, ev (mk l j) y = .int kd q) (hq : q ≠ 0) (h : Run P f n R (.ops all rest :: k) ((d, .int kd (kd.wrap (p.tdiv q))) :: l) H M) : Run P f n R (.ops all (⟨some d, .binOp .quo t x y t2, oty, pos, af, g⟩ :: rest) :: k) l H M :=
  run_qt _ (by exact hd) hw (fun j => (qt_bin rfl rfl (by rw [hx j, hy j]; exact cst_quo hq)).qt) h
end
/-! ### Structs that are built -/
theorem cst_of_run {P : Program} {α β : Type} {e : Sem α} {f : α → Sem β} : cst P (e >>= f) = (cst P e).bind fun a => cst P (f a) := by
  show cst P (e.bind f) = _
  induction e with
  | pure x => rfl
  | program k ih => exact ih _
  | mark m k ih => exact ih
  | _ => rfl
def fillS (pl : List (Nat × Nat)) (cells : Array Value) : List (Nat × Value) → Option (Array Value)
  | [] => some cells
  | (i, v) :: rest => match pl[i]? with
    | none => none
    | some (off, size) => if v.cells.size ≠ size || off + v.cells.size > cells.size then none else fillS pl (setL cells off v.cells.toList) rest
theorem setL_fold : ∀ (vs : List Value) (cells : Array Value) (off k : Nat), (vs.zipIdx k).foldl (fun cs (x : Value × Nat) => cs.setIfInBounds (off + x.2) x.1) cells = setL cells (off + k) vs
  | [], cells, off, k => rfl
  | v :: r, cells, off, k => by
    simp only [List.zipIdx_cons, List.foldl_cons, setL]
    rw [setL_fold r _ off (k + 1)]; rfl
theorem fill_eq (pl : List (Nat × Nat)) : ∀ (ps : List (Nat × Value)) (cells : Array Value), Instr.fill (fun i => pl[i]?) cells ps = fillS pl cells ps
  | [], cells => rfl
  | (i, v) :: r, cells => by
    unfold Instr.fill fillS
    cases pl[i]? with
    | none => rfl
    | some p =>
      obtain ⟨off, size⟩ := p
      dsimp only
      split
      · rfl
      · rw [fill_eq pl r]
        congr 1
        have := setL_fold v.cells.toList cells off 0
        rw [Nat.add_zero] at this
        rw [← this, ← Array.foldl_toList, Array.toList_zipIdx]
def placesOf (P : Program) : List Field → Option (List (Nat × Nat))
  | [] => some []
  | f :: r => match cst P (sizeOf f.type), placesOf P r with
    | some m, some l => some ((f.offset, m) :: l)
    | _, _ => none
theorem placesOf_ok {P : Program} : ∀ (fs : List Field) {l : List (Nat × Nat)}, placesOf P fs = some l → cst P (fs.mapM fun f => do pure (f.offset, ← sizeOf f.type)) = some l
  | [], l, h => by simp only [placesOf, Option.some.injEq] at h; subst h; rfl
  | f :: r, l, h => by
    simp only [placesOf] at h
    cases h1 : cst P (sizeOf f.type) with
    | none => simp [h1] at h
    | some m =>
      cases h2 : placesOf P r with
      | none => simp [h1, h2] at h
      | some l2 =>
        simp only [h1, h2, Option.some.injEq] at h
        subst h
        have ih := placesOf_ok r h2
        rw [List.mapM_cons]
        rw [cst_of_run, cst_of_run, h1]
        simp only [Option.bind_some]
        show cst P ((r.mapM (fun f => do pure (f.offset, ← sizeOf f.type))) >>= fun x => pure ((f.offset, m) :: x)) = _
        rw [cst_of_run, ih]; rfl
class BD (P : Program) (t : Nat) (z : outParam (Array Value)) (pl : outParam (List (Nat × Nat))) : Prop where
  h : ∃ v fs, cst P (zeroValue t) = some v ∧ v.cells = z ∧ cst P (underlying t) = some (.struct fs) ∧ placesOf P fs.toList = some pl
theorem cst_build {P : Program} {t : Nat} {z : Array Value} {pl : List (Nat × Nat)} (b : BD P t z pl) (ps : List (Nat × Value)) {cells : Array Value} (hf : fillS pl z ps = some cells) :
    cst P (Instr.build t ps.toArray) = some (.agg cells) := by
  obtain ⟨v, fs, hz, rfl, hu, hp⟩ := b.h
  unfold Instr.build
  rw [cst_bind hz, cst_bind hu]
  dsimp only
  rw [Array.mapM_eq_mapM_toList, map_eq_pure_bind, bind_assoc, cst_bind (placesOf_ok _ hp), pure_bind]
  have : (fun x : Nat => pl.toArray[x]?) = fun i => pl[i]? := by funext i; simp
  rw [this, fill_eq, hf]
  rfl
section
variable {P : Program} {f : FuncId} {n : Nat} {R : Post} {k : List It} {l : List (Nat × Value)} {H M : Heap} {all : Array Oper} {rest : List Oper}
theorem qs_bd {t : TypeId} {e : Nat → Value} {ps : List (Nat × Operand)} {d : Option Nat} {oty : TypeId} {pos : String} {af : Array Edge} {g : Option (Nat × Bool)} {z : Array Value} {pl : List (Nat × Nat)} [b : BD P t z pl] {cells : Array Value}
    (hf : fillS pl z (ps.map fun x => (x.1, ev e x.2)) = some cells) : Qs P ⟨d, .build t ps.toArray, oty, pos, af, g⟩ e H M (.agg cells) := by
  refine qt_cst ?_
  show cst P (Instr.build t (ps.toArray.map fun x => (x.1, ev e x.2)) >>= fun v => pure (Next.value v)) = _
  rw [List.map_toArray, cst_bind (cst_build b _ hf)]
  rfl
theorem run_bd {d : Nat} {oty : TypeId} {pos : String} {af : Array Edge} {g : Option (Nat × Bool)} {t : TypeId} {ps : List (Nat × Operand)} {z : Array Value} {pl : List (Nat × Nat)} [BD P t z pl] (cells : Array Value) (hd : Nat.blt d n = true)
    (hw : ∀ j, wantE ⟨some d, .build t ps.toArray, oty, pos, af, g⟩ all (mk l j) = true) (hf : ∀ j, fillS pl z (ps.map fun x => (x.1, ev (mk l j) x.2)) = some cells)
    (h : Run P f n R (.ops all rest :: k) ((d, .agg cells) :: l) H M) : Run P f n R (.ops all (⟨some d, .build t ps.toArray, oty, pos, af, g⟩ :: rest) :: k) l H M :=
  run_qt _ (by exact hd) hw (fun j => (qs_bd (hf j)).qt) h
theorem ql_bd {l2 : List (Nat × Value)} {d : Nat} {oty : TypeId} {pos : String} {af : Array Edge} {g : Option (Nat × Bool)} {t : TypeId} {ps : List (Nat × Operand)} {z : Array Value} {pl : List (Nat × Nat)} [BD P t z pl] (cells : Array Value) (hd : Nat.blt d n = true)
    (hw : ∀ j, wantE ⟨some d, .build t ps.toArray, oty, pos, af, g⟩ all (mk l j) = true) (hf : ∀ j, fillS pl z (ps.map fun x => (x.1, ev (mk l j) x.2)) = some cells)
    (h : QL P n all H M rest ((d, .agg cells) :: l) l2) : QL P n all H M (⟨some d, .build t ps.toArray, oty, pos, af, g⟩ :: rest) l l2 :=
  .yes _ (by exact hd) hw (fun j => qs_bd (hf j)) h
end
end Go.Cam
