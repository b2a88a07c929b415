/- Places: fields, indexes; divisions; comparisons. -/
import Derived.Test.YtimaipclgmcekaaCamC
namespace Go.Cam
section
variable {P : Program} {H M : Heap} {o : Oper} {e : Nat → Value}
theorem qt_exec {v : Value} {s : Sem Value} (hs : execOp (ev e) o = (s >>= fun v => pure (Next.value v))) (h : ∀ w0 w, Has w0 w H M → s.run P w = .ok v w) : Qs P o e H M v := by
  intro w0 w hh
  rw [hs, hm_run_bind _ _ w (h w0 w hh)]
  rfl
theorem cst_bind {α β : Type} {s : Sem α} {f : α → Sem β} {a : α} (h : cst P s = some a) : cst P (s >>= f) = cst P (f a) := by
  show cst P (s.bind f) = _
  induction s with
  | pure x => simp only [cst, Option.some.injEq] at h; subst h; rfl
  | program k ih => simp only [Sem.bind, cst] at h ⊢; exact ih _ h
  | mark m k ih => simp only [Sem.bind, cst] at h ⊢; exact ih h
  | _ => simp [cst] at h
theorem qt_fa {s : TypeId} {x : Operand} {fld : Nat} {b off fo : Nat} (ho : o.op = .fieldAddr s x fld) (hx : ev e x = .pointer (some ⟨b, off, none⟩))
    (hf : ∀ a, cst P (Instr.fieldAt s (.pointer (some a)) fld) = some (.pointer (some (a.add fo)))) : Qs P o e H M (.pointer (some ⟨b, off + fo, none⟩)) := by
  refine qt_exec (s := Instr.fieldAt s (ev e x) fld) (by unfold execOp; rw [ho]) fun w0 w _ => ?_
  rw [hx, cst_run _ (hf _) w, addr_add]
theorem qt_ix {t : TypeId} {x y : Operand} {n : Nat} {elem : TypeId} {sz : Nat} {b off : Nat} {kd : IntKind} {i : Int} (ho : o.op = .indexAddr t x y) (hx : ev e x = .pointer (some ⟨b, off, none⟩)) (hy : ev e y = .int kd i)
    (hu : cst P (underlying t) = some (.array n elem)) (hs : cst P (sizeOf elem) = some sz) (h0 : 0 ≤ i) (h1 : i < n) : Qs P o e H M (.pointer (some ⟨b, off + i.toNat * sz, none⟩)) := by
  refine qt_exec (s := Instr.indexAt t (ev e x) (ev e y)) (by unfold execOp; rw [ho]) fun w0 w _ => ?_
  rw [hx, hy]
  refine cst_run _ ?_ w
  unfold Instr.indexAt
  rw [cst_bind (show cst P (asIntOf (.int kd i)) = some (kd, i) from rfl)]
  dsimp only
  rw [cst_bind hu]
  dsimp only
  rw [cst_bind (a := ⟨b, off, none⟩) (by rfl), cst_bind (a := (some ⟨b, off, none⟩, n, elem)) (by rfl)]
  dsimp only
  rw [cst_bind hu]
  dsimp only
  rw [if_pos ⟨h0, h1⟩, cst_bind hs, addr_add]
  rfl
theorem qt_ixs {t : TypeId} {x y : Operand} {n c : Nat} {elem : TypeId} {sz : Nat} {b off : Nat} {kd : IntKind} {i : Int} (ho : o.op = .indexAddr t x y) (hx : ev e x = .slice (some ⟨b, off, none⟩) n c) (hy : ev e y = .int kd i)
    (hu : cst P (underlying t) = some (.slice elem)) (hs : cst P (sizeOf elem) = some sz) (h0 : 0 ≤ i) (h1 : i < n) : Qs P o e H M (.pointer (some ⟨b, off + i.toNat * sz, none⟩)) := by
  refine qt_exec (s := Instr.indexAt t (ev e x) (ev e y)) (by unfold execOp; rw [ho]) fun w0 w _ => ?_
  rw [hx, hy]
  refine cst_run _ ?_ w
  unfold Instr.indexAt
  rw [cst_bind (show cst P (asIntOf (.int kd i)) = some (kd, i) from rfl)]
  dsimp only
  rw [cst_bind hu]
  dsimp only
  rw [cst_bind (a := (some ⟨b, off, none⟩, n, elem)) (by rfl)]
  dsimp only
  rw [cst_bind hu]
  dsimp only
  rw [if_pos ⟨h0, h1⟩, cst_bind hs, addr_add]
  rfl
/-- an element of an array's value, of one cell -/
theorem qt_ixa {t : TypeId} {x y : Operand} {n : Nat} {elem : TypeId} {cs : Array Value} {kd : IntKind} {i : Int} {v : Value} (ho : o.op = .index t x y) (hx : ev e x = .agg cs) (hy : ev e y = .int kd i)
    (hu : cst P (underlying t) = some (.array n elem)) (hs : cst P (sizeOf elem) = some 1) (hag : cst P (isAgg elem) = some false) (h0 : 0 ≤ i) (h1 : i < n) (hv : cs[i.toNat]? = some v) : Qs P o e H M v := by
  refine qt_exec (s := Instr.index t (ev e x) (ev e y)) (by unfold execOp; rw [ho]) fun w0 w _ => ?_
  rw [hx, hy]
  refine cst_run _ ?_ w
  unfold Instr.index
  rw [cst_bind (show cst P (asIntOf (.int kd i)) = some (kd, i) from rfl)]
  dsimp only
  rw [cst_bind hu]
  dsimp only
  rw [if_pos ⟨h0, h1⟩, cst_bind hs]
  unfold part
  rw [cst_bind hag, if_neg (by simp), Nat.mul_one, hv]
  rfl
theorem cst_rem {t : TypeId} {k : IntKind} {a b : Int} (hb : b ≠ 0) : cst P (binOp .rem t (.int k a) (.int k b)) = some (.int k (a.tmod b)) := by
  simp only [binOp, ne_eq, not_true_eq_false, if_false, Op.intDiv, hb, if_false]
  rfl
theorem cst_quo {t : TypeId} {k : IntKind} {a b : Int} (hb : b ≠ 0) : cst P (binOp .quo t (.int k a) (.int k b)) = some (.int k (k.wrap (a.tdiv b))) := by
  simp only [binOp, ne_eq, not_true_eq_false, if_false, Op.intDiv, hb, if_false]
  rfl
theorem qt_bin {op : BinOp} {t t2 : TypeId} {x y : Operand} {v : Value} (ho : o.op = .binOp op t x y t2) (hg : cst P (eqGuard op t x y (ev e x) (ev e y)) = some ()) (hv : cst P (binOp op t (ev e x) (ev e y)) = some v) : Qs P o e H M v := by
  refine qt_exec (s := do eqGuard op t x y (ev e x) (ev e y); binOp op t (ev e x) (ev e y)) (by unfold execOp; rw [ho]) fun w0 w _ => ?_
  refine cst_run _ ?_ w
  rw [cst_bind hg]; exact hv
end
section
variable {P : Program} {f : FuncId} {n : Nat} {R : Post} {k : List It} {l : List (Nat × Value)} {H M : Heap} {all : Array Oper} {o : Oper} {rest : List Oper}
theorem run_fa {d : Nat} {oty : TypeId} {pos : String} {af : Array Edge} {g : Option (Nat × Bool)} {s : TypeId} {x : Operand} {fld b off fo : Nat} (hd : Nat.blt d n = true) (hw : ∀ j, wantE ⟨some d, .fieldAddr s x fld, oty, pos, af, g⟩ all (mk l j) = true) (hx : ∀ j, ev (mk l j) x = .pointer (some ⟨b, off, none⟩))
    [hf : FO P s fld fo]
    (h : Run P f n R (.ops all rest :: k) ((d, .pointer (some ⟨b, off + fo, none⟩)) :: l) H M) : Run P f n R (.ops all (⟨some d, .fieldAddr s x fld, oty, pos, af, g⟩ :: rest) :: k) l H M :=
  run_qt _ (by exact hd) hw (fun j => (qt_fa rfl (hx j) hf.h).qt) h
theorem run_faz {d : Nat} {oty : TypeId} {pos : String} {af : Array Edge} {g : Option (Nat × Bool)} {s : TypeId} {x : Operand} {fld b off : Nat} (hd : Nat.blt d n = true) (hw : ∀ j, wantE ⟨some d, .fieldAddr s x fld, oty, pos, af, g⟩ all (mk l j) = true) (hx : ∀ j, ev (mk l j) x = .pointer (some ⟨b, off, none⟩))
    [hf : FO P s fld 0]
    (h : Run P f n R (.ops all rest :: k) ((d, .pointer (some ⟨b, off, none⟩)) :: l) H M) : Run P f n R (.ops all (⟨some d, .fieldAddr s x fld, oty, pos, af, g⟩ :: rest) :: k) l H M :=
  run_qt _ (by exact hd) hw (fun j => (qt_fa rfl (hx j) hf.h).qt) h
theorem run_zfa {d : Nat} {oty : TypeId} {pos : String} {af : Array Edge} {g : Option (Nat × Bool)} {s : TypeId} {x : Operand} {fld b fo : Nat} (hd : Nat.blt d n = true) (hw : ∀ j, wantE ⟨some d, .fieldAddr s x fld, oty, pos, af, g⟩ all (mk l j) = true) (hx : ∀ j, ev (mk l j) x = .pointer (some ⟨b, 0, none⟩))
    [hf : FO P s fld fo]
    (h : Run P f n R (.ops all rest :: k) ((d, .pointer (some ⟨b, fo, none⟩)) :: l) H M) : Run P f n R (.ops all (⟨some d, .fieldAddr s x fld, oty, pos, af, g⟩ :: rest) :: k) l H M :=
  run_qt _ (by exact hd) hw (fun j => (by have := qt_fa (o := ⟨some d, .fieldAddr s x fld, oty, pos, af, g⟩) (H := H) (M := M) rfl (hx j) hf.h; rw [Nat.zero_add] at this; exact this.qt)) h
theorem run_ix {d : Nat} {oty : TypeId} {pos : String} {af : Array Edge} {g : Option (Nat × Bool)} {t : TypeId} {x y : Operand} {m : Nat} {elem : TypeId} {sz b off : Nat} {kd : IntKind} {i : Int} (hd : Nat.blt d n = true) (hw : ∀ j, wantE ⟨some d, .indexAddr t x y, oty, pos, af, g⟩ all (mk l j) = true)
    (hx : ∀ j, ev (mk l j) x = .pointer (some ⟨b, off, none⟩)) (hy : ∀ j, ev (mk l j) y = .int kd i) [hu : AR P t m elem] [hs : SZ P elem sz] (h0 : 0 ≤ i) (h1 : i < m)
    (h : Run P f n R (.ops all rest :: k) ((d, .pointer (some ⟨b, off + i.toNat * sz, none⟩)) :: l) H M) : Run P f n R (.ops all (⟨some d, .indexAddr t x y, oty, pos, af, g⟩ :: rest) :: k) l H M :=
  run_qt _ (by exact hd) hw (fun j => (qt_ix rfl (hx j) (hy j) hu.h hs.h h0 h1).qt) h
theorem run_zix {d : Nat} {oty : TypeId} {pos : String} {af : Array Edge} {g : Option (Nat × Bool)} {t : TypeId} {x y : Operand} {m : Nat} {elem : TypeId} {sz b : Nat} {kd : IntKind} {i : Int} (hd : Nat.blt d n = true) (hw : ∀ j, wantE ⟨some d, .indexAddr t x y, oty, pos, af, g⟩ all (mk l j) = true)
    (hx : ∀ j, ev (mk l j) x = .pointer (some ⟨b, 0, none⟩)) (hy : ∀ j, ev (mk l j) y = .int kd i) [hu : AR P t m elem] [hs : SZ P elem sz] (h0 : 0 ≤ i) (h1 : i < m)
    (h : Run P f n R (.ops all rest :: k) ((d, .pointer (some ⟨b, i.toNat * sz, none⟩)) :: l) H M) : Run P f n R (.ops all (⟨some d, .indexAddr t x y, oty, pos, af, g⟩ :: rest) :: k) l H M :=
  run_qt _ (by exact hd) hw (fun j => (by have := qt_ix (o := ⟨some d, .indexAddr t x y, oty, pos, af, g⟩) (H := H) (M := M) rfl (hx j) (hy j) hu.h hs.h h0 h1; rw [Nat.zero_add] at this; exact this.qt)) h
theorem run_ixs {d : Nat} {oty : TypeId} {pos : String} {af : Array Edge} {g : Option (Nat × Bool)} {t : TypeId} {x y : Operand} {m c : Nat} {elem : TypeId} {sz b off : Nat} {kd : IntKind} {i : Int} (hd : Nat.blt d n = true) (hw : ∀ j, wantE ⟨some d, .indexAddr t x y, oty, pos, af, g⟩ all (mk l j) = true)
    (hx : ∀ j, ev (mk l j) x = .slice (some ⟨b, off, none⟩) m c) (hy : ∀ j, ev (mk l j) y = .int kd i) [hu : SC P t elem] [hs : SZ P elem sz] (h0 : 0 ≤ i) (h1 : i < m)
    (h : Run P f n R (.ops all rest :: k) ((d, .pointer (some ⟨b, off + i.toNat * sz, none⟩)) :: l) H M) : Run P f n R (.ops all (⟨some d, .indexAddr t x y, oty, pos, af, g⟩ :: rest) :: k) l H M :=
  run_qt _ (by exact hd) hw (fun j => (qt_ixs rfl (hx j) (hy j) hu.h hs.h h0 h1).qt) h
theorem run_ixa {d : Nat} {oty : TypeId} {pos : String} {af : Array Edge} {g : Option (Nat × Bool)} {t : TypeId} {x y : Operand} {m : Nat} {elem : TypeId} {cs : Array Value} {kd : IntKind} {i : Int} (v : Value) (hd : Nat.blt d n = true) (hw : ∀ j, wantE ⟨some d, .index t x y, oty, pos, af, g⟩ all (mk l j) = true)
    (hx : ∀ j, ev (mk l j) x = .agg cs) (hy : ∀ j, ev (mk l j) y = .int kd i) [hu : AR P t m elem] [hs : SZ P elem 1] [hag : AG P elem false]
    (h0 : 0 ≤ i) (h1 : i < m) (hv : cs[i.toNat]? = some v) (h : Run P f n R (.ops all rest :: k) ((d, v) :: l) H M) : Run P f n R (.ops all (⟨some d, .index t x y, oty, pos, af, g⟩ :: rest) :: k) l H M :=
  run_qt _ (by exact hd) hw (fun j => (qt_ixa rfl (hx j) (hy j) hu.h hs.h hag.h h0 h1 hv).qt) h
theorem run_rem {d : Nat} {oty : TypeId} {pos : String} {af : Array Edge} {g : Option (Nat × Bool)} {t t2 : TypeId} {x y : Operand} {kd : IntKind} {p q : Int} (hd : Nat.blt d n = true) (hw : ∀ j, wantE ⟨some d, .binOp .rem t x y t2, oty, pos, af, g⟩ all (mk l j) = true)
    (hx : ∀ j, ev (mk l j) x = .int kd p) (hy : ∀ j, ev (mk l j) y = .int kd q) (hq : q ≠ 0) (h : Run P f n R (.ops all rest :: k) ((d, .int kd (p.tmod q)) :: l) H M) : Run P f n R (.ops all (⟨some d, .binOp .rem t x y t2, oty, pos, af, g⟩ :: rest) :: k) l H M :=
  run_qt _ (by exact hd) hw (fun j => (qt_bin rfl rfl (by rw [hx j, hy j]; exact cst_rem hq)).qt) h
theorem run_quo {d : Nat} {oty : TypeId} {pos : String} {af : Array Edge} {g : Option (Nat × Bool)} {t t2 : TypeId} {x y : Operand} {kd : IntKind} {p q : Int} (hd : Nat.blt d n = true) (hw : ∀ j, wantE ⟨some d, .binOp .quo t x y t2, oty, pos, af, g⟩ all (mk l j) = true)
    (hx : ∀ j, ev (mk l j) x = .int kd p) (hy : ∀ j, ev (mk l j) y = .int kd q) (hq : q ≠ 0) (h : Run P f n R (.ops all rest :: k) ((d, .int kd (kd.wrap (p.tdiv q))) :: l) H M) : Run P f n R (.ops all (⟨some d, .binOp .quo t x y t2, oty, pos, af, g⟩ :: rest) :: k) l H M :=
  run_qt _ (by exact hd) hw (fun j => (qt_bin rfl rfl (by rw [hx j, hy j]; exact cst_quo hq)).qt) h
end
/-! ### Structs that are built -/
theorem cst_of_run {P : Program} {α β : Type} {e : Sem α} {f : α → Sem β} : cst P (e >>= f) = (cst P e).bind fun a => cst P (f a) := by
  show cst P (e.bind f) = _
  induction e with
  | pure x => rfl
  | program k ih => exact ih _
  | mark m k ih => exact ih
  | _ => rfl
def fillS (pl : List (Nat × Nat)) (cells : Array Value) : List (Nat × Value) → Option (Array Value)
  | [] => some cells
  | (i, v) :: rest => match pl[i]? with
    | none => none
    | some (off, size) => if v.cells.size ≠ size || off + v.cells.size > cells.size then none else fillS pl (setL cells off v.cells.toList) rest
theorem setL_fold : ∀ (vs : List Value) (cells : Array Value) (off k : Nat), (vs.zipIdx k).foldl (fun cs (x : Value × Nat) => cs.setIfInBounds (off + x.2) x.1) cells = setL cells (off + k) vs
  | [], cells, off, k => rfl
  | v :: r, cells, off, k => by
    simp only [List.zipIdx_cons, List.foldl_cons, setL]
    rw [setL_fold r _ off (k + 1)]; rfl
theorem fill_eq (pl : List (Nat × Nat)) : ∀ (ps : List (Nat × Value)) (cells : Array Value), Instr.fill (fun i => pl[i]?) cells ps = fillS pl cells ps
  | [], cells => rfl
  | (i, v) :: r, cells => by
    unfold Instr.fill fillS
    cases pl[i]? with
    | none => rfl
    | some p =>
      obtain ⟨off, size⟩ := p
      dsimp only
      split
      · rfl
      · rw [fill_eq pl r]
        congr 1
        have := setL_fold v.cells.toList cells off 0
        rw [Nat.add_zero] at this
        rw [← this, ← Array.foldl_toList, Array.toList_zipIdx]
def placesOf (P : Program) : List Field → Option (List (Nat × Nat))
  | [] => some []
  | f :: r => match cst P (sizeOf f.type), placesOf P r with
    | some m, some l => some ((f.offset, m) :: l)
    | _, _ => none
theorem placesOf_ok {P : Program} : ∀ (fs : List Field) {l : List (Nat × Nat)}, placesOf P fs = some l → cst P (fs.mapM fun f => do pure (f.offset, ← sizeOf f.type)) = some l
  | [], l, h => by simp only [placesOf, Option.some.injEq] at h; subst h; rfl
  | f :: r, l, h => by
    simp only [placesOf] at h
    cases h1 : cst P (sizeOf f.type) with
    | none => simp [h1] at h
    | some m =>
      cases h2 : placesOf P r with
      | none => simp [h1, h2] at h
      | some l2 =>
        simp only [h1, h2, Option.some.injEq] at h
        subst h
        have ih := placesOf_ok r h2
        rw [List.mapM_cons]
        rw [cst_of_run, cst_of_run, h1]
        simp only [Option.bind_some]
        show cst P ((r.mapM (fun f => do pure (f.offset, ← sizeOf f.type))) >>= fun x => pure ((f.offset, m) :: x)) = _
        rw [cst_of_run, ih]; rfl
class BD (P : Program) (t : Nat) (z : outParam (Array Value)) (pl : outParam (List (Nat × Nat))) : Prop where
  h : ∃ v fs, cst P (zeroValue t) = some v ∧ v.cells = z ∧ cst P (underlying t) = some (.struct fs) ∧ placesOf P fs.toList = some pl
theorem cst_build {P : Program} {t : Nat} {z : Array Value} {pl : List (Nat × Nat)} (b : BD P t z pl) (ps : List (Nat × Value)) {cells : Array Value} (hf : fillS pl z ps = some cells) :
    cst P (Instr.build t ps.toArray) = some (.agg cells) := by
  obtain ⟨v, fs, hz, rfl, hu, hp⟩ := b.h
  unfold Instr.build
  rw [cst_bind hz, cst_bind hu]
  dsimp only
  rw [Array.mapM_eq_mapM_toList, map_eq_pure_bind, bind_assoc, cst_bind (placesOf_ok _ hp), pure_bind]
  have : (fun x : Nat => pl.toArray[x]?) = fun i => pl[i]? := by funext i; simp
  rw [this, fill_eq, hf]
  rfl
section
variable {P : Program} {f : FuncId} {n : Nat} {R : Post} {k : List It} {l : List (Nat × Value)} {H M : Heap} {all : Array Oper} {rest : List Oper}
theorem qs_bd {t : TypeId} {e : Nat → Value} {ps : List (Nat × Operand)} {d : Option Nat} {oty : TypeId} {pos : String} {af : Array Edge} {g : Option (Nat × Bool)} {z : Array Value} {pl : List (Nat × Nat)} [b : BD P t z pl] {cells : Array Value}
    (hf : fillS pl z (ps.map fun x => (x.1, ev e x.2)) = some cells) : Qs P ⟨d, .build t ps.toArray, oty, pos, af, g⟩ e H M (.agg cells) := by
  refine qt_cst ?_
  show cst P (Instr.build t (ps.toArray.map fun x => (x.1, ev e x.2)) >>= fun v => pure (Next.value v)) = _
  rw [List.map_toArray, cst_bind (cst_build b _ hf)]
  rfl
theorem run_bd {d : Nat} {oty : TypeId} {pos : String} {af : Array Edge} {g : Option (Nat × Bool)} {t : TypeId} {ps : List (Nat × Operand)} {z : Array Value} {pl : List (Nat × Nat)} [BD P t z pl] (cells : Array Value) (hd : Nat.blt d n = true)
    (hw : ∀ j, wantE ⟨some d, .build t ps.toArray, oty, pos, af, g⟩ all (mk l j) = true) (hf : ∀ j, fillS pl z (ps.map fun x => (x.1, ev (mk l j) x.2)) = some cells)
    (h : Run P f n R (.ops all rest :: k) ((d, .agg cells) :: l) H M) : Run P f n R (.ops all (⟨some d, .build t ps.toArray, oty, pos, af, g⟩ :: rest) :: k) l H M :=
  run_qt _ (by exact hd) hw (fun j => (qs_bd (hf j)).qt) h
theorem ql_bd {l2 : List (Nat × Value)} {d : Nat} {oty : TypeId} {pos : String} {af : Array Edge} {g : Option (Nat × Bool)} {t : TypeId} {ps : List (Nat × Operand)} {z : Array Value} {pl : List (Nat × Nat)} [BD P t z pl] (cells : Array Value) (hd : Nat.blt d n = true)
    (hw : ∀ j, wantE ⟨some d, .build t ps.toArray, oty, pos, af, g⟩ all (mk l j) = true) (hf : ∀ j, fillS pl z (ps.map fun x => (x.1, ev (mk l j) x.2)) = some cells)
    (h : QL P n all H M rest ((d, .agg cells) :: l) l2) : QL P n all H M (⟨some d, .build t ps.toArray, oty, pos, af, g⟩ :: rest) l l2 :=
  .yes _ (by exact hd) hw (fun j => qs_bd (hf j)) h
end
end Go.Cam
