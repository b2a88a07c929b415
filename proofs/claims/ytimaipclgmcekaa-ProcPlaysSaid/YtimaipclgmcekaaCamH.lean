/- Comparisons whose answer is a law of its own; numbers. -/
import Derived.Test.YtimaipclgmcekaaCamG
import Derived.WalkKit
namespace Go.Cam
section
variable {P : Program} {f : FuncId} {n : Nat} {R : Post} {k : List It} {l l2 : List (Nat × Value)} {H M : Heap} {all : Array Oper} {rest : List Oper} {I : (Nat → Bool) → Heap → Heap → Prop} {q : Nat}
/-- what a type's comparison comes to -/
class EQ (P : Program) (t : Nat) (X Y : Value) (v : outParam Bool) : Prop where
  g : ∀ op x y, cst P (eqGuard op t x y X Y) = some ()
  e : ∀ w, (binOp .eql t X Y).run P w = .ok (.bool v) w
  n : ∀ w, (binOp .neq t X Y).run P w = .ok (.bool (!v)) w
theorem qs_binw {o : Oper} {e : Nat → Value} {op : BinOp} {t t2 : TypeId} {x y : Operand} {v : Value} (ho : o.op = .binOp op t x y t2) (hg : cst P (eqGuard op t x y (ev e x) (ev e y)) = some ()) (hv : ∀ w, (binOp op t (ev e x) (ev e y)).run P w = .ok v w) : Qs P o e H M v := by
  refine qt_exec (s := do eqGuard op t x y (ev e x) (ev e y); binOp op t (ev e x) (ev e y)) (by unfold execOp; rw [ho]) fun w0 w _ => ?_
  rw [hm_run_bind _ _ w (cst_run _ hg w)]
  exact hv w
theorem run_eqs {d : Nat} {oty : TypeId} {pos : String} {af : Array Edge} {g : Option (Nat × Bool)} {t t2 : TypeId} {x y : Operand} {X Y : Value} {v : Bool} (eq : EQ P t X Y v) (hd : Nat.blt d n = true) (hw : ∀ j, wantE ⟨some d, .binOp .eql t x y t2, oty, pos, af, g⟩ all (mk l j) = true)
    (hx : ∀ j, ev (mk l j) x = X) (hy : ∀ j, ev (mk l j) y = Y) (h : Run P f n R (.ops all rest :: k) ((d, .bool v) :: l) H M) : Run P f n R (.ops all (⟨some d, .binOp .eql t x y t2, oty, pos, af, g⟩ :: rest) :: k) l H M :=
  run_qt _ (by exact hd) hw (fun j => (qs_binw rfl (by rw [hx j, hy j]; exact eq.g _ _ _) (by rw [hx j, hy j]; exact eq.e)).qt) h
theorem run_nes {d : Nat} {oty : TypeId} {pos : String} {af : Array Edge} {g : Option (Nat × Bool)} {t t2 : TypeId} {x y : Operand} {X Y : Value} {v : Bool} (eq : EQ P t X Y v) (hd : Nat.blt d n = true) (hw : ∀ j, wantE ⟨some d, .binOp .neq t x y t2, oty, pos, af, g⟩ all (mk l j) = true)
    (hx : ∀ j, ev (mk l j) x = X) (hy : ∀ j, ev (mk l j) y = Y) (h : Run P f n R (.ops all rest :: k) ((d, .bool (!v)) :: l) H M) : Run P f n R (.ops all (⟨some d, .binOp .neq t x y t2, oty, pos, af, g⟩ :: rest) :: k) l H M :=
  run_qt _ (by exact hd) hw (fun j => (qs_binw rfl (by rw [hx j, hy j]; exact eq.g _ _ _) (by rw [hx j, hy j]; exact eq.n)).qt) h
theorem ql_eqs {d : Nat} {oty : TypeId} {pos : String} {af : Array Edge} {g : Option (Nat × Bool)} {t t2 : TypeId} {x y : Operand} {X Y : Value} {v : Bool} (eq : EQ P t X Y v) (hd : Nat.blt d n = true) (hw : ∀ j, wantE ⟨some d, .binOp .eql t x y t2, oty, pos, af, g⟩ all (mk l j) = true)
    (hx : ∀ j, ev (mk l j) x = X) (hy : ∀ j, ev (mk l j) y = Y) (h : QL P n all H M rest ((d, .bool v) :: l) l2) : QL P n all H M (⟨some d, .binOp .eql t x y t2, oty, pos, af, g⟩ :: rest) l l2 :=
  .yes _ (by exact hd) hw (fun j => qs_binw rfl (by rw [hx j, hy j]; exact eq.g _ _ _) (by rw [hx j, hy j]; exact eq.e)) h
theorem ql_nes {d : Nat} {oty : TypeId} {pos : String} {af : Array Edge} {g : Option (Nat × Bool)} {t t2 : TypeId} {x y : Operand} {X Y : Value} {v : Bool} (eq : EQ P t X Y v) (hd : Nat.blt d n = true) (hw : ∀ j, wantE ⟨some d, .binOp .neq t x y t2, oty, pos, af, g⟩ all (mk l j) = true)
    (hx : ∀ j, ev (mk l j) x = X) (hy : ∀ j, ev (mk l j) y = Y) (h : QL P n all H M rest ((d, .bool (!v)) :: l) l2) : QL P n all H M (⟨some d, .binOp .neq t x y t2, oty, pos, af, g⟩ :: rest) l l2 :=
  .yes _ (by exact hd) hw (fun j => qs_binw rfl (by rw [hx j, hy j]; exact eq.g _ _ _) (by rw [hx j, hy j]; exact eq.n)) h
theorem qc_eqs {d : Nat} {oty : TypeId} {pos : String} {af : Array Edge} {g : Option (Nat × Bool)} {t t2 : TypeId} {x y : Operand} {X Y : Value} {v : Bool} (eq : EQ P t X Y v) (hd : Nat.blt d n = true) (hw : ∀ j, wantE ⟨some d, .binOp .eql t x y t2, oty, pos, af, g⟩ all (mk l j) = true)
    (hx : ∀ j, ev (mk l j) x = X) (hy : ∀ j, ev (mk l j) y = Y) (hs : ∀ S H M, I S H M → I (sset S q) H M) (h : QC P n all I (q + 1) rest ((d, .bool v) :: l) l2) : QC P n all I q (⟨some d, .binOp .eql t x y t2, oty, pos, af, g⟩ :: rest) l l2 :=
  qc_qs _ (by exact hd) hw (fun j _ _ _ _ => qs_binw rfl (by rw [hx j, hy j]; exact eq.g _ _ _) (by rw [hx j, hy j]; exact eq.e)) hs h
theorem qc_nes {d : Nat} {oty : TypeId} {pos : String} {af : Array Edge} {g : Option (Nat × Bool)} {t t2 : TypeId} {x y : Operand} {X Y : Value} {v : Bool} (eq : EQ P t X Y v) (hd : Nat.blt d n = true) (hw : ∀ j, wantE ⟨some d, .binOp .neq t x y t2, oty, pos, af, g⟩ all (mk l j) = true)
    (hx : ∀ j, ev (mk l j) x = X) (hy : ∀ j, ev (mk l j) y = Y) (hs : ∀ S H M, I S H M → I (sset S q) H M) (h : QC P n all I (q + 1) rest ((d, .bool (!v)) :: l) l2) : QC P n all I q (⟨some d, .binOp .neq t x y t2, oty, pos, af, g⟩ :: rest) l l2 :=
  qc_qs _ (by exact hd) hw (fun j _ _ _ _ => qs_binw rfl (by rw [hx j, hy j]; exact eq.g _ _ _) (by rw [hx j, hy j]; exact eq.n)) hs h
end
end Go.Cam
