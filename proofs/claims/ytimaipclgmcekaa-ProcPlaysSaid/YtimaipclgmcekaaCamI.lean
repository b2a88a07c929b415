/- The builtin len; its forms. -/
import Derived.Test.YtimaipclgmcekaaCamH
namespace Go.Cam
class STY (P : Program) (t : Nat) : Prop where
  h : cst P (underlying t) = some .string
section
variable {P : Program} {f : FuncId} {n : Nat} {R : Post} {k : List It} {l l2 : List (Nat × Value)} {H M : Heap} {all : Array Oper} {rest : List Oper} {I : (Nat → Bool) → Heap → Heap → Prop} {q : Nat}
theorem qs_len {d : Option Nat} {oty : TypeId} {pos : String} {af : Array Edge} {g : Option (Nat × Bool)} {t : TypeId} {p : Operand} {e : Nat → Value} {b : Option Addr} {m c el : Nat} [sc : SC P t el] (hp : ev e p = .slice b m c) :
    Qs P ⟨d, .call ⟨.builtin .len, #[p], #[t]⟩, oty, pos, af, g⟩ e H M (.int .i64 m) := by
  refine qt_cst ?_
  show cst P (resolve (ev e) ⟨.builtin .len, #[p], #[t]⟩ oty >>= fun d => invoke d.target d.args) = _
  have e1 : #[p].map (ev e) = #[ev e p] := by simp
  unfold resolve
  dsimp only
  rw [e1, hp]
  show cst P (Builtin.len_ #[t] oty #[.slice b m c] >>= fun v => pure (Next.value v)) = _
  unfold Builtin.len_
  simp only [List.getElem?_toArray, List.getElem?_cons_zero]
  rw [cst_of_run, cst_of_run, sc.h]
  rfl
theorem qs_lens {d : Option Nat} {oty : TypeId} {pos : String} {af : Array Edge} {g : Option (Nat × Bool)} {t : TypeId} {p : Operand} {e : Nat → Value} {s : ByteArray} [sc : STY P t] (hp : ev e p = .string s) :
    Qs P ⟨d, .call ⟨.builtin .len, #[p], #[t]⟩, oty, pos, af, g⟩ e H M (.int .i64 s.size) := by
  refine qt_cst ?_
  show cst P (resolve (ev e) ⟨.builtin .len, #[p], #[t]⟩ oty >>= fun d => invoke d.target d.args) = _
  have e1 : #[p].map (ev e) = #[ev e p] := by simp
  unfold resolve
  dsimp only
  rw [e1, hp]
  show cst P (Builtin.len_ #[t] oty #[.string s] >>= fun v => pure (Next.value v)) = _
  unfold Builtin.len_
  simp only [List.getElem?_toArray, List.getElem?_cons_zero]
  rw [cst_of_run, cst_of_run, sc.h]
  rfl
theorem run_len {d : Nat} {oty : TypeId} {pos : String} {af : Array Edge} {g : Option (Nat × Bool)} {t : TypeId} {p : Operand} {b : Option Addr} {m c el : Nat} [sc : SC P t el] (hd : Nat.blt d n = true) (hw : ∀ j, wantE ⟨some d, .call ⟨.builtin .len, #[p], #[t]⟩, oty, pos, af, g⟩ all (mk l j) = true)
    (hp : ∀ j, ev (mk l j) p = .slice b m c) (h : Run P f n R (.ops all rest :: k) ((d, .int .i64 m) :: l) H M) : Run P f n R (.ops all (⟨some d, .call ⟨.builtin .len, #[p], #[t]⟩, oty, pos, af, g⟩ :: rest) :: k) l H M :=
  run_qt _ (by exact hd) hw (fun j => (qs_len (hp j)).qt) h
theorem ql_len {d : Nat} {oty : TypeId} {pos : String} {af : Array Edge} {g : Option (Nat × Bool)} {t : TypeId} {p : Operand} {b : Option Addr} {m c el : Nat} [sc : SC P t el] (hd : Nat.blt d n = true) (hw : ∀ j, wantE ⟨some d, .call ⟨.builtin .len, #[p], #[t]⟩, oty, pos, af, g⟩ all (mk l j) = true)
    (hp : ∀ j, ev (mk l j) p = .slice b m c) (h : QL P n all H M rest ((d, .int .i64 m) :: l) l2) : QL P n all H M (⟨some d, .call ⟨.builtin .len, #[p], #[t]⟩, oty, pos, af, g⟩ :: rest) l l2 :=
  .yes _ (by exact hd) hw (fun j => qs_len (hp j)) h
theorem qc_len {d : Nat} {oty : TypeId} {pos : String} {af : Array Edge} {g : Option (Nat × Bool)} {t : TypeId} {p : Operand} {b : Option Addr} {m c el : Nat} [sc : SC P t el] (hd : Nat.blt d n = true) (hw : ∀ j, wantE ⟨some d, .call ⟨.builtin .len, #[p], #[t]⟩, oty, pos, af, g⟩ all (mk l j) = true)
    (hp : ∀ j, ev (mk l j) p = .slice b m c) (hs : ∀ S H M, I S H M → I (sset S q) H M) (h : QC P n all I (q + 1) rest ((d, .int .i64 m) :: l) l2) : QC P n all I q (⟨some d, .call ⟨.builtin .len, #[p], #[t]⟩, oty, pos, af, g⟩ :: rest) l l2 :=
  qc_qs _ (by exact hd) hw (fun j _ _ _ _ => qs_len (hp j)) hs h
theorem run_lens {d : Nat} {oty : TypeId} {pos : String} {af : Array Edge} {g : Option (Nat × Bool)} {t : TypeId} {p : Operand} {s : ByteArray} [sc : STY P t] (hd : Nat.blt d n = true) (hw : ∀ j, wantE ⟨some d, .call ⟨.builtin .len, #[p], #[t]⟩, oty, pos, af, g⟩ all (mk l j) = true)
    (hp : ∀ j, ev (mk l j) p = .string s) (h : Run P f n R (.ops all rest :: k) ((d, .int .i64 s.size) :: l) H M) : Run P f n R (.ops all (⟨some d, .call ⟨.builtin .len, #[p], #[t]⟩, oty, pos, af, g⟩ :: rest) :: k) l H M :=
  run_qt _ (by exact hd) hw (fun j => (qs_lens (hp j)).qt) h
end
end Go.Cam
