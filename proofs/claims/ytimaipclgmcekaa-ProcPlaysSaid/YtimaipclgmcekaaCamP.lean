/- Arrays that begin zero; numbers that were handed in. -/
import Derived.Test.YtimaipclgmcekaaCamO
namespace Go.Cam
class ZA (P : Program) (t : Nat) (cells : outParam (Array Value)) : Prop where
  h : ∃ v, cst P (zeroValue t) = some v ∧ v.cells = cells
section
variable {P : Program} {f : FuncId} {n : Nat} {R : Post} {k : List It} {l : List (Nat × Value)} {H M : Heap} {all : Array Oper} {rest : List Oper}
theorem qs_bda {t m e sz : Nat} {cells : Array Value} {d : Option Nat} {oty : TypeId} {pos : String} {af : Array Edge} {g : Option (Nat × Bool)} {en : Nat → Value} [ar : AR P t m e] [s : SZ P e sz] [za : ZA P t cells] : Qs P ⟨d, .build t #[], oty, pos, af, g⟩ en H M (.agg cells) := by
  obtain ⟨v, hz, rfl⟩ := za.h
  refine qt_exec (s := Instr.build t ((#[] : Array (Nat × Operand)).map fun x => (x.1, ev en x.2))) (by unfold execOp; rfl) fun w0 w _ => ?_
  refine cst_run _ ?_ w
  rw [Array.map_empty]
  unfold Instr.build
  rw [cst_bind hz, cst_bind ar.h]
  dsimp only
  rw [cst_bind s.h]
  rfl
theorem run_bda {d : Nat} {oty : TypeId} {pos : String} {af : Array Edge} {g : Option (Nat × Bool)} {t m e sz : Nat} {cells : Array Value} [AR P t m e] [SZ P e sz] [ZA P t cells] (hd : Nat.blt d n = true) (hw : ∀ j, wantE ⟨some d, .build t #[], oty, pos, af, g⟩ all (mk l j) = true)
    (h : Run P f n R (.ops all rest :: k) ((d, .agg cells) :: l) H M) : Run P f n R (.ops all (⟨some d, .build t #[], oty, pos, af, g⟩ :: rest) :: k) l H M :=
  run_qt _ (by exact hd) hw (fun j => (qs_bda (e := e) (sz := sz)).qt) h
end
/-- a row of numbers that is only read -/
def Ints (H : Heap) (v : Value) (xs : List Int) : Prop := ∃ base cap, v = .slice base xs.length cap ∧ (∀ i (h : i < xs.length), ∃ b off c ty fr, base = some ⟨b, off, none⟩ ∧ H b = some (.cells c ty fr) ∧ c[off + i]? = some (.int .i64 xs[i])) ∧
  ∀ x, x ∈ xs → -9223372036854775808 ≤ x ∧ x < 9223372036854775808
theorem Mn.nil {M0 M M' : Heap} {bs : List Nat} {e sz r : Nat} (hr : M' r = some (.cells #[] e (0, 0))) (hk : New M r M') (hch : Ch bs M0 M) (hb : ∀ c, c ∈ bs → ∃ o, M c = some o) : Mn M0 bs e sz M' (.slice (some ⟨r, 0, none⟩) 0 0) [] := by
  refine ⟨own_nil hr, fun c hc => ?_⟩
  simp only [ob, Option.some.injEq] at hc
  subst hc
  have hnb : r ∉ bs := fun e => by obtain ⟨o, ho⟩ := hb r e; exact (hk _ _ ho).2 rfl
  exact ⟨hnb, hk.none hch hnb⟩
end Go.Cam
