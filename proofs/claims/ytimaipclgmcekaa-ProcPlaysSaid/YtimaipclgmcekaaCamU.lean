/- Rules over assertions: stores, arithmetic, parts of structs, rows that are evaluated by instances. -/
import Derived.Test.YtimaipclgmcekaaCamT
namespace Go.Cam
class SetsL (l : List Value) (off : Nat) (vs : List Value) (r : outParam (List Value)) : Prop where
  h : (setL l.toArray off vs) = r.toArray
theorem setL_cons (a : Value) (l : List Value) : ∀ (vs : List Value) (off : Nat), setL (a :: l).toArray (off + 1) vs = (a :: (setL l.toArray off vs).toList).toArray
  | [], off => by simp [setL]
  | v :: r, off => by
    rw [setL, setL]
    have e1 : (a :: l).toArray.setIfInBounds (off + 1) v = (a :: (l.set off v)).toArray := by simp
    have e2 : l.toArray.setIfInBounds off v = (l.set off v).toArray := by simp
    rw [e1, e2, setL_cons]
instance {l} : SetsL l 0 [] l := ⟨rfl⟩
instance {a v l vs r} [p : SetsL l 0 vs r] : SetsL (a :: l) 0 (v :: vs) (v :: r) := ⟨by
  rw [setL]
  have e1 : (a :: l).toArray.setIfInBounds 0 v = (v :: l).toArray := by simp
  rw [e1, setL_cons, p.h]⟩
instance {a l off vs r} [p : SetsL l off vs r] : SetsL (a :: l) (off + 1) vs (a :: r) := ⟨by rw [setL_cons, p.h]⟩
/-- a block of a struct's cells -/
abbrev Box (b ty : Nat) (l : List Value) : HP := .own b (.cells l.toArray ty (0, 0))
/-- a field, in the types' table -/
class FD (P : Program) (s fld : Nat) (ft off : outParam Nat) : Prop where
  h : ∀ cs, cst P (Instr.field s (.agg cs) fld) = cst P (part ft cs off)
/-- values that may be laid: as their cells -/
class Cel (v : Value) (l : outParam (List Value)) : Prop where
  h : v.cells.toList = l
  o : l.all one = true
theorem one_int {k n} : one (.int k n) = true := rfl
instance {k n} : Cel (.int k n) [.int k n] := ⟨rfl, rfl⟩
instance {b} : Cel (.bool b) [.bool b] := ⟨rfl, rfl⟩
instance {s} : Cel (.string s) [.string s] := ⟨rfl, rfl⟩
instance {s} : Cel (.pointer s) [.pointer s] := ⟨rfl, rfl⟩
instance {s} : Cel (.map s) [.map s] := ⟨rfl, rfl⟩
instance {a n c} : Cel (.slice a n c) [.slice a n c] := ⟨rfl, rfl⟩
instance {a b c} : Cel (.func a b c) [.func a b c] := ⟨rfl, rfl⟩
instance : Cel .nilFunc [.nilFunc] := ⟨rfl, rfl⟩
class OneV (v : Value) : Prop where
  h : one v = true
instance {k n} : OneV (.int k n) := ⟨rfl⟩
instance {b} : OneV (.bool b) := ⟨rfl⟩
instance {s} : OneV (.string s) := ⟨rfl⟩
instance {s} : OneV (.pointer s) := ⟨rfl⟩
instance {s} : OneV (.map s) := ⟨rfl⟩
instance {a n c} : OneV (.slice a n c) := ⟨rfl⟩
instance {a b c} : OneV (.func a b c) := ⟨rfl⟩
instance : OneV .nilFunc := ⟨rfl⟩
class OneL (l : List Value) : Prop where
  h : l.all one = true
instance : OneL [] := ⟨rfl⟩
instance {v l} [a : OneV v] [b : OneL l] : OneL (v :: l) := ⟨by simp [a.h, b.h]⟩
instance {l : List Value} [o : OneL l] : Cel (.agg l.toArray) l := ⟨rfl, o.h⟩
section
variable {P : Program} {f : FuncId} {n : Nat} {R : Value → HP} {k : List It} {l : List (Nat × Value)} {As Bs : List HP} {all : Array Oper} {rest : List Oper} {d : Nat} {oty : TypeId} {pos : String} {af : Array Edge} {g : Option (Nat × Bool)}
theorem extract_list (c : List Value) (off m : Nat) : c.toArray.extract off (off + m) = ((c.drop off).take m).toArray := by
  apply Array.ext'; rw [Array.toList_extract, List.extract_eq_take_drop, Nat.add_sub_cancel_left]
theorem lk_ldP {t : TypeId} {x : Operand} {b off m : Nat} {c : List Value} {ty : TypeId} {fr : Nat × Nat} {vs : List Value} [hag : AG P t true] [hs : SZ P t m] (hx : ∀ j, ev (mk l j) x = .pointer (some ⟨b, off, none⟩) := by intro j; rfl)
    (s : Sel (.own b (.cells c.toArray ty fr)) As Bs := by repeat (first | with_reducible exact Sel.here | with_reducible apply Sel.there)) (hv : PartL c off m vs := by infer_instance) (hl : Nat.ble (off + m) c.length = true := by rfl) :
    LookS P ⟨some d, .load t x, oty, pos, af, g⟩ l As (.agg vs.toArray) := .mk fun j _ _ q => qt_ldN rfl (hx j) hag.h hs.h (.inl (s.hold q)) (by simpa using Nat.le_of_ble_eq_true hl) (by rw [extract_list, hv.h])
theorem lk_fld {s : TypeId} {x : Operand} {fld ft off : Nat} {cs : Array Value} {v : Value} [hf : FD P s fld ft off] [hag : AG P ft false] (hx : ∀ j, ev (mk l j) x = .agg cs := by intro j; rfl) (hv : cs[off]? = some v := by rfl) :
    LookS P ⟨some d, .field s x fld, oty, pos, af, g⟩ l As v := .mk fun j H M _ => by
  refine qt_exec (s := Instr.field s (ev (mk l j) x) fld) (by unfold execOp; rfl) fun w0 w _ => ?_
  rw [hx j]
  refine cst_run _ ?_ w
  rw [hf.h]; unfold part
  rw [cst_bind hag.h, if_neg (by simp), hv]; rfl
theorem lk_fldA {s : TypeId} {x : Operand} {fld ft off : Nat} {cs : List Value} {v : Value} [hf : FD P s fld ft off] [hag : AG P ft false] (hx : ∀ j, ev (mk l j) x = .agg cs.toArray := by intro j; rfl) (hv : AtL cs off v := by infer_instance) :
    LookS P ⟨some d, .field s x fld, oty, pos, af, g⟩ l As v := lk_fld hx (by simpa using hv.h)
theorem lk_fldN {s : TypeId} {x : Operand} {fld ft off m : Nat} {cs vs : List Value} [hf : FD P s fld ft off] [hag : AG P ft true] [hs : SZ P ft m] (hx : ∀ j, ev (mk l j) x = .agg cs.toArray := by intro j; rfl) (hv : PartL cs off m vs := by infer_instance) :
    LookS P ⟨some d, .field s x fld, oty, pos, af, g⟩ l As (.agg vs.toArray) := .mk fun j H M _ => by
  refine qt_exec (s := Instr.field s (ev (mk l j) x) fld) (by unfold execOp; rfl) fun w0 w _ => ?_
  rw [hx j]
  refine cst_run _ ?_ w
  rw [hf.h]; unfold part
  rw [cst_bind hag.h, if_pos rfl, cst_bind hs.h, extract_list, hv.h]; rfl
/-- sums and differences that do not wrap -/
theorem lk_add {t t2 : TypeId} {x y : Operand} {a b : Int} (hx : ∀ j, ev (mk l j) x = .int .i64 a := by intro j; rfl) (hy : ∀ j, ev (mk l j) y = .int .i64 b := by intro j; rfl) (h : -9223372036854775808 ≤ a + b ∧ a + b < 9223372036854775808 := by omega) :
    LookS P ⟨some d, .binOp .add t x y t2, oty, pos, af, g⟩ l As (.int .i64 (a + b)) := .mk fun j _ _ _ => by
  refine qs_binw rfl ?_ fun w => ?_
  · rw [hx j, hy j]; rfl
  · rw [hx j, hy j]; show (Op.intArith .add .i64 a b).run P w = _
    have : Op.intArith .add .i64 a b = pure (.int .i64 (IntKind.i64.wrap (a + b))) := rfl
    rw [this, wrap_id h.1 h.2]; rfl
theorem lk_sub {t t2 : TypeId} {x y : Operand} {a b : Int} (hx : ∀ j, ev (mk l j) x = .int .i64 a := by intro j; rfl) (hy : ∀ j, ev (mk l j) y = .int .i64 b := by intro j; rfl) (h : -9223372036854775808 ≤ a - b ∧ a - b < 9223372036854775808 := by omega) :
    LookS P ⟨some d, .binOp .sub t x y t2, oty, pos, af, g⟩ l As (.int .i64 (a - b)) := .mk fun j _ _ _ => by
  refine qs_binw rfl ?_ fun w => ?_
  · rw [hx j, hy j]; rfl
  · rw [hx j, hy j]; show (Op.intArith .sub .i64 a b).run P w = _
    have : Op.intArith .sub .i64 a b = pure (.int .i64 (IntKind.i64.wrap (a - b))) := rfl
    rw [this, wrap_id h.1 h.2]; rfl
theorem lk_mul {t t2 : TypeId} {x y : Operand} {a b : Int} (hx : ∀ j, ev (mk l j) x = .int .i64 a := by intro j; rfl) (hy : ∀ j, ev (mk l j) y = .int .i64 b := by intro j; rfl) (h : -9223372036854775808 ≤ a * b ∧ a * b < 9223372036854775808 := by omega) :
    LookS P ⟨some d, .binOp .mul t x y t2, oty, pos, af, g⟩ l As (.int .i64 (a * b)) := .mk fun j _ _ _ => by
  refine qs_binw rfl ?_ fun w => ?_
  · rw [hx j, hy j]; rfl
  · rw [hx j, hy j]; show (Op.intArith .mul .i64 a b).run P w = _
    have : Op.intArith .mul .i64 a b = pure (.int .i64 (IntKind.i64.wrap (a * b))) := rfl
    rw [this, wrap_id h.1 h.2]; rfl
/-- natural numbers: one more -/
theorem lk_inc {t t2 : TypeId} {x y : Operand} {i c : Nat} (hx : ∀ j, ev (mk l j) x = .int .i64 (i : Int) := by intro j; rfl) (hy : ∀ j, ev (mk l j) y = .int .i64 (c : Int) := by intro j; rfl) (h : i + c < 9223372036854775808 := by omega) :
    LookS P ⟨some d, .binOp .add t x y t2, oty, pos, af, g⟩ l As (.int .i64 ((i + c : Nat) : Int)) := lk_add (by intro j; rw [hx j]) (by intro j; rw [hy j]) (by omega)
/-- a store into a struct's block -/
theorem s_st {t : TypeId} {x y : Operand} {b off m : Nat} {c c' vs : List Value} {ty : TypeId} {v : Value} {As' : List HP} [hs : SZ P t m] (h : RunS P f n R (.ops all rest :: k) l As')
    (hx : ∀ j, ev (mk l j) x = .pointer (some ⟨b, off, none⟩) := by intro j; rfl) (hy : ∀ j, ev (mk l j) y = v := by intro j; rfl)
    (u : Upd (Box b ty c) (Box b ty c') As As' := by repeat (first | with_reducible exact Upd.here | with_reducible apply Upd.there))
    (hcel : Cel v vs := by infer_instance) (hc : SetsL c off vs c' := by infer_instance) (hn : Nat.beq vs.length m = true := by rfl) (hl : Nat.ble (off + m) c.length = true := by rfl)
    (hw : ∀ j, wantE ⟨none, .store t x y, oty, pos, af, g⟩ all (mk l j) = true := by intro j; rfl) : RunS P f n R (.ops all (⟨none, .store t x y, oty, pos, af, g⟩ :: rest) :: k) l As := .mk fun H M q => by
  obtain ⟨Cs, s1, s2⟩ := u.sels
  obtain ⟨hb, hq⟩ := own_write (o' := .cells c'.toArray ty (0, 0)) (s1.sat q)
  have e := hcel.h
  refine run_st b off m v c'.toArray hw hx hy hb ?_ ?_ (by rw [e]; exact hcel.o) (by rw [e]; exact hc.h) (h _ _ (s2.back hq))
  · rw [e]; exact Nat.eq_of_beq_eq_true hn
  · simpa using Nat.le_of_ble_eq_true hl
/-! structs that are built -/
class AtP (pl : List (Nat × Nat)) (i : Nat) (off sz : outParam Nat) : Prop where
  h : pl[i]? = some (off, sz)
instance {a b l} : AtP ((a, b) :: l) 0 a b := ⟨rfl⟩
instance {a l i o s} [p : AtP l i o s] : AtP (a :: l) (i + 1) o s := ⟨by simpa using p.h⟩
class LenL (l : List Value) (n : Nat) : Prop where
  h : l.length = n
instance : LenL [] 0 := ⟨rfl⟩
instance {a l n} [p : LenL l n] : LenL (a :: l) (n + 1) := ⟨by simp [p.h]⟩
theorem SetsL.fits {l : List Value} {off : Nat} {vs r : List Value} (h : SetsL l off vs r) : r.length = l.length := by
  have := congrArg Array.size h.h
  rw [setL_size] at this; simpa using this.symm
class FitsL (l : List Value) (off n : Nat) : Prop where
  h : off + n ≤ l.length
instance {l} : FitsL l 0 0 := ⟨Nat.zero_le _⟩
instance {a l n} [p : FitsL l 0 n] : FitsL (a :: l) 0 (n + 1) := ⟨by have := p.h; simp; omega⟩
instance {a l off n} [p : FitsL l off n] : FitsL (a :: l) (off + 1) n := ⟨by have := p.h; simp; omega⟩
class FillL (pl : List (Nat × Nat)) (z : List Value) (ps : List (Nat × Value)) (r : outParam (List Value)) : Prop where
  h : fillS pl z.toArray ps = some r.toArray
instance {pl z} : FillL pl z [] z := ⟨rfl⟩
instance {pl z i v ps r off sz vs z'} [a : AtP pl i off sz] [c : Cel v vs] [n : LenL vs sz] [f : FitsL z off sz] [s : SetsL z off vs z'] [q : FillL pl z' ps r] : FillL pl z ((i, v) :: ps) r := ⟨by
  unfold fillS
  rw [a.h]
  have e1 : v.cells.size = sz := by have := n.h; rw [← c.h] at this; simpa using this
  have e2 := f.h
  dsimp only
  rw [if_neg (by simp [e1]; omega), c.h, s.h, q.h]⟩
theorem lk_bd0 {t : TypeId} {z : List Value} {pl : List (Nat × Nat)} {r : List Value} [BD P t z.toArray pl]  (hf : FillL pl z [] r := by infer_instance) :
    LookS P ⟨some d, .build t #[], oty, pos, af, g⟩ l As (.agg r.toArray) := lk_bd (ps := []) (by intro j; rw [← hf.h]; simp only [List.map_cons, List.map_nil])
theorem lk_bd1 {t : TypeId} {i0 : Nat} {x0 : Operand} {v0 : Value} {z : List Value} {pl : List (Nat × Nat)} {r : List Value} [BD P t z.toArray pl] (h0 : ∀ j, ev (mk l j) x0 = v0 := by intro j; rfl) (hf : FillL pl z [(i0, v0)] r := by infer_instance) :
    LookS P ⟨some d, .build t #[(i0, x0)], oty, pos, af, g⟩ l As (.agg r.toArray) := lk_bd (ps := [(i0, x0)]) (by intro j; rw [← hf.h]; simp only [List.map_cons, List.map_nil, h0 j])
theorem lk_bd2 {t : TypeId} {i0 i1 : Nat} {x0 x1 : Operand} {v0 v1 : Value} {z : List Value} {pl : List (Nat × Nat)} {r : List Value} [BD P t z.toArray pl] (h0 : ∀ j, ev (mk l j) x0 = v0 := by intro j; rfl) (h1 : ∀ j, ev (mk l j) x1 = v1 := by intro j; rfl) (hf : FillL pl z [(i0, v0), (i1, v1)] r := by infer_instance) :
    LookS P ⟨some d, .build t #[(i0, x0), (i1, x1)], oty, pos, af, g⟩ l As (.agg r.toArray) := lk_bd (ps := [(i0, x0), (i1, x1)]) (by intro j; rw [← hf.h]; simp only [List.map_cons, List.map_nil, h0 j, h1 j])
theorem lk_bd3 {t : TypeId} {i0 i1 i2 : Nat} {x0 x1 x2 : Operand} {v0 v1 v2 : Value} {z : List Value} {pl : List (Nat × Nat)} {r : List Value} [BD P t z.toArray pl] (h0 : ∀ j, ev (mk l j) x0 = v0 := by intro j; rfl) (h1 : ∀ j, ev (mk l j) x1 = v1 := by intro j; rfl) (h2 : ∀ j, ev (mk l j) x2 = v2 := by intro j; rfl) (hf : FillL pl z [(i0, v0), (i1, v1), (i2, v2)] r := by infer_instance) :
    LookS P ⟨some d, .build t #[(i0, x0), (i1, x1), (i2, x2)], oty, pos, af, g⟩ l As (.agg r.toArray) := lk_bd (ps := [(i0, x0), (i1, x1), (i2, x2)]) (by intro j; rw [← hf.h]; simp only [List.map_cons, List.map_nil, h0 j, h1 j, h2 j])
theorem lk_bd4 {t : TypeId} {i0 i1 i2 i3 : Nat} {x0 x1 x2 x3 : Operand} {v0 v1 v2 v3 : Value} {z : List Value} {pl : List (Nat × Nat)} {r : List Value} [BD P t z.toArray pl] (h0 : ∀ j, ev (mk l j) x0 = v0 := by intro j; rfl) (h1 : ∀ j, ev (mk l j) x1 = v1 := by intro j; rfl) (h2 : ∀ j, ev (mk l j) x2 = v2 := by intro j; rfl) (h3 : ∀ j, ev (mk l j) x3 = v3 := by intro j; rfl) (hf : FillL pl z [(i0, v0), (i1, v1), (i2, v2), (i3, v3)] r := by infer_instance) :
    LookS P ⟨some d, .build t #[(i0, x0), (i1, x1), (i2, x2), (i3, x3)], oty, pos, af, g⟩ l As (.agg r.toArray) := lk_bd (ps := [(i0, x0), (i1, x1), (i2, x2), (i3, x3)]) (by intro j; rw [← hf.h]; simp only [List.map_cons, List.map_nil, h0 j, h1 j, h2 j, h3 j])
theorem lk_bd5 {t : TypeId} {i0 i1 i2 i3 i4 : Nat} {x0 x1 x2 x3 x4 : Operand} {v0 v1 v2 v3 v4 : Value} {z : List Value} {pl : List (Nat × Nat)} {r : List Value} [BD P t z.toArray pl] (h0 : ∀ j, ev (mk l j) x0 = v0 := by intro j; rfl) (h1 : ∀ j, ev (mk l j) x1 = v1 := by intro j; rfl) (h2 : ∀ j, ev (mk l j) x2 = v2 := by intro j; rfl) (h3 : ∀ j, ev (mk l j) x3 = v3 := by intro j; rfl) (h4 : ∀ j, ev (mk l j) x4 = v4 := by intro j; rfl) (hf : FillL pl z [(i0, v0), (i1, v1), (i2, v2), (i3, v3), (i4, v4)] r := by infer_instance) :
    LookS P ⟨some d, .build t #[(i0, x0), (i1, x1), (i2, x2), (i3, x3), (i4, x4)], oty, pos, af, g⟩ l As (.agg r.toArray) := lk_bd (ps := [(i0, x0), (i1, x1), (i2, x2), (i3, x3), (i4, x4)]) (by intro j; rw [← hf.h]; simp only [List.map_cons, List.map_nil, h0 j, h1 j, h2 j, h3 j, h4 j])
theorem lk_bd6 {t : TypeId} {i0 i1 i2 i3 i4 i5 : Nat} {x0 x1 x2 x3 x4 x5 : Operand} {v0 v1 v2 v3 v4 v5 : Value} {z : List Value} {pl : List (Nat × Nat)} {r : List Value} [BD P t z.toArray pl] (h0 : ∀ j, ev (mk l j) x0 = v0 := by intro j; rfl) (h1 : ∀ j, ev (mk l j) x1 = v1 := by intro j; rfl) (h2 : ∀ j, ev (mk l j) x2 = v2 := by intro j; rfl) (h3 : ∀ j, ev (mk l j) x3 = v3 := by intro j; rfl) (h4 : ∀ j, ev (mk l j) x4 = v4 := by intro j; rfl) (h5 : ∀ j, ev (mk l j) x5 = v5 := by intro j; rfl) (hf : FillL pl z [(i0, v0), (i1, v1), (i2, v2), (i3, v3), (i4, v4), (i5, v5)] r := by infer_instance) :
    LookS P ⟨some d, .build t #[(i0, x0), (i1, x1), (i2, x2), (i3, x3), (i4, x4), (i5, x5)], oty, pos, af, g⟩ l As (.agg r.toArray) := lk_bd (ps := [(i0, x0), (i1, x1), (i2, x2), (i3, x3), (i4, x4), (i5, x5)]) (by intro j; rw [← hf.h]; simp only [List.map_cons, List.map_nil, h0 j, h1 j, h2 j, h3 j, h4 j, h5 j])
theorem lk_bd7 {t : TypeId} {i0 i1 i2 i3 i4 i5 i6 : Nat} {x0 x1 x2 x3 x4 x5 x6 : Operand} {v0 v1 v2 v3 v4 v5 v6 : Value} {z : List Value} {pl : List (Nat × Nat)} {r : List Value} [BD P t z.toArray pl] (h0 : ∀ j, ev (mk l j) x0 = v0 := by intro j; rfl) (h1 : ∀ j, ev (mk l j) x1 = v1 := by intro j; rfl) (h2 : ∀ j, ev (mk l j) x2 = v2 := by intro j; rfl) (h3 : ∀ j, ev (mk l j) x3 = v3 := by intro j; rfl) (h4 : ∀ j, ev (mk l j) x4 = v4 := by intro j; rfl) (h5 : ∀ j, ev (mk l j) x5 = v5 := by intro j; rfl) (h6 : ∀ j, ev (mk l j) x6 = v6 := by intro j; rfl) (hf : FillL pl z [(i0, v0), (i1, v1), (i2, v2), (i3, v3), (i4, v4), (i5, v5), (i6, v6)] r := by infer_instance) :
    LookS P ⟨some d, .build t #[(i0, x0), (i1, x1), (i2, x2), (i3, x3), (i4, x4), (i5, x5), (i6, x6)], oty, pos, af, g⟩ l As (.agg r.toArray) := lk_bd (ps := [(i0, x0), (i1, x1), (i2, x2), (i3, x3), (i4, x4), (i5, x5), (i6, x6)]) (by intro j; rw [← hf.h]; simp only [List.map_cons, List.map_nil, h0 j, h1 j, h2 j, h3 j, h4 j, h5 j, h6 j])
theorem lk_bd8 {t : TypeId} {i0 i1 i2 i3 i4 i5 i6 i7 : Nat} {x0 x1 x2 x3 x4 x5 x6 x7 : Operand} {v0 v1 v2 v3 v4 v5 v6 v7 : Value} {z : List Value} {pl : List (Nat × Nat)} {r : List Value} [BD P t z.toArray pl] (h0 : ∀ j, ev (mk l j) x0 = v0 := by intro j; rfl) (h1 : ∀ j, ev (mk l j) x1 = v1 := by intro j; rfl) (h2 : ∀ j, ev (mk l j) x2 = v2 := by intro j; rfl) (h3 : ∀ j, ev (mk l j) x3 = v3 := by intro j; rfl) (h4 : ∀ j, ev (mk l j) x4 = v4 := by intro j; rfl) (h5 : ∀ j, ev (mk l j) x5 = v5 := by intro j; rfl) (h6 : ∀ j, ev (mk l j) x6 = v6 := by intro j; rfl) (h7 : ∀ j, ev (mk l j) x7 = v7 := by intro j; rfl) (hf : FillL pl z [(i0, v0), (i1, v1), (i2, v2), (i3, v3), (i4, v4), (i5, v5), (i6, v6), (i7, v7)] r := by infer_instance) :
    LookS P ⟨some d, .build t #[(i0, x0), (i1, x1), (i2, x2), (i3, x3), (i4, x4), (i5, x5), (i6, x6), (i7, x7)], oty, pos, af, g⟩ l As (.agg r.toArray) := lk_bd (ps := [(i0, x0), (i1, x1), (i2, x2), (i3, x3), (i4, x4), (i5, x5), (i6, x6), (i7, x7)]) (by intro j; rw [← hf.h]; simp only [List.map_cons, List.map_nil, h0 j, h1 j, h2 j, h3 j, h4 j, h5 j, h6 j, h7 j])
end
end Go.Cam
