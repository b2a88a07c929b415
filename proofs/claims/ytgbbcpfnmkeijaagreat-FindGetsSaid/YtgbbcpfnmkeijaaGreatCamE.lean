/- The same rules inside a region that draws its order: its looking part, its tail. -/
import Derived.Test.YtgbbcpfnmkeijaaGreatCamD
namespace Go.Cam
section
variable {P : Program} {n : Nat} {l l2 : List (Nat × Value)} {H M : Heap} {all : Array Oper} {rest : List Oper} {K : List (Nat × Value) → Heap → Heap → Prop}
theorem ql_ld {d : Nat} {oty : TypeId} {pos : String} {af : Array Edge} {g : Option (Nat × Bool)} {t : TypeId} {x : Operand} (b off : Nat) {c : Array Value} {ty : TypeId} {fr : Nat × Nat} (v : Value) (hd : Nat.blt d n = true) (hw : ∀ j, wantE ⟨some d, .load t x, oty, pos, af, g⟩ all (mk l j) = true)
    (hx : ∀ j, ev (mk l j) x = .pointer (some ⟨b, off, none⟩)) [hag : AG P t false] (hb : Kn H M b (.cells c ty fr)) (hv : c[off]? = some v)
    (h : QL P n all H M rest ((d, v) :: l) l2) : QL P n all H M (⟨some d, .load t x, oty, pos, af, g⟩ :: rest) l l2 :=
  .yes v (by exact hd) hw (fun j => qt_ld1 rfl (hx j) hag.h hb hv) h
theorem ql_ldN {d : Nat} {oty : TypeId} {pos : String} {af : Array Edge} {g : Option (Nat × Bool)} {t : TypeId} {x : Operand} (b off m : Nat) {c : Array Value} {ty : TypeId} {fr : Nat × Nat} (vs : Array Value) (hd : Nat.blt d n = true) (hw : ∀ j, wantE ⟨some d, .load t x, oty, pos, af, g⟩ all (mk l j) = true)
    (hx : ∀ j, ev (mk l j) x = .pointer (some ⟨b, off, none⟩)) [hag : AG P t true] [hs : SZ P t m] (hb : Kn H M b (.cells c ty fr)) (hl : off + m ≤ c.size)
    (hv : c.extract off (off + m) = vs) (h : QL P n all H M rest ((d, .agg vs) :: l) l2) : QL P n all H M (⟨some d, .load t x, oty, pos, af, g⟩ :: rest) l l2 :=
  .yes (.agg vs) (by exact hd) hw (fun j => qt_ldN rfl (hx j) hag.h hs.h hb hl hv) h
theorem ql_fa {d : Nat} {oty : TypeId} {pos : String} {af : Array Edge} {g : Option (Nat × Bool)} {s : TypeId} {x : Operand} {fld b off fo : Nat} (hd : Nat.blt d n = true) (hw : ∀ j, wantE ⟨some d, .fieldAddr s x fld, oty, pos, af, g⟩ all (mk l j) = true) (hx : ∀ j, ev (mk l j) x = .pointer (some ⟨b, off, none⟩))
    [hf : FO P s fld fo]
    (h : QL P n all H M rest ((d, .pointer (some ⟨b, off + fo, none⟩)) :: l) l2) : QL P n all H M (⟨some d, .fieldAddr s x fld, oty, pos, af, g⟩ :: rest) l l2 :=
  .yes _ (by exact hd) hw (fun j => qt_fa rfl (hx j) hf.h) h
theorem ql_ix {d : Nat} {oty : TypeId} {pos : String} {af : Array Edge} {g : Option (Nat × Bool)} {t : TypeId} {x y : Operand} {m : Nat} {elem : TypeId} {sz b off : Nat} {kd : IntKind} {i : Int} (hd : Nat.blt d n = true) (hw : ∀ j, wantE ⟨some d, .indexAddr t x y, oty, pos, af, g⟩ all (mk l j) = true)
    (hx : ∀ j, ev (mk l j) x = .pointer (some ⟨b, off, none⟩)) (hy : ∀ j, ev (mk l j) y = .int kd i) [hu : AR P t m elem] [hs : SZ P elem sz] (h0 : 0 ≤ i) (h1 : i < m)
    (h : QL P n all H M rest ((d, .pointer (some ⟨b, off + i.toNat * sz, none⟩)) :: l) l2) : QL P n all H M (⟨some d, .indexAddr t x y, oty, pos, af, g⟩ :: rest) l l2 :=
  .yes _ (by exact hd) hw (fun j => qt_ix rfl (hx j) (hy j) hu.h hs.h h0 h1) h
theorem ql_ixs {d : Nat} {oty : TypeId} {pos : String} {af : Array Edge} {g : Option (Nat × Bool)} {t : TypeId} {x y : Operand} {m c : Nat} {elem : TypeId} {sz b off : Nat} {kd : IntKind} {i : Int} (hd : Nat.blt d n = true) (hw : ∀ j, wantE ⟨some d, .indexAddr t x y, oty, pos, af, g⟩ all (mk l j) = true)
    (hx : ∀ j, ev (mk l j) x = .slice (some ⟨b, off, none⟩) m c) (hy : ∀ j, ev (mk l j) y = .int kd i) [hu : SC P t elem] [hs : SZ P elem sz] (h0 : 0 ≤ i) (h1 : i < m)
    (h : QL P n all H M rest ((d, .pointer (some ⟨b, off + i.toNat * sz, none⟩)) :: l) l2) : QL P n all H M (⟨some d, .indexAddr t x y, oty, pos, af, g⟩ :: rest) l l2 :=
  .yes _ (by exact hd) hw (fun j => qt_ixs rfl (hx j) (hy j) hu.h hs.h h0 h1) h
theorem ql_ixa {d : Nat} {oty : TypeId} {pos : String} {af : Array Edge} {g : Option (Nat × Bool)} {t : TypeId} {x y : Operand} {m : Nat} {elem : TypeId} {cs : Array Value} {kd : IntKind} {i : Int} (v : Value) (hd : Nat.blt d n = true) (hw : ∀ j, wantE ⟨some d, .index t x y, oty, pos, af, g⟩ all (mk l j) = true)
    (hx : ∀ j, ev (mk l j) x = .agg cs) (hy : ∀ j, ev (mk l j) y = .int kd i) [hu : AR P t m elem] [hs : SZ P elem 1] [hag : AG P elem false]
    (h0 : 0 ≤ i) (h1 : i < m) (hv : cs[i.toNat]? = some v) (h : QL P n all H M rest ((d, v) :: l) l2) : QL P n all H M (⟨some d, .index t x y, oty, pos, af, g⟩ :: rest) l l2 :=
  .yes _ (by exact hd) hw (fun j => qt_ixa rfl (hx j) (hy j) hu.h hs.h hag.h h0 h1 hv) h
theorem ql_rem {d : Nat} {oty : TypeId} {pos : String} {af : Array Edge} {g : Option (Nat × Bool)} {t t2 : TypeId} {x y : Operand} {kd : IntKind} {p q : Int} (hd : Nat.blt d n = true) (hw : ∀ j, wantE ⟨some d, .binOp .rem t x y t2, oty, pos, af, g⟩ all (mk l j) = true)
    (hx : ∀ j, ev (mk l j) x = .int kd p) (hy : ∀ j, ev (mk l j) y = .int kd q) (hq : q ≠ 0) (h : QL P n all H M rest ((d, .int kd (p.tmod q)) :: l) l2) : QL P n all H M (⟨some d, .binOp .rem t x y t2, oty, pos, af, g⟩ :: rest) l l2 :=
  .yes _ (by exact hd) hw (fun j => qt_bin rfl rfl (by rw [hx j, hy j]; exact cst_rem hq)) h
theorem ql_quo {d : Nat} {oty : TypeId} {pos : String} {af : Array Edge} {g : Option (Nat × Bool)} {t t2 : TypeId} {x y : Operand} {kd : IntKind} {p q : Int} (hd : Nat.blt d n = true) (hw : ∀ j, wantE ⟨some d, .binOp .quo t x y t2, oty, pos, af, g⟩ all (mk l j) = true)
    (hx : ∀ j, ev (mk l j) x = .int kd p) (hy : ∀ j, ev (mk l j) y = .int kd q) (hq : q ≠ 0) (h : QL P n all H M rest ((d, .int kd (kd.wrap (p.tdiv q))) :: l) l2) : QL P n all H M (⟨some d, .binOp .quo t x y t2, oty, pos, af, g⟩ :: rest) l l2 :=
  .yes _ (by exact hd) hw (fun j => qt_bin rfl rfl (by rw [hx j, hy j]; exact cst_quo hq)) h
theorem ql_p {d : Nat} {op : Op} {ty : TypeId} {pos : String} {af : Array Edge} {v : Value} (hv : ∀ j, cst P (execOp (ev (mk l j)) ⟨some d, op, ty, pos, af, none⟩) = some (.value v)) (hd : Nat.blt d n = true)
    (h : QL P n all H M rest ((d, v) :: l) l2) : QL P n all H M (⟨some d, op, ty, pos, af, none⟩ :: rest) l l2 :=
  .yes v hd (fun _ => rfl) (fun j => qt_cst (hv j)) h

theorem ql_y {d : Nat} {op : Op} {ty : TypeId} {pos : String} {af : Array Edge} {g : Option (Nat × Bool)} {v : Value} (hv : ∀ j, cst P (execOp (ev (mk l j)) ⟨some d, op, ty, pos, af, g⟩) = some (.value v)) (hd : Nat.blt d n = true)
    (hw : ∀ j, wantE ⟨some d, op, ty, pos, af, g⟩ all (mk l j) = true) (h : QL P n all H M rest ((d, v) :: l) l2) : QL P n all H M (⟨some d, op, ty, pos, af, g⟩ :: rest) l l2 :=
  .yes v hd hw (fun j => qt_cst (hv j)) h
theorem tl_ld {d : Nat} {oty : TypeId} {pos : String} {af : Array Edge} {g : Option (Nat × Bool)} {t : TypeId} {x : Operand} (b off : Nat) {c : Array Value} {ty : TypeId} {fr : Nat × Nat} (v : Value) (hd : Nat.blt d n = true) (hw : ∀ j, wantE ⟨some d, .load t x, oty, pos, af, g⟩ all (mk l j) = true)
    (hx : ∀ j, ev (mk l j) x = .pointer (some ⟨b, off, none⟩)) [hag : AG P t false] (hb : Kn H M b (.cells c ty fr)) (hv : c[off]? = some v)
    (h : TL P n all rest ((d, v) :: l) H M K) : TL P n all (⟨some d, .load t x, oty, pos, af, g⟩ :: rest) l H M K :=
  tl_qs v (by exact hd) hw (fun j => qt_ld1 rfl (hx j) hag.h hb hv) h
theorem tl_ldN {d : Nat} {oty : TypeId} {pos : String} {af : Array Edge} {g : Option (Nat × Bool)} {t : TypeId} {x : Operand} (b off m : Nat) {c : Array Value} {ty : TypeId} {fr : Nat × Nat} (vs : Array Value) (hd : Nat.blt d n = true) (hw : ∀ j, wantE ⟨some d, .load t x, oty, pos, af, g⟩ all (mk l j) = true)
    (hx : ∀ j, ev (mk l j) x = .pointer (some ⟨b, off, none⟩)) [hag : AG P t true] [hs : SZ P t m] (hb : Kn H M b (.cells c ty fr)) (hl : off + m ≤ c.size)
    (hv : c.extract off (off + m) = vs) (h : TL P n all rest ((d, .agg vs) :: l) H M K) : TL P n all (⟨some d, .load t x, oty, pos, af, g⟩ :: rest) l H M K :=
  tl_qs (.agg vs) (by exact hd) hw (fun j => qt_ldN rfl (hx j) hag.h hs.h hb hl hv) h
theorem tl_fa {d : Nat} {oty : TypeId} {pos : String} {af : Array Edge} {g : Option (Nat × Bool)} {s : TypeId} {x : Operand} {fld b off fo : Nat} (hd : Nat.blt d n = true) (hw : ∀ j, wantE ⟨some d, .fieldAddr s x fld, oty, pos, af, g⟩ all (mk l j) = true) (hx : ∀ j, ev (mk l j) x = .pointer (some ⟨b, off, none⟩))
    [hf : FO P s fld fo]
    (h : TL P n all rest ((d, .pointer (some ⟨b, off + fo, none⟩)) :: l) H M K) : TL P n all (⟨some d, .fieldAddr s x fld, oty, pos, af, g⟩ :: rest) l H M K :=
  tl_qs _ (by exact hd) hw (fun j => qt_fa rfl (hx j) hf.h) h
theorem tl_ix {d : Nat} {oty : TypeId} {pos : String} {af : Array Edge} {g : Option (Nat × Bool)} {t : TypeId} {x y : Operand} {m : Nat} {elem : TypeId} {sz b off : Nat} {kd : IntKind} {i : Int} (hd : Nat.blt d n = true) (hw : ∀ j, wantE ⟨some d, .indexAddr t x y, oty, pos, af, g⟩ all (mk l j) = true)
    (hx : ∀ j, ev (mk l j) x = .pointer (some ⟨b, off, none⟩)) (hy : ∀ j, ev (mk l j) y = .int kd i) [hu : AR P t m elem] [hs : SZ P elem sz] (h0 : 0 ≤ i) (h1 : i < m)
    (h : TL P n all rest ((d, .pointer (some ⟨b, off + i.toNat * sz, none⟩)) :: l) H M K) : TL P n all (⟨some d, .indexAddr t x y, oty, pos, af, g⟩ :: rest) l H M K :=
  tl_qs _ (by exact hd) hw (fun j => qt_ix rfl (hx j) (hy j) hu.h hs.h h0 h1) h
theorem tl_ixs {d : Nat} {oty : TypeId} {pos : String} {af : Array Edge} {g : Option (Nat × Bool)} {t : TypeId} {x y : Operand} {m c : Nat} {elem : TypeId} {sz b off : Nat} {kd : IntKind} {i : Int} (hd : Nat.blt d n = true) (hw : ∀ j, wantE ⟨some d, .indexAddr t x y, oty, pos, af, g⟩ all (mk l j) = true)
    (hx : ∀ j, ev (mk l j) x = .slice (some ⟨b, off, none⟩) m c) (hy : ∀ j, ev (mk l j) y = .int kd i) [hu : SC P t elem] [hs : SZ P elem sz] (h0 : 0 ≤ i) (h1 : i < m)
    (h : TL P n all rest ((d, .pointer (some ⟨b, off + i.toNat * sz, none⟩)) :: l) H M K) : TL P n all (⟨some d, .indexAddr t x y, oty, pos, af, g⟩ :: rest) l H M K :=
  tl_qs _ (by exact hd) hw (fun j => qt_ixs rfl (hx j) (hy j) hu.h hs.h h0 h1) h
theorem tl_ixa {d : Nat} {oty : TypeId} {pos : String} {af : Array Edge} {g : Option (Nat × Bool)} {t : TypeId} {x y : Operand} {m : Nat} {elem : TypeId} {cs : Array Value} {kd : IntKind} {i : Int} (v : Value) (hd : Nat.blt d n = true) (hw : ∀ j, wantE ⟨some d, .index t x y, oty, pos, af, g⟩ all (mk l j) = true)
    (hx : ∀ j, ev (mk l j) x = .agg cs) (hy : ∀ j, ev (mk l j) y = .int kd i) [hu : AR P t m elem] [hs : SZ P elem 1] [hag : AG P elem false]
    (h0 : 0 ≤ i) (h1 : i < m) (hv : cs[i.toNat]? = some v) (h : TL P n all rest ((d, v) :: l) H M K) : TL P n all (⟨some d, .index t x y, oty, pos, af, g⟩ :: rest) l H M K :=
  tl_qs _ (by exact hd) hw (fun j => qt_ixa rfl (hx j) (hy j) hu.h hs.h hag.h h0 h1 hv) h
theorem tl_rem {d : Nat} {oty : TypeId} {pos : String} {af : Array Edge} {g : Option (Nat × Bool)} {t t2 : TypeId} {x y : Operand} {kd : IntKind} {p q : Int} (hd : Nat.blt d n = true) (hw : ∀ j, wantE ⟨some d, .binOp .rem t x y t2, oty, pos, af, g⟩ all (mk l j) = true)
    (hx : ∀ j, ev (mk l j) x = .int kd p) (hy : ∀ j, ev (mk l j) y = .int kd q) (hq : q ≠ 0) (h : TL P n all rest ((d, .int kd (p.tmod q)) :: l) H M K) : TL P n all (⟨some d, .binOp .rem t x y t2, oty, pos, af, g⟩ :: rest) l H M K :=
  tl_qs _ (by exact hd) hw (fun j => qt_bin rfl rfl (by rw [hx j, hy j]; exact cst_rem hq)) h
theorem tl_quo {d : Nat} {oty : TypeId} {pos : String} {af : Array Edge} {g : Option (Nat × Bool)} {t t2 : TypeId} {x y : Operand} {kd : IntKind} {p q : Int} (hd : Nat.blt d n = true) (hw : ∀ j, wantE ⟨some d, .binOp .quo t x y t2, oty, pos, af, g⟩ all (mk l j) = true)
    (hx : ∀ j, ev (mk l j) x = .int kd p) (hy : ∀ j, ev (mk l j) y = .int kd q) (hq : q ≠ 0) (h : TL P n all rest ((d, .int kd (kd.wrap (p.tdiv q))) :: l) H M K) : TL P n all (⟨some d, .binOp .quo t x y t2, oty, pos, af, g⟩ :: rest) l H M K :=
  tl_qs _ (by exact hd) hw (fun j => qt_bin rfl rfl (by rw [hx j, hy j]; exact cst_quo hq)) h
theorem tl_p {d : Nat} {op : Op} {ty : TypeId} {pos : String} {af : Array Edge} {v : Value} (hv : ∀ j, cst P (execOp (ev (mk l j)) ⟨some d, op, ty, pos, af, none⟩) = some (.value v)) (hd : Nat.blt d n = true)
    (h : TL P n all rest ((d, v) :: l) H M K) : TL P n all (⟨some d, op, ty, pos, af, none⟩ :: rest) l H M K :=
  tl_qs v hd (fun _ => rfl) (fun j => qt_cst (hv j)) h

theorem tl_y {d : Nat} {op : Op} {ty : TypeId} {pos : String} {af : Array Edge} {g : Option (Nat × Bool)} {v : Value} (hv : ∀ j, cst P (execOp (ev (mk l j)) ⟨some d, op, ty, pos, af, g⟩) = some (.value v)) (hd : Nat.blt d n = true)
    (hw : ∀ j, wantE ⟨some d, op, ty, pos, af, g⟩ all (mk l j) = true) (h : TL P n all rest ((d, v) :: l) H M K) : TL P n all (⟨some d, op, ty, pos, af, g⟩ :: rest) l H M K :=
  tl_qs v hd hw (fun j => qt_cst (hv j)) h
theorem ql_n {d : Nat} {op : Op} {ty : TypeId} {pos : String} {af : Array Edge} {g : Option (Nat × Bool)} (hd : Nat.blt d n = true)
    (hw : ∀ j, wantE ⟨some d, op, ty, pos, af, g⟩ all (mk l j) = false) (h : QL P n all H M rest ((d, undef) :: l) l2) : QL P n all H M (⟨some d, op, ty, pos, af, g⟩ :: rest) l l2 :=
  .no hd hw h
theorem tl_st {oty : TypeId} {pos : String} {af : Array Edge} {g : Option (Nat × Bool)} {t : TypeId} {x y : Operand} (b off m : Nat) {c : Array Value} {ty : TypeId} (v : Value) (c' : Array Value) (hw : ∀ j, wantE ⟨none, .store t x y, oty, pos, af, g⟩ all (mk l j) = true)
    (hx : ∀ j, ev (mk l j) x = .pointer (some ⟨b, off, none⟩)) (hy : ∀ j, ev (mk l j) y = v) [hs : SZ P t m] (hb : M b = some (.cells c ty (0, 0)))
    (hn : v.cells.toList.length = m) (hl : off + m ≤ c.size) (h1 : v.cells.toList.all one = true) (hc : setL c off v.cells.toList = c')
    (h : TL P n all rest l H (upd M b (.cells c' ty (0, 0))) K) : TL P n all (⟨none, .store t x y, oty, pos, af, g⟩ :: rest) l H M K := by
  refine tl_hm rfl hw fun j => ?_
  show hm P (Instr.storeAt t (ev (mk l j) x) (ev (mk l j) y) >>= fun _ => pure Next.skip) H M _
  rw [hx j, hy j]
  refine hm_bind (hm_st hs.h hb hn hl (fun j _ _ h => by omega) (fun u hu => List.all_eq_true.1 h1 u hu) (hm_pure ⟨undef, .inr ⟨rfl, rfl⟩, ?_⟩))
  rw [hc]; exact h
theorem ql_faz {d : Nat} {oty : TypeId} {pos : String} {af : Array Edge} {g : Option (Nat × Bool)} {s : TypeId} {x : Operand} {fld b off : Nat} (hd : Nat.blt d n = true) (hw : ∀ j, wantE ⟨some d, .fieldAddr s x fld, oty, pos, af, g⟩ all (mk l j) = true) (hx : ∀ j, ev (mk l j) x = .pointer (some ⟨b, off, none⟩))
    [hf : FO P s fld 0]
    (h : QL P n all H M rest ((d, .pointer (some ⟨b, off, none⟩)) :: l) l2) : QL P n all H M (⟨some d, .fieldAddr s x fld, oty, pos, af, g⟩ :: rest) l l2 :=
  .yes _ (by exact hd) hw (fun j => qt_fa rfl (hx j) hf.h) h
theorem ql_zfa {d : Nat} {oty : TypeId} {pos : String} {af : Array Edge} {g : Option (Nat × Bool)} {s : TypeId} {x : Operand} {fld b fo : Nat} (hd : Nat.blt d n = true) (hw : ∀ j, wantE ⟨some d, .fieldAddr s x fld, oty, pos, af, g⟩ all (mk l j) = true) (hx : ∀ j, ev (mk l j) x = .pointer (some ⟨b, 0, none⟩))
    [hf : FO P s fld fo]
    (h : QL P n all H M rest ((d, .pointer (some ⟨b, fo, none⟩)) :: l) l2) : QL P n all H M (⟨some d, .fieldAddr s x fld, oty, pos, af, g⟩ :: rest) l l2 :=
  .yes _ (by exact hd) hw (fun j => (by have := qt_fa (o := ⟨some d, .fieldAddr s x fld, oty, pos, af, g⟩) (H := H) (M := M) rfl (hx j) hf.h; rw [Nat.zero_add] at this; exact this)) h
theorem ql_zix {d : Nat} {oty : TypeId} {pos : String} {af : Array Edge} {g : Option (Nat × Bool)} {t : TypeId} {x y : Operand} {m : Nat} {elem : TypeId} {sz b : Nat} {kd : IntKind} {i : Int} (hd : Nat.blt d n = true) (hw : ∀ j, wantE ⟨some d, .indexAddr t x y, oty, pos, af, g⟩ all (mk l j) = true)
    (hx : ∀ j, ev (mk l j) x = .pointer (some ⟨b, 0, none⟩)) (hy : ∀ j, ev (mk l j) y = .int kd i) [hu : AR P t m elem] [hs : SZ P elem sz] (h0 : 0 ≤ i) (h1 : i < m)
    (h : QL P n all H M rest ((d, .pointer (some ⟨b, i.toNat * sz, none⟩)) :: l) l2) : QL P n all H M (⟨some d, .indexAddr t x y, oty, pos, af, g⟩ :: rest) l l2 :=
  .yes _ (by exact hd) hw (fun j => (by have := qt_ix (o := ⟨some d, .indexAddr t x y, oty, pos, af, g⟩) (H := H) (M := M) rfl (hx j) (hy j) hu.h hs.h h0 h1; rw [Nat.zero_add] at this; exact this)) h
theorem tl_faz {d : Nat} {oty : TypeId} {pos : String} {af : Array Edge} {g : Option (Nat × Bool)} {s : TypeId} {x : Operand} {fld b off : Nat} (hd : Nat.blt d n = true) (hw : ∀ j, wantE ⟨some d, .fieldAddr s x fld, oty, pos, af, g⟩ all (mk l j) = true) (hx : ∀ j, ev (mk l j) x = .pointer (some ⟨b, off, none⟩))
    [hf : FO P s fld 0]
    (h : TL P n all rest ((d, .pointer (some ⟨b, off, none⟩)) :: l) H M K) : TL P n all (⟨some d, .fieldAddr s x fld, oty, pos, af, g⟩ :: rest) l H M K :=
  tl_qs _ (by exact hd) hw (fun j => qt_fa rfl (hx j) hf.h) h
theorem tl_zfa {d : Nat} {oty : TypeId} {pos : String} {af : Array Edge} {g : Option (Nat × Bool)} {s : TypeId} {x : Operand} {fld b fo : Nat} (hd : Nat.blt d n = true) (hw : ∀ j, wantE ⟨some d, .fieldAddr s x fld, oty, pos, af, g⟩ all (mk l j) = true) (hx : ∀ j, ev (mk l j) x = .pointer (some ⟨b, 0, none⟩))
    [hf : FO P s fld fo]
    (h : TL P n all rest ((d, .pointer (some ⟨b, fo, none⟩)) :: l) H M K) : TL P n all (⟨some d, .fieldAddr s x fld, oty, pos, af, g⟩ :: rest) l H M K :=
  tl_qs _ (by exact hd) hw (fun j => (by have := qt_fa (o := ⟨some d, .fieldAddr s x fld, oty, pos, af, g⟩) (H := H) (M := M) rfl (hx j) hf.h; rw [Nat.zero_add] at this; exact this)) h
theorem tl_zix {d : Nat} {oty : TypeId} {pos : String} {af : Array Edge} {g : Option (Nat × Bool)} {t : TypeId} {x y : Operand} {m : Nat} {elem : TypeId} {sz b : Nat} {kd : IntKind} {i : Int} (hd : Nat.blt d n = true) (hw : ∀ j, wantE ⟨some d, .indexAddr t x y, oty, pos, af, g⟩ all (mk l j) = true)
    (hx : ∀ j, ev (mk l j) x = .pointer (some ⟨b, 0, none⟩)) (hy : ∀ j, ev (mk l j) y = .int kd i) [hu : AR P t m elem] [hs : SZ P elem sz] (h0 : 0 ≤ i) (h1 : i < m)
    (h : TL P n all rest ((d, .pointer (some ⟨b, i.toNat * sz, none⟩)) :: l) H M K) : TL P n all (⟨some d, .indexAddr t x y, oty, pos, af, g⟩ :: rest) l H M K :=
  tl_qs _ (by exact hd) hw (fun j => (by have := qt_ix (o := ⟨some d, .indexAddr t x y, oty, pos, af, g⟩) (H := H) (M := M) rfl (hx j) (hy j) hu.h hs.h h0 h1; rw [Nat.zero_add] at this; exact this)) h
end
/-! ### Results that lie in cells -/
inductive RV (P : Program) (H M : Heap) (e : Nat → Value) : List ResultVar → List Value → Prop
  | nil : RV P H M e [] []
  | tmp {t r vs} (v : Value) : e t = v → RV P H M e r vs → RV P H M e (.tmp t :: r) (v :: vs)
  | cell {a t r vs} (b off m : Nat) {c : Array Value} {ty : TypeId} {fr : Nat × Nat} (us : Array Value) : e a = .pointer (some ⟨b, off, none⟩) → cst P (isAgg t) = some true → cst P (sizeOf t) = some m → Kn H M b (.cells c ty fr) →
      off + m ≤ c.size → c.extract off (off + m) = us → RV P H M e r vs → RV P H M e (.cell a t :: r) (.agg us :: vs)
theorem loadVar_known {P : Program} {H M : Heap} {t : TypeId} {b off n : Nat} {c : Array Value} {ty : TypeId} {fr : Nat × Nat} {vs : Array Value} {w0 w : World} (hh : Has w0 w H M)
    (hag : cst P (isAgg t) = some true) (hs : cst P (sizeOf t) = some n) (hb : Kn H M b (.cells c ty fr)) (hl : off + n ≤ c.size) (hv : c.extract off (off + n) = vs) : (loadVar t ⟨b, off, none⟩).run P w = .ok (.agg vs) w := by
  unfold loadVar
  rw [hm_run_bind _ _ w (cst_run _ hag w), if_pos rfl, hm_run_bind _ _ w (cst_run _ hs w)]
  have h2 : (loadCells ⟨b, off, none⟩ n).run P w = .ok vs w := by
    have := loadCells_known (P := P) hh hb n 0 #[] (by omega)
    simp only [Nat.add_zero, Array.empty_append, hv] at this
    exact this
  rw [hm_run_bind _ _ w h2]; rfl
theorem RV.run {P : Program} {H M : Heap} {e : Nat → Value} {r : List ResultVar} {vs : List Value} (h : RV P H M e r vs) {w0 w : World} (hh : Has w0 w H M) : (resL e r).run P w = .ok vs w := by
  induction h with
  | nil => rfl
  | tmp v hv _ ih =>
    show (resL e _ >>= fun vs => pure (e _ :: vs)).run P w = _
    rw [hm_run_bind _ _ w ih, hv]; rfl
  | cell b off m us ha hag hs hb hl hv _ ih =>
    show ((asAddr (e _) >>= fun x => loadVar _ x) >>= fun v => resL e _ >>= fun vs => pure (v :: vs)).run P w = _
    rw [ha]
    have h1 : (asAddr (.pointer (some ⟨b, off, none⟩)) >>= fun x => loadVar _ x).run P w = .ok (.agg us) w := loadVar_known hh hag hs hb hl hv
    rw [hm_run_bind _ _ w h1, hm_run_bind _ _ w ih]; rfl
def resv : List Value → Value
  | [v] => v
  | vs => .tuple vs.toArray
theorem run_retv {P : Program} {f : FuncId} {n : Nat} {R : Post} {k : List It} {l : List (Nat × Value)} {H M : Heap} {fn : Func} {rs : List ResultVar} (vs : List Value) (hf : P.funcs[f]? = some fn) (hrs : fn.results.toList = rs)
    (hr : ∀ j, RV P H M (mk l j) rs vs) (hR : R (resv vs) H M) : Run P f n R (.code .ret :: k) l H M := by
  refine run_ret hf (fun j w0 w hh => ?_) hR
  unfold resE
  rw [hrs, hm_run_bind _ _ w ((hr j).run hh)]
  match vs with
  | [] => rfl
  | [v] => rfl
  | _ :: _ :: _ => rfl
/-! ### Only these blocks have changed -/
def Ch (bs : List Nat) (M M' : Heap) : Prop := ∀ c o, c ∉ bs → M c = some o → M' c = some o
theorem Ch.refl (bs : List Nat) (M : Heap) : Ch bs M M := fun _ _ _ h => h
theorem Ch.trans {bs : List Nat} {M M1 M2 : Heap} (a : Ch bs M M1) (b : Ch bs M1 M2) : Ch bs M M2 := fun c o hc h => b c o hc (a c o hc h)
theorem Ch.mono {bs bs' : List Nat} {M M' : Heap} (h : Ch bs M M') (hs : ∀ c, c ∈ bs → c ∈ bs') : Ch bs' M M' := fun c o hc => h c o fun hm => hc (hs c hm)
theorem Ch.new {bs : List Nat} {M M1 H : Heap} (a : Ch bs M M1) {r : Nat} (hr : Fresh H M1 r) (o : Obj) : Ch bs M (upd M1 r o) := fun c o' hc h => hr.old (a c o' hc h)
theorem Ch.st {bs : List Nat} {M M1 : Heap} (a : Ch bs M M1) {b : Nat} (hb : b ∈ bs) (o : Obj) : Ch bs M (upd M1 b o) := fun c o' hc h => by
  rw [upd_ne (fun e => hc (by rw [e]; exact hb))]; exact a c o' hc h
/-- a store into a block that was not there at the beginning -/
theorem Ch.box {bs : List Nat} {M M1 : Heap} (a : Ch bs M M1) {r : Nat} (hr : ∀ o, M r ≠ some o) (o : Obj) : Ch bs M (upd M1 r o) := fun c o' hc h => by
  rw [upd_ne (fun e : c = r => hr o' (by rw [← e]; exact h))]; exact a c o' hc h
/-- a block that is new at a later time was not there at the beginning, if it is none of those that changed -/
theorem Ch.none {bs : List Nat} {M M1 H : Heap} (a : Ch bs M M1) {r : Nat} (hr : Fresh H M1 r) (hb : r ∉ bs) : ∀ o, M r ≠ some o := fun o h => by
  have := a r o hb h; rw [hr.2] at this; cases this
theorem Fresh.none {M H : Heap} {r : Nat} (hr : Fresh H M r) : ∀ o, M r ≠ some o := fun o h => by rw [hr.2] at h; cases h
/-- a block came; a block was written -/
def New (M : Heap) (r : Nat) (M1 : Heap) : Prop := ∀ c o, M c = some o → M1 c = some o ∧ c ≠ r
def Put (M : Heap) (b : Nat) (M1 : Heap) : Prop := ∀ c o, c ≠ b → M c = some o → M1 c = some o
theorem New.of {M H : Heap} {r : Nat} (hr : Fresh H M r) (o : Obj) : New M r (upd M r o) := fun _ _ h => ⟨hr.old h, hr.ne h⟩
theorem Put.of (M : Heap) (b : Nat) (o : Obj) : Put M b (upd M b o) := fun _ _ hc h => by rw [upd_ne hc]; exact h
theorem Ch.new' {bs : List Nat} {M0 M M1 : Heap} {r : Nat} (a : Ch bs M0 M) (k : New M r M1) : Ch bs M0 M1 := fun c o hc h => (k c o (a c o hc h)).1
theorem Ch.put' {bs : List Nat} {M0 M M1 : Heap} {b : Nat} (a : Ch bs M0 M) (k : Put M b M1) (hb : b ∈ bs) : Ch bs M0 M1 := fun c o hc h => k c o (fun e => hc (e ▸ hb)) (a c o hc h)
theorem Ch.box' {bs : List Nat} {M0 M M1 : Heap} {r : Nat} (a : Ch bs M0 M) (k : Put M r M1) (hr : ∀ o, M0 r ≠ some o) : Ch bs M0 M1 := fun c o hc h => k c o (fun e => hr o (by rw [← e]; exact h)) (a c o hc h)
theorem New.none {bs : List Nat} {M0 M M1 : Heap} {r : Nat} (a : Ch bs M0 M) (k : New M r M1) (hb : r ∉ bs) : ∀ o, M0 r ≠ some o := fun o h => (k r o (a r o hb h)).2 rfl
section
variable {P : Program} {f : FuncId} {n : Nat} {R : Post} {k : List It} {l : List (Nat × Value)} {H M : Heap} {all : Array Oper} {rest : List Oper} {K : List (Nat × Value) → Heap → Heap → Prop}
theorem run_newA {d : Nat} {op : Op} {ty : TypeId} {pos : String} {af : Array Edge} {g : Option (Nat × Bool)} (ob : Obj) (hd : Nat.blt d n = true) (hw : ∀ j, wantE ⟨some d, op, ty, pos, af, g⟩ all (mk l j) = true)
    (hx : ∀ j, (cstNew P (execOp (ev (mk l j)) ⟨some d, op, ty, pos, af, g⟩)).map (fun x => (x.1, fun r => cst P (x.2 r))) = some (ob, fun r => some (.value (.pointer (some ⟨r, 0, none⟩)))))
    (h : ∀ r M1, M1 r = some ob → New M r M1 → Run P f n R (.ops all rest :: k) ((d, .pointer (some ⟨r, 0, none⟩)) :: l) H M1) : Run P f n R (.ops all (⟨some d, op, ty, pos, af, g⟩ :: rest) :: k) l H M :=
  run_new ob _ hd hw hx fun r hr => h r _ (upd_same _ _ _) (New.of hr ob)
theorem run_stA {oty : TypeId} {pos : String} {af : Array Edge} {g : Option (Nat × Bool)} {t : TypeId} {x y : Operand} (b off m : Nat) {c : Array Value} {ty : TypeId} (v : Value) (c' : Array Value) (hw : ∀ j, wantE ⟨none, .store t x y, oty, pos, af, g⟩ all (mk l j) = true)
    (hx : ∀ j, ev (mk l j) x = .pointer (some ⟨b, off, none⟩)) (hy : ∀ j, ev (mk l j) y = v) [hs : SZ P t m] (hb : M b = some (.cells c ty (0, 0)))
    (hn : v.cells.toList.length = m) (hl : off + m ≤ c.size) (h1 : v.cells.toList.all one = true) (hc : setL c off v.cells.toList = c')
    (h : ∀ M1, M1 b = some (.cells c' ty (0, 0)) → Put M b M1 → Run P f n R (.ops all rest :: k) l H M1) : Run P f n R (.ops all (⟨none, .store t x y, oty, pos, af, g⟩ :: rest) :: k) l H M :=
  run_st b off m v c' hw hx hy hb hn hl h1 hc (h _ (upd_same _ _ _) (Put.of _ _ _))
theorem tl_stA {oty : TypeId} {pos : String} {af : Array Edge} {g : Option (Nat × Bool)} {t : TypeId} {x y : Operand} (b off m : Nat) {c : Array Value} {ty : TypeId} (v : Value) (c' : Array Value) (hw : ∀ j, wantE ⟨none, .store t x y, oty, pos, af, g⟩ all (mk l j) = true)
    (hx : ∀ j, ev (mk l j) x = .pointer (some ⟨b, off, none⟩)) (hy : ∀ j, ev (mk l j) y = v) [hs : SZ P t m] (hb : M b = some (.cells c ty (0, 0)))
    (hn : v.cells.toList.length = m) (hl : off + m ≤ c.size) (h1 : v.cells.toList.all one = true) (hc : setL c off v.cells.toList = c')
    (h : ∀ M1, M1 b = some (.cells c' ty (0, 0)) → Put M b M1 → TL P n all rest l H M1 K) : TL P n all (⟨none, .store t x y, oty, pos, af, g⟩ :: rest) l H M K :=
  tl_st b off m v c' hw hx hy hb hn hl h1 hc (h _ (upd_same _ _ _) (Put.of _ _ _))
end
theorem in1 {b : Nat} : b ∈ [b] := List.mem_singleton.2 rfl
theorem nin1 {b r : Nat} (h : b ≠ r) : r ∉ [b] := fun e => h (List.mem_singleton.1 e).symm
theorem upd_old {M : Heap} {b r : Nat} {o o' : Obj} (hb : M b = some o) (h : b ≠ r) : upd M r o' b = some o := by rw [upd_ne h]; exact hb
theorem wrap_id {x : Int} (h0 : -9223372036854775808 ≤ x) (h1 : x < 9223372036854775808) : IntKind.i64.wrap x = x := by
  simp [IntKind.wrap, IntKind.bits, IntKind.signed]; omega
theorem wrap_nat {i : Nat} (h : i < 4611686018427387904) : IntKind.i64.wrap ((i : Int) + 1) = ((i + 1 : Nat) : Int) := by
  rw [wrap_id (by omega) (by omega)]; omega
end Go.Cam
