/- Rules over assertions: blocks of cells, and slices whose blocks have no name. -/
import Derived.Test.YtmlddafbenfilaaDoorCamS
namespace Go.Cam
class PartL (l : List Value) (off m : Nat) (r : outParam (List Value)) : Prop where
  h : (l.drop off).take m = r
instance {l} : PartL l 0 0 [] := ⟨by simp⟩
instance {a l m r} [p : PartL l 0 m r] : PartL (a :: l) 0 (m + 1) (a :: r) := ⟨by have := p.h; simp at this ⊢; exact this⟩
instance {a l off m r} [p : PartL l off m r] : PartL (a :: l) (off + 1) m r := ⟨by have := p.h; simpa using this⟩
class AtL (l : List Value) (i : Nat) (v : outParam Value) : Prop where
  h : l[i]? = some v
instance {a l} : AtL (a :: l) 0 a := ⟨rfl⟩
instance {a l i v} [p : AtL l i v] : AtL (a :: l) (i + 1) v := ⟨by simpa using p.h⟩
/-- rows of cells, one behind the other -/
def flat (n : Nat) (row : Nat → List Value) : List Value := (List.range n).flatMap row
theorem flat_succ (n : Nat) (row : Nat → List Value) : flat (n + 1) row = flat n row ++ row n := by simp [flat, List.range_succ]
theorem flat_len {sz : Nat} {row : Nat → List Value} : ∀ {n : Nat}, (∀ i, i < n → (row i).length = sz) → (flat n row).length = n * sz
  | 0, _ => by simp [flat]
  | n + 1, h => by rw [flat_succ, List.length_append, flat_len fun i hi => h i (by omega), h n (by omega), Nat.add_mul, Nat.one_mul]
theorem flat_add (n m : Nat) (row : Nat → List Value) : flat (n + m) row = flat n row ++ flat m (fun i => row (n + i)) := by
  induction m with
  | zero => simp [flat]
  | succ m ih => rw [← Nat.add_assoc, flat_succ, ih, flat_succ, List.append_assoc]
theorem flat_congr {row row' : Nat → List Value} : ∀ {n : Nat}, (∀ i, i < n → row i = row' i) → flat n row = flat n row'
  | 0, _ => rfl
  | n + 1, h => by rw [flat_succ, flat_succ, flat_congr fun i hi => h i (by omega), h n (by omega)]
theorem flat_part {sz : Nat} {row : Nat → List Value} {n i k : Nat} (h : ∀ i, i < n → (row i).length = sz) (hi : i + k ≤ n) : ((flat n row).drop (i * sz)).take (k * sz) = flat k (fun q => row (i + q)) := by
  obtain ⟨m, rfl⟩ : ∃ m, n = i + k + m := ⟨n - (i + k), by omega⟩
  rw [flat_add, flat_add, List.append_assoc, List.drop_left' (flat_len fun q hq => h q (by omega)), List.take_left' (flat_len fun q hq => h _ (by omega))]
theorem flat_one (row : Nat → List Value) : flat 1 row = row 0 := by simp [flat]
theorem flat_row {sz : Nat} {row : Nat → List Value} {n i : Nat} (h : ∀ i, i < n → (row i).length = sz) (hi : i < n) : ((flat n row).drop (i * sz)).take sz = row i := by
  have := flat_part (k := 1) h (show i + 1 ≤ n by omega)
  rw [Nat.one_mul, flat_one] at this; simpa using this
/-- a slice's cells, as K knows its block -/
def SlK (K : Nat → Obj → Prop) (sz : Nat) (v : Value) (n : Nat) (row : Nat → List Value) : Prop :=
  ∃ base cap, v = .slice base n cap ∧ n ≤ cap ∧ (∀ i, i < n → (row i).length = sz) ∧
    (0 < n → ∃ b off c ty fr, base = some ⟨b, off, none⟩ ∧ K b (.cells c ty fr) ∧ off + n * sz ≤ c.size ∧ c.extract off (off + n * sz) = (flat n row).toArray)
def SlO (M : Heap) (e sz : Nat) (v : Value) (n : Nat) (row : Nat → List Value) : Prop := (∀ i, i < n → (row i).length = sz) ∧ (flat n row).all one = true ∧ Own M e sz v (flat n row) ∧ ∃ base cap, v = .slice base n cap
/-- a slice of n elements of sz cells each; of one's own (some e), or only read (none) -/
def SA : Option Nat → Nat → Value → Nat → (Nat → List Value) → HP
  | none, sz, v, n, row => .per (fun H => SlK (fun b o => H b = some o) sz v n row) fun hl ⟨base, cap, e, hc, h1, h2⟩ => ⟨base, cap, e, hc, h1, fun h0 => by
      obtain ⟨b, off, c, ty, fr, a, k, r⟩ := h2 h0; exact ⟨b, off, c, ty, fr, a, hl _ _ k, r⟩⟩
  | some e, sz, v, n, row => ⟨fun _ M => SlO M e sz v n row, fun _ hl ⟨h1, h2, h3, h4⟩ => ⟨h1, h2, h3.frame fun c o _ h => hl c o h, h4⟩⟩
instance {sz v n row} : Per (SA none sz v n row) := ⟨fun h => h⟩
theorem SA.rd {m : Option Nat} {sz : Nat} {v : Value} {n : Nat} {row : Nat → List Value} {H M : Heap} (h : (SA m sz v n row).p H M) : SlK (Kn H M) sz v n row := by
  cases m with
  | none =>
    obtain ⟨base, cap, e, hc, h1, h2⟩ := h
    exact ⟨base, cap, e, hc, h1, fun h0 => by obtain ⟨b, off, c, ty, fr, a, k, r⟩ := h2 h0; exact ⟨b, off, c, ty, fr, a, .inr k, r⟩⟩
  | some e =>
    obtain ⟨h1, _, h2, base, cap, hv⟩ := h
    subst hv
    rcases h2 with ⟨e1, e2⟩ | ⟨b, len, cap', cs, e1, h3, h4, h5, h6, h7⟩
    · cases e1; exact ⟨_, _, rfl, Nat.le_refl _, h1, fun h => absurd h (by omega)⟩
    · cases e1
      refine ⟨_, _, rfl, h5, h1, fun h0 => ⟨b, 0, cs, e, (0, 0), rfl, .inl h6, ?_, ?_⟩⟩
      · rw [h4]; have := Nat.mul_le_mul_right sz h5; omega
      · apply Array.ext'
        rw [Array.toList_extract, List.extract_eq_take_drop, flat_len h1] at *
        simpa using h7
theorem SA.val {m : Option Nat} {sz : Nat} {v : Value} {n : Nat} {row : Nat → List Value} {H M : Heap} (h : (SA m sz v n row).p H M) : ∃ base cap, v = .slice base n cap ∧ n ≤ cap := by
  obtain ⟨base, cap, e, hc, _⟩ := SA.rd h; exact ⟨base, cap, e, hc⟩
/-- what an assertion lets read as a slice -/
class Rd (A : HP) (sz : outParam Nat) (v : Value) (n : outParam Nat) (row : outParam (Nat → List Value)) : Prop where
  h : ∀ H M, A.p H M → SlK (Kn H M) sz v n row
instance {m sz v n row} : Rd (SA m sz v n row) sz v n row := ⟨fun _ _ h => SA.rd h⟩
inductive SelR : List HP → Nat → Value → Nat → (Nat → List Value) → Prop
  | here {A sz v n row r} [Rd A sz v n row] : SelR (A :: r) sz v n row
  | there {x r sz v n row} : SelR r sz v n row → SelR (x :: r) sz v n row
theorem SelR.rd {As : List HP} {sz : Nat} {v : Value} {n : Nat} {row : Nat → List Value} (s : SelR As sz v n row) {H M : Heap} (h : (Sat As).p H M) : SlK (Kn H M) sz v n row := by
  induction s generalizing M with
  | here => rename_i r; exact r.h _ _ (star_fst h)
  | there _ ih => exact ih (star_snd h)
/-- the address of a cell of an element -/
def eptr (v : Value) (sz i fo : Nat) : Value := match v with
  | .slice (some a) _ _ => .pointer (some (a.add (i * sz + fo)))
  | _ => .pointer none
theorem SlK.elem {K : Nat → Obj → Prop} {sz : Nat} {v : Value} {n : Nat} {row : Nat → List Value} (h : SlK K sz v n row) {i : Nat} (hi : i < n) :
    ∃ b off c ty fr cap, v = .slice (some ⟨b, off, none⟩) n cap ∧ K b (.cells c ty fr) ∧ off + i * sz + sz ≤ c.size ∧ c.extract (off + i * sz) (off + i * sz + sz) = (row i).toArray ∧ (row i).length = sz ∧ ∀ fo, eptr v sz i fo = .pointer (some ⟨b, off + (i * sz + fo), none⟩) := by
  obtain ⟨base, cap, rfl, hc, h1, h2⟩ := h
  obtain ⟨b, off, c, ty, fr, rfl, k, hs, hx⟩ := h2 (by omega)
  have hle : (i + 1) * sz ≤ n * sz := Nat.mul_le_mul_right _ hi
  rw [Nat.add_mul, Nat.one_mul] at hle
  refine ⟨b, off, c, ty, fr, cap, rfl, k, by omega, ?_, h1 i hi, fun fo => by simp [eptr, addr_add]⟩
  rw [← flat_row h1 hi]
  apply Array.ext'
  have := congrArg Array.toList hx
  rw [Array.toList_extract, List.extract_eq_take_drop] at this ⊢
  dsimp only at this ⊢
  rw [← this, Nat.add_sub_cancel_left, Nat.add_sub_cancel_left, List.drop_take, List.take_take, List.drop_drop, Nat.min_eq_left (by omega)]
section
variable {P : Program} {l : List (Nat × Value)} {As Bs : List HP} {d : Nat} {oty : TypeId} {pos : String} {af : Array Edge} {g : Option (Nat × Bool)}
/-- a pure operation, as one that looks -/
theorem lk_p {op : Op} {v : Value} (hv : ∀ j, cst P (execOp (ev (mk l j)) ⟨some d, op, oty, pos, af, g⟩) = some (.value v) := by intro j; rfl) : LookS P ⟨some d, op, oty, pos, af, g⟩ l As v :=
  .mk fun j _ _ _ => qt_cst (hv j)
theorem lk_fa {s : TypeId} {x : Operand} {fld b off fo : Nat} [hf : FO P s fld fo] (hx : ∀ j, ev (mk l j) x = .pointer (some ⟨b, off, none⟩) := by intro j; rfl) :
    LookS P ⟨some d, .fieldAddr s x fld, oty, pos, af, g⟩ l As (.pointer (some ⟨b, off + fo, none⟩)) := .mk fun j _ _ _ => qt_fa rfl (hx j) hf.h
theorem lk_zfa {s : TypeId} {x : Operand} {fld b fo : Nat} [hf : FO P s fld fo] (hx : ∀ j, ev (mk l j) x = .pointer (some ⟨b, 0, none⟩) := by intro j; rfl) :
    LookS P ⟨some d, .fieldAddr s x fld, oty, pos, af, g⟩ l As (.pointer (some ⟨b, fo, none⟩)) := .mk fun j H M _ => by
  have := qt_fa (o := ⟨some d, .fieldAddr s x fld, oty, pos, af, g⟩) (H := H) (M := M) rfl (hx j) hf.h; rwa [Nat.zero_add] at this
theorem lk_faz {s : TypeId} {x : Operand} {fld b off : Nat} [hf : FO P s fld 0] (hx : ∀ j, ev (mk l j) x = .pointer (some ⟨b, off, none⟩) := by intro j; rfl) :
    LookS P ⟨some d, .fieldAddr s x fld, oty, pos, af, g⟩ l As (.pointer (some ⟨b, off, none⟩)) := .mk fun j H M _ => by
  have := qt_fa (o := ⟨some d, .fieldAddr s x fld, oty, pos, af, g⟩) (H := H) (M := M) rfl (hx j) hf.h; rwa [Nat.add_zero] at this
theorem lk_ix {t : TypeId} {x y : Operand} {m elem sz b off : Nat} {kd : IntKind} {i : Nat} [hu : AR P t m elem] [hs : SZ P elem sz] (hx : ∀ j, ev (mk l j) x = .pointer (some ⟨b, off, none⟩) := by intro j; rfl)
    (hy : ∀ j, ev (mk l j) y = .int kd (i : Int) := by intro j; rfl) (hi : i < m := by omega) : LookS P ⟨some d, .indexAddr t x y, oty, pos, af, g⟩ l As (.pointer (some ⟨b, off + i * sz, none⟩)) := .mk fun j H M _ => by
  have := qt_ix (o := ⟨some d, .indexAddr t x y, oty, pos, af, g⟩) (H := H) (M := M) rfl (hx j) (hy j) hu.h hs.h (by omega) (by omega); simpa using this
theorem lk_zix {t : TypeId} {x y : Operand} {m elem sz b : Nat} {kd : IntKind} {i : Nat} [hu : AR P t m elem] [hs : SZ P elem sz] (hx : ∀ j, ev (mk l j) x = .pointer (some ⟨b, 0, none⟩) := by intro j; rfl)
    (hy : ∀ j, ev (mk l j) y = .int kd (i : Int) := by intro j; rfl) (hi : i < m := by omega) : LookS P ⟨some d, .indexAddr t x y, oty, pos, af, g⟩ l As (.pointer (some ⟨b, i * sz, none⟩)) := .mk fun j H M _ => by
  have := qt_ix (o := ⟨some d, .indexAddr t x y, oty, pos, af, g⟩) (H := H) (M := M) rfl (hx j) (hy j) hu.h hs.h (by omega) (by omega); simpa using this
/-- an element of a slice -/
theorem lk_ixs {t : TypeId} {x y : Operand} {elem sz n : Nat} {kd : IntKind} {v : Value} {i : Nat} {row : Nat → List Value} [hu : SC P t elem] [hs : SZ P elem sz] (hx : ∀ j, ev (mk l j) x = v := by intro j; rfl)
    (hy : ∀ j, ev (mk l j) y = .int kd (i : Int) := by intro j; rfl) (s : SelR As sz v n row := by repeat (first | with_reducible exact SelR.here | with_reducible apply SelR.there)) (hi : i < n := by omega) :
    LookS P ⟨some d, .indexAddr t x y, oty, pos, af, g⟩ l As (eptr v sz i 0) := .mk fun j H M q => by
  obtain ⟨b, off, c, ty, fr, cap, hv, _, _, _, _, hp⟩ := (s.rd q).elem hi
  rw [hp 0]
  have := qt_ixs (o := ⟨some d, .indexAddr t x y, oty, pos, af, g⟩) (H := H) (M := M) rfl ((hx j).trans hv) (hy j) hu.h hs.h (by omega) (by omega); simpa using this
theorem lk_fae {st : TypeId} {x : Operand} {fld fo fo' sz n : Nat} {v : Value} {i : Nat} {row : Nat → List Value} [hf : FO P st fld fo'] (hx : ∀ j, ev (mk l j) x = eptr v sz i fo := by intro j; rfl)
    (s : SelR As sz v n row := by repeat (first | with_reducible exact SelR.here | with_reducible apply SelR.there)) (hi : i < n := by omega) :
    LookS P ⟨some d, .fieldAddr st x fld, oty, pos, af, g⟩ l As (eptr v sz i (fo + fo')) := .mk fun j H M q => by
  obtain ⟨b, off, c, ty, fr, cap, hv, _, _, _, _, hp⟩ := (s.rd q).elem hi
  rw [hp]
  have := qt_fa (o := ⟨some d, .fieldAddr _ x fld, oty, pos, af, g⟩) (H := H) (M := M) rfl ((hx j).trans (hp fo)) hf.h; simpa [Nat.add_assoc] using this
/-- loads -/
theorem lk_ld {t : TypeId} {x : Operand} {b off : Nat} {c : Array Value} {ty : TypeId} {fr : Nat × Nat} {v : Value} [hag : AG P t false] (hx : ∀ j, ev (mk l j) x = .pointer (some ⟨b, off, none⟩) := by intro j; rfl)
    (s : Sel (.own b (.cells c ty fr)) As Bs := by repeat (first | with_reducible exact Sel.here | with_reducible apply Sel.there)) (hv : c[off]? = some v := by rfl) :
    LookS P ⟨some d, .load t x, oty, pos, af, g⟩ l As v := .mk fun j _ _ q => qt_ld1 rfl (hx j) hag.h (.inl (s.hold q)) hv
theorem lk_ldA {t : TypeId} {x : Operand} {b off : Nat} {c : List Value} {ty : TypeId} {fr : Nat × Nat} {v : Value} [hag : AG P t false] (hx : ∀ j, ev (mk l j) x = .pointer (some ⟨b, off, none⟩) := by intro j; rfl)
    (s : Sel (.own b (.cells c.toArray ty fr)) As Bs := by repeat (first | with_reducible exact Sel.here | with_reducible apply Sel.there)) (hv : AtL c off v := by infer_instance) :
    LookS P ⟨some d, .load t x, oty, pos, af, g⟩ l As v := lk_ld hx s (by simpa using hv.h)
/-- a whole block is loaded -/
theorem lk_ldW {t : TypeId} {x : Operand} {b m : Nat} {c : Array Value} {ty : TypeId} {fr : Nat × Nat} [hag : AG P t true] [hs : SZ P t m] (hx : ∀ j, ev (mk l j) x = .pointer (some ⟨b, 0, none⟩) := by intro j; rfl)
    (s : Sel (.own b (.cells c ty fr)) As Bs := by repeat (first | with_reducible exact Sel.here | with_reducible apply Sel.there)) (hl : c.size = m := by rfl) :
    LookS P ⟨some d, .load t x, oty, pos, af, g⟩ l As (.agg c) := .mk fun j _ _ q => qt_ldN rfl (hx j) hag.h hs.h (.inl (s.hold q)) (by omega) (extract_whole hl)
theorem lk_lde {t : TypeId} {x : Operand} {fo sz n i : Nat} {v u : Value} {row : Nat → List Value} [hag : AG P t false] (hx : ∀ j, ev (mk l j) x = eptr v sz i fo := by intro j; rfl)
    (s : SelR As sz v n row := by repeat (first | with_reducible exact SelR.here | with_reducible apply SelR.there)) (hv : (row i)[fo]? = some u := by rfl) (hi : i < n := by omega) :
    LookS P ⟨some d, .load t x, oty, pos, af, g⟩ l As u := .mk fun j H M q => by
  obtain ⟨b, off, c, ty, fr, cap, _, k, hs, hx2, hl, hp⟩ := (s.rd q).elem hi
  refine qt_ld1 rfl ((hx j).trans (hp fo)) hag.h k ?_
  have hfo : fo < (row i).length := by
    rcases Nat.lt_or_ge fo (row i).length with h | h
    · exact h
    · rw [List.getElem?_eq_none h] at hv; cases hv
  have := congrArg (fun a => a[fo]?) hx2
  rw [Array.getElem?_extract, if_pos (by omega)] at this
  rw [← Nat.add_assoc, this]; simpa using hv
theorem lk_ldeA {t : TypeId} {x : Operand} {fo sz n i : Nat} {v u : Value} {row : Nat → List Value} [hag : AG P t false] (hx : ∀ j, ev (mk l j) x = eptr v sz i fo := by intro j; rfl)
    (s : SelR As sz v n row := by repeat (first | with_reducible exact SelR.here | with_reducible apply SelR.there)) (hv : AtL (row i) fo u := by infer_instance) (hi : i < n := by omega) :
    LookS P ⟨some d, .load t x, oty, pos, af, g⟩ l As u := lk_lde hx s hv.h hi
theorem lk_ldeN {t : TypeId} {x : Operand} {fo sz n i k : Nat} {v : Value} {vs : List Value} {row : Nat → List Value} [hag : AG P t true] [hs : SZ P t k] (hx : ∀ j, ev (mk l j) x = eptr v sz i fo := by intro j; rfl)
    (s : SelR As sz v n row := by repeat (first | with_reducible exact SelR.here | with_reducible apply SelR.there)) (hv : PartL (row i) fo k vs := by infer_instance) (hk : fo + k ≤ sz := by decide) (hi : i < n := by omega) :
    LookS P ⟨some d, .load t x, oty, pos, af, g⟩ l As (.agg vs.toArray) := .mk fun j H M q => by
  obtain ⟨b, off, c, ty, fr, cap, _, kn, hsz, hx2, hl, hp⟩ := (s.rd q).elem hi
  refine qt_ldN rfl ((hx j).trans (hp fo)) hag.h hs.h kn (by omega) ?_
  rw [← hv.h]
  apply Array.ext'
  have := congrArg Array.toList hx2
  rw [Array.toList_extract, List.extract_eq_take_drop, Nat.add_sub_cancel_left] at this ⊢
  dsimp only at this ⊢
  rw [← this]
  simp only [List.drop_take, List.take_take, List.drop_drop]
  rw [Nat.min_eq_left (by omega), Nat.add_assoc]
theorem lk_len {t : TypeId} {p : Operand} {a : Option Addr} {n c el : Nat} [sc : SC P t el] (hx : ∀ j, ev (mk l j) p = .slice a n c := by intro j; rfl) :
    LookS P ⟨some d, .call ⟨.builtin .len, #[p], #[t]⟩, oty, pos, af, g⟩ l As (.int .i64 (n : Int)) := .mk fun j _ _ _ => qs_len (hx j)
theorem lk_lens {t : TypeId} {p : Operand} {s : ByteArray} [sc : STY P t] (hx : ∀ j, ev (mk l j) p = .string s := by intro j; rfl) :
    LookS P ⟨some d, .call ⟨.builtin .len, #[p], #[t]⟩, oty, pos, af, g⟩ l As (.int .i64 (s.size : Int)) := .mk fun j _ _ _ => qs_lens (hx j)
/-- an element of an array's value -/
theorem lk_ixa {t : TypeId} {x y : Operand} {m elem : Nat} {cs : Array Value} {kd : IntKind} {i : Nat} {v : Value} [hu : AR P t m elem] [hs : SZ P elem 1] [hag : AG P elem false] (hx : ∀ j, ev (mk l j) x = .agg cs := by intro j; rfl)
    (hy : ∀ j, ev (mk l j) y = .int kd (i : Int) := by intro j; rfl) (hv : cs[i]? = some v := by rfl) (hi : i < m := by omega) : LookS P ⟨some d, .index t x y, oty, pos, af, g⟩ l As v := .mk fun j _ _ _ =>
  qt_ixa rfl (hx j) (hy j) hu.h hs.h hag.h (by omega) (by omega) (by simpa using hv)
theorem lk_ixaN {t : TypeId} {x y : Operand} {m elem sz : Nat} {cs vs : Array Value} {kd : IntKind} {i : Nat} [hu : AR P t m elem] [hs : SZ P elem sz] [hag : AG P elem true] (hx : ∀ j, ev (mk l j) x = .agg cs := by intro j; rfl)
    (hy : ∀ j, ev (mk l j) y = .int kd (i : Int) := by intro j; rfl) (hv : cs.extract (i * sz) (i * sz + sz) = vs := by rfl) (hi : i < m := by omega) : LookS P ⟨some d, .index t x y, oty, pos, af, g⟩ l As (.agg vs) := .mk fun j _ _ _ =>
  qs_ixA rfl (hx j) (hy j) hu.h hs.h hag.h (by omega) (by omega) (by simpa using hv)
theorem lk_bd {t : TypeId} {ps : List (Nat × Operand)} {z : Array Value} {pl : List (Nat × Nat)} [BD P t z pl] {cells : Array Value} (hf : ∀ j, fillS pl z (ps.map fun x => (x.1, ev (mk l j) x.2)) = some cells := by intro j; rfl) :
    LookS P ⟨some d, .build t ps.toArray, oty, pos, af, g⟩ l As (.agg cells) := .mk fun j _ _ _ => qs_bd (hf j)
end
end Go.Cam
/- Rules over assertions: stores, arithmetic, parts of structs, rows that are evaluated by instances. -/
namespace Go.Cam
class SetsL (l : List Value) (off : Nat) (vs : List Value) (r : outParam (List Value)) : Prop where
  h : (setL l.toArray off vs) = r.toArray
theorem setL_cons (a : Value) (l : List Value) : ∀ (vs : List Value) (off : Nat), setL (a :: l).toArray (off + 1) vs = (a :: (setL l.toArray off vs).toList).toArray
  | [], off => by simp [setL]
  | v :: r, off => by
    rw [setL, setL]
    have e1 : (a :: l).toArray.setIfInBounds (off + 1) v = (a :: (l.set off v)).toArray := by simp
    have e2 : l.toArray.setIfInBounds off v = (l.set off v).toArray := by simp
    rw [e1, e2, setL_cons]
instance {l} : SetsL l 0 [] l := ⟨rfl⟩
instance {a v l vs r} [p : SetsL l 0 vs r] : SetsL (a :: l) 0 (v :: vs) (v :: r) := ⟨by
  rw [setL]
  have e1 : (a :: l).toArray.setIfInBounds 0 v = (v :: l).toArray := by simp
  rw [e1, setL_cons, p.h]⟩
instance {a l off vs r} [p : SetsL l off vs r] : SetsL (a :: l) (off + 1) vs (a :: r) := ⟨by rw [setL_cons, p.h]⟩
/-- a block of a struct's cells -/
abbrev Box (b ty : Nat) (l : List Value) : HP := .own b (.cells l.toArray ty (0, 0))
/-- a field, in the types' table -/
class FD (P : Program) (s fld : Nat) (ft off : outParam Nat) : Prop where
  h : ∀ cs, cst P (Instr.field s (.agg cs) fld) = cst P (part ft cs off)
/-- values that may be laid: as their cells -/
class Cel (v : Value) (l : outParam (List Value)) : Prop where
  h : v.cells.toList = l
  o : l.all one = true
instance {k n} : Cel (.int k n) [.int k n] := ⟨rfl, rfl⟩
instance {b} : Cel (.bool b) [.bool b] := ⟨rfl, rfl⟩
instance {s} : Cel (.string s) [.string s] := ⟨rfl, rfl⟩
instance {s} : Cel (.pointer s) [.pointer s] := ⟨rfl, rfl⟩
instance {s} : Cel (.map s) [.map s] := ⟨rfl, rfl⟩
instance {a n c} : Cel (.slice a n c) [.slice a n c] := ⟨rfl, rfl⟩
instance {a b c} : Cel (.func a b c) [.func a b c] := ⟨rfl, rfl⟩
instance : Cel .nilFunc [.nilFunc] := ⟨rfl, rfl⟩
class OneV (v : Value) : Prop where
  h : one v = true
instance {k n} : OneV (.int k n) := ⟨rfl⟩
instance {b} : OneV (.bool b) := ⟨rfl⟩
instance {s} : OneV (.string s) := ⟨rfl⟩
instance {s} : OneV (.pointer s) := ⟨rfl⟩
instance {s} : OneV (.map s) := ⟨rfl⟩
instance {a n c} : OneV (.slice a n c) := ⟨rfl⟩
instance {a b c} : OneV (.func a b c) := ⟨rfl⟩
instance : OneV .nilFunc := ⟨rfl⟩
class OneL (l : List Value) : Prop where
  h : l.all one = true
instance : OneL [] := ⟨rfl⟩
instance {v l} [a : OneV v] [b : OneL l] : OneL (v :: l) := ⟨by simp [a.h, b.h]⟩
instance {l : List Value} [o : OneL l] : Cel (.agg l.toArray) l := ⟨rfl, o.h⟩
section
variable {P : Program} {f : FuncId} {n : Nat} {R : Value → HP} {k : List It} {l : List (Nat × Value)} {As Bs : List HP} {all : Array Oper} {rest : List Oper} {d : Nat} {oty : TypeId} {pos : String} {af : Array Edge} {g : Option (Nat × Bool)}
theorem extract_list (c : List Value) (off m : Nat) : c.toArray.extract off (off + m) = ((c.drop off).take m).toArray := by
  apply Array.ext'; rw [Array.toList_extract, List.extract_eq_take_drop, Nat.add_sub_cancel_left]
theorem lk_ldP {t : TypeId} {x : Operand} {b off m : Nat} {c : List Value} {ty : TypeId} {fr : Nat × Nat} {vs : List Value} [hag : AG P t true] [hs : SZ P t m] (hx : ∀ j, ev (mk l j) x = .pointer (some ⟨b, off, none⟩) := by intro j; rfl)
    (s : Sel (.own b (.cells c.toArray ty fr)) As Bs := by repeat (first | with_reducible exact Sel.here | with_reducible apply Sel.there)) (hv : PartL c off m vs := by infer_instance) (hl : Nat.ble (off + m) c.length = true := by rfl) :
    LookS P ⟨some d, .load t x, oty, pos, af, g⟩ l As (.agg vs.toArray) := .mk fun j _ _ q => qt_ldN rfl (hx j) hag.h hs.h (.inl (s.hold q)) (by simpa using Nat.le_of_ble_eq_true hl) (by rw [extract_list, hv.h])
theorem lk_fld {s : TypeId} {x : Operand} {fld ft off : Nat} {cs : Array Value} {v : Value} [hf : FD P s fld ft off] [hag : AG P ft false] (hx : ∀ j, ev (mk l j) x = .agg cs := by intro j; rfl) (hv : cs[off]? = some v := by rfl) :
    LookS P ⟨some d, .field s x fld, oty, pos, af, g⟩ l As v := .mk fun j H M _ => by
  refine qt_exec (s := Instr.field s (ev (mk l j) x) fld) (by unfold execOp; rfl) fun w0 w _ => ?_
  rw [hx j]
  refine cst_run _ ?_ w
  rw [hf.h]; unfold part
  rw [cst_bind hag.h, if_neg (by simp), hv]; rfl
theorem lk_fldA {s : TypeId} {x : Operand} {fld ft off : Nat} {cs : List Value} {v : Value} [hf : FD P s fld ft off] [hag : AG P ft false] (hx : ∀ j, ev (mk l j) x = .agg cs.toArray := by intro j; rfl) (hv : AtL cs off v := by infer_instance) :
    LookS P ⟨some d, .field s x fld, oty, pos, af, g⟩ l As v := lk_fld hx (by simpa using hv.h)
theorem lk_fldN {s : TypeId} {x : Operand} {fld ft off m : Nat} {cs vs : List Value} [hf : FD P s fld ft off] [hag : AG P ft true] [hs : SZ P ft m] (hx : ∀ j, ev (mk l j) x = .agg cs.toArray := by intro j; rfl) (hv : PartL cs off m vs := by infer_instance) :
    LookS P ⟨some d, .field s x fld, oty, pos, af, g⟩ l As (.agg vs.toArray) := .mk fun j H M _ => by
  refine qt_exec (s := Instr.field s (ev (mk l j) x) fld) (by unfold execOp; rfl) fun w0 w _ => ?_
  rw [hx j]
  refine cst_run _ ?_ w
  rw [hf.h]; unfold part
  rw [cst_bind hag.h, if_pos rfl, cst_bind hs.h, extract_list, hv.h]; rfl
/-- sums and differences that do not wrap -/
theorem lk_add {t t2 : TypeId} {x y : Operand} {a b : Int} (hx : ∀ j, ev (mk l j) x = .int .i64 a := by intro j; rfl) (hy : ∀ j, ev (mk l j) y = .int .i64 b := by intro j; rfl) (h : -9223372036854775808 ≤ a + b ∧ a + b < 9223372036854775808 := by omega) :
    LookS P ⟨some d, .binOp .add t x y t2, oty, pos, af, g⟩ l As (.int .i64 (a + b)) := .mk fun j _ _ _ => by
  refine qs_binw rfl ?_ fun w => ?_
  · rw [hx j, hy j]; rfl
  · rw [hx j, hy j]; show (Op.intArith .add .i64 a b).run P w = _
    have : Op.intArith .add .i64 a b = pure (.int .i64 (IntKind.i64.wrap (a + b))) := rfl
    rw [this, wrap_id h.1 h.2]; rfl
theorem lk_sub {t t2 : TypeId} {x y : Operand} {a b : Int} (hx : ∀ j, ev (mk l j) x = .int .i64 a := by intro j; rfl) (hy : ∀ j, ev (mk l j) y = .int .i64 b := by intro j; rfl) (h : -9223372036854775808 ≤ a - b ∧ a - b < 9223372036854775808 := by omega) :
    LookS P ⟨some d, .binOp .sub t x y t2, oty, pos, af, g⟩ l As (.int .i64 (a - b)) := .mk fun j _ _ _ => by
  refine qs_binw rfl ?_ fun w => ?_
  · rw [hx j, hy j]; rfl
  · rw [hx j, hy j]; show (Op.intArith .sub .i64 a b).run P w = _
    have : Op.intArith .sub .i64 a b = pure (.int .i64 (IntKind.i64.wrap (a - b))) := rfl
    rw [this, wrap_id h.1 h.2]; rfl
/-- natural numbers: one more -/
theorem lk_inc {t t2 : TypeId} {x y : Operand} {i c : Nat} (hx : ∀ j, ev (mk l j) x = .int .i64 (i : Int) := by intro j; rfl) (hy : ∀ j, ev (mk l j) y = .int .i64 (c : Int) := by intro j; rfl) (h : i + c < 9223372036854775808 := by omega) :
    LookS P ⟨some d, .binOp .add t x y t2, oty, pos, af, g⟩ l As (.int .i64 ((i + c : Nat) : Int)) := lk_add (by intro j; rw [hx j]) (by intro j; rw [hy j]) (by omega)
/-- a store into a struct's block -/
theorem s_st {t : TypeId} {x y : Operand} {b off m : Nat} {c c' vs : List Value} {ty : TypeId} {v : Value} {As' : List HP} [hs : SZ P t m] (h : RunS P f n R (.ops all rest :: k) l As')
    (hx : ∀ j, ev (mk l j) x = .pointer (some ⟨b, off, none⟩) := by intro j; rfl) (hy : ∀ j, ev (mk l j) y = v := by intro j; rfl)
    (u : Upd (Box b ty c) (Box b ty c') As As' := by repeat (first | with_reducible exact Upd.here | with_reducible apply Upd.there))
    (hcel : Cel v vs := by infer_instance) (hc : SetsL c off vs c' := by infer_instance) (hn : Nat.beq vs.length m = true := by rfl) (hl : Nat.ble (off + m) c.length = true := by rfl)
    (hw : ∀ j, wantE ⟨none, .store t x y, oty, pos, af, g⟩ all (mk l j) = true := by intro j; rfl) : RunS P f n R (.ops all (⟨none, .store t x y, oty, pos, af, g⟩ :: rest) :: k) l As := .mk fun H M q => by
  obtain ⟨Cs, s1, s2⟩ := u.sels
  obtain ⟨hb, hq⟩ := own_write (o' := .cells c'.toArray ty (0, 0)) (s1.sat q)
  have e := hcel.h
  refine run_st b off m v c'.toArray hw hx hy hb ?_ ?_ (by rw [e]; exact hcel.o) (by rw [e]; exact hc.h) (h _ _ (s2.back hq))
  · rw [e]; exact Nat.eq_of_beq_eq_true hn
  · simpa using Nat.le_of_ble_eq_true hl
class AtP (pl : List (Nat × Nat)) (i : Nat) (off sz : outParam Nat) : Prop where
  h : pl[i]? = some (off, sz)
instance {a b l} : AtP ((a, b) :: l) 0 a b := ⟨rfl⟩
instance {a l i o s} [p : AtP l i o s] : AtP (a :: l) (i + 1) o s := ⟨by simpa using p.h⟩
class LenL (l : List Value) (n : Nat) : Prop where
  h : l.length = n
instance : LenL [] 0 := ⟨rfl⟩
instance {a l n} [p : LenL l n] : LenL (a :: l) (n + 1) := ⟨by simp [p.h]⟩
theorem SetsL.fits {l : List Value} {off : Nat} {vs r : List Value} (h : SetsL l off vs r) : r.length = l.length := by
  have := congrArg Array.size h.h
  rw [setL_size] at this; simpa using this.symm
class FitsL (l : List Value) (off n : Nat) : Prop where
  h : off + n ≤ l.length
instance {l} : FitsL l 0 0 := ⟨Nat.zero_le _⟩
instance {a l n} [p : FitsL l 0 n] : FitsL (a :: l) 0 (n + 1) := ⟨by have := p.h; simp; omega⟩
instance {a l off n} [p : FitsL l off n] : FitsL (a :: l) (off + 1) n := ⟨by have := p.h; simp; omega⟩
class FillL (pl : List (Nat × Nat)) (z : List Value) (ps : List (Nat × Value)) (r : outParam (List Value)) : Prop where
  h : fillS pl z.toArray ps = some r.toArray
instance {pl z} : FillL pl z [] z := ⟨rfl⟩
instance {pl z i v ps r off sz vs z'} [a : AtP pl i off sz] [c : Cel v vs] [n : LenL vs sz] [f : FitsL z off sz] [s : SetsL z off vs z'] [q : FillL pl z' ps r] : FillL pl z ((i, v) :: ps) r := ⟨by
  unfold fillS
  rw [a.h]
  have e1 : v.cells.size = sz := by have := n.h; rw [← c.h] at this; simpa using this
  have e2 := f.h
  dsimp only
  rw [if_neg (by simp [e1]; omega), c.h, s.h, q.h]⟩
theorem lk_bd0 {t : TypeId} {z : List Value} {pl : List (Nat × Nat)} {r : List Value} [BD P t z.toArray pl]  (hf : FillL pl z [] r := by infer_instance) :
    LookS P ⟨some d, .build t #[], oty, pos, af, g⟩ l As (.agg r.toArray) := lk_bd (ps := []) (by intro j; rw [← hf.h]; simp only [List.map_cons, List.map_nil])
theorem lk_bd1 {t : TypeId} {i0 : Nat} {x0 : Operand} {v0 : Value} {z : List Value} {pl : List (Nat × Nat)} {r : List Value} [BD P t z.toArray pl] (h0 : ∀ j, ev (mk l j) x0 = v0 := by intro j; rfl) (hf : FillL pl z [(i0, v0)] r := by infer_instance) :
    LookS P ⟨some d, .build t #[(i0, x0)], oty, pos, af, g⟩ l As (.agg r.toArray) := lk_bd (ps := [(i0, x0)]) (by intro j; rw [← hf.h]; simp only [List.map_cons, List.map_nil, h0 j])
theorem lk_bd2 {t : TypeId} {i0 i1 : Nat} {x0 x1 : Operand} {v0 v1 : Value} {z : List Value} {pl : List (Nat × Nat)} {r : List Value} [BD P t z.toArray pl] (h0 : ∀ j, ev (mk l j) x0 = v0 := by intro j; rfl) (h1 : ∀ j, ev (mk l j) x1 = v1 := by intro j; rfl) (hf : FillL pl z [(i0, v0), (i1, v1)] r := by infer_instance) :
    LookS P ⟨some d, .build t #[(i0, x0), (i1, x1)], oty, pos, af, g⟩ l As (.agg r.toArray) := lk_bd (ps := [(i0, x0), (i1, x1)]) (by intro j; rw [← hf.h]; simp only [List.map_cons, List.map_nil, h0 j, h1 j])
theorem lk_bd3 {t : TypeId} {i0 i1 i2 : Nat} {x0 x1 x2 : Operand} {v0 v1 v2 : Value} {z : List Value} {pl : List (Nat × Nat)} {r : List Value} [BD P t z.toArray pl] (h0 : ∀ j, ev (mk l j) x0 = v0 := by intro j; rfl) (h1 : ∀ j, ev (mk l j) x1 = v1 := by intro j; rfl) (h2 : ∀ j, ev (mk l j) x2 = v2 := by intro j; rfl) (hf : FillL pl z [(i0, v0), (i1, v1), (i2, v2)] r := by infer_instance) :
    LookS P ⟨some d, .build t #[(i0, x0), (i1, x1), (i2, x2)], oty, pos, af, g⟩ l As (.agg r.toArray) := lk_bd (ps := [(i0, x0), (i1, x1), (i2, x2)]) (by intro j; rw [← hf.h]; simp only [List.map_cons, List.map_nil, h0 j, h1 j, h2 j])
theorem lk_bd4 {t : TypeId} {i0 i1 i2 i3 : Nat} {x0 x1 x2 x3 : Operand} {v0 v1 v2 v3 : Value} {z : List Value} {pl : List (Nat × Nat)} {r : List Value} [BD P t z.toArray pl] (h0 : ∀ j, ev (mk l j) x0 = v0 := by intro j; rfl) (h1 : ∀ j, ev (mk l j) x1 = v1 := by intro j; rfl) (h2 : ∀ j, ev (mk l j) x2 = v2 := by intro j; rfl) (h3 : ∀ j, ev (mk l j) x3 = v3 := by intro j; rfl) (hf : FillL pl z [(i0, v0), (i1, v1), (i2, v2), (i3, v3)] r := by infer_instance) :
    LookS P ⟨some d, .build t #[(i0, x0), (i1, x1), (i2, x2), (i3, x3)], oty, pos, af, g⟩ l As (.agg r.toArray) := lk_bd (ps := [(i0, x0), (i1, x1), (i2, x2), (i3, x3)]) (by intro j; rw [← hf.h]; simp only [List.map_cons, List.map_nil, h0 j, h1 j, h2 j, h3 j])
theorem lk_bd5 {t : TypeId} {i0 i1 i2 i3 i4 : Nat} {x0 x1 x2 x3 x4 : Operand} {v0 v1 v2 v3 v4 : Value} {z : List Value} {pl : List (Nat × Nat)} {r : List Value} [BD P t z.toArray pl] (h0 : ∀ j, ev (mk l j) x0 = v0 := by intro j; rfl) (h1 : ∀ j, ev (mk l j) x1 = v1 := by intro j; rfl) (h2 : ∀ j, ev (mk l j) x2 = v2 := by intro j; rfl) (h3 : ∀ j, ev (mk l j) x3 = v3 := by intro j; rfl) (h4 : ∀ j, ev (mk l j) x4 = v4 := by intro j; rfl) (hf : FillL pl z [(i0, v0), (i1, v1), (i2, v2), (i3, v3), (i4, v4)] r := by infer_instance) :
    LookS P ⟨some d, .build t #[(i0, x0), (i1, x1), (i2, x2), (i3, x3), (i4, x4)], oty, pos, af, g⟩ l As (.agg r.toArray) := lk_bd (ps := [(i0, x0), (i1, x1), (i2, x2), (i3, x3), (i4, x4)]) (by intro j; rw [← hf.h]; simp only [List.map_cons, List.map_nil, h0 j, h1 j, h2 j, h3 j, h4 j])
theorem lk_bd6 {t : TypeId} {i0 i1 i2 i3 i4 i5 : Nat} {x0 x1 x2 x3 x4 x5 : Operand} {v0 v1 v2 v3 v4 v5 : Value} {z : List Value} {pl : List (Nat × Nat)} {r : List Value} [BD P t z.toArray pl] (h0 : ∀ j, ev (mk l j) x0 = v0 := by intro j; rfl) (h1 : ∀ j, ev (mk l j) x1 = v1 := by intro j; rfl) (h2 : ∀ j, ev (mk l j) x2 = v2 := by intro j; rfl) (h3 : ∀ j, ev (mk l j) x3 = v3 := by intro j; rfl) (h4 : ∀ j, ev (mk l j) x4 = v4 := by intro j; rfl) (h5 : ∀ j, ev (mk l j) x5 = v5 := by intro j; rfl) (hf : FillL pl z [(i0, v0), (i1, v1), (i2, v2), (i3, v3), (i4, v4), (i5, v5)] r := by infer_instance) :
    LookS P ⟨some d, .build t #[(i0, x0), (i1, x1), (i2, x2), (i3, x3), (i4, x4), (i5, x5)], oty, pos, af, g⟩ l As (.agg r.toArray) := lk_bd (ps := [(i0, x0), (i1, x1), (i2, x2), (i3, x3), (i4, x4), (i5, x5)]) (by intro j; rw [← hf.h]; simp only [List.map_cons, List.map_nil, h0 j, h1 j, h2 j, h3 j, h4 j, h5 j])
theorem lk_bd7 {t : TypeId} {i0 i1 i2 i3 i4 i5 i6 : Nat} {x0 x1 x2 x3 x4 x5 x6 : Operand} {v0 v1 v2 v3 v4 v5 v6 : Value} {z : List Value} {pl : List (Nat × Nat)} {r : List Value} [BD P t z.toArray pl] (h0 : ∀ j, ev (mk l j) x0 = v0 := by intro j; rfl) (h1 : ∀ j, ev (mk l j) x1 = v1 := by intro j; rfl) (h2 : ∀ j, ev (mk l j) x2 = v2 := by intro j; rfl) (h3 : ∀ j, ev (mk l j) x3 = v3 := by intro j; rfl) (h4 : ∀ j, ev (mk l j) x4 = v4 := by intro j; rfl) (h5 : ∀ j, ev (mk l j) x5 = v5 := by intro j; rfl) (h6 : ∀ j, ev (mk l j) x6 = v6 := by intro j; rfl) (hf : FillL pl z [(i0, v0), (i1, v1), (i2, v2), (i3, v3), (i4, v4), (i5, v5), (i6, v6)] r := by infer_instance) :
    LookS P ⟨some d, .build t #[(i0, x0), (i1, x1), (i2, x2), (i3, x3), (i4, x4), (i5, x5), (i6, x6)], oty, pos, af, g⟩ l As (.agg r.toArray) := lk_bd (ps := [(i0, x0), (i1, x1), (i2, x2), (i3, x3), (i4, x4), (i5, x5), (i6, x6)]) (by intro j; rw [← hf.h]; simp only [List.map_cons, List.map_nil, h0 j, h1 j, h2 j, h3 j, h4 j, h5 j, h6 j])
theorem lk_bd8 {t : TypeId} {i0 i1 i2 i3 i4 i5 i6 i7 : Nat} {x0 x1 x2 x3 x4 x5 x6 x7 : Operand} {v0 v1 v2 v3 v4 v5 v6 v7 : Value} {z : List Value} {pl : List (Nat × Nat)} {r : List Value} [BD P t z.toArray pl] (h0 : ∀ j, ev (mk l j) x0 = v0 := by intro j; rfl) (h1 : ∀ j, ev (mk l j) x1 = v1 := by intro j; rfl) (h2 : ∀ j, ev (mk l j) x2 = v2 := by intro j; rfl) (h3 : ∀ j, ev (mk l j) x3 = v3 := by intro j; rfl) (h4 : ∀ j, ev (mk l j) x4 = v4 := by intro j; rfl) (h5 : ∀ j, ev (mk l j) x5 = v5 := by intro j; rfl) (h6 : ∀ j, ev (mk l j) x6 = v6 := by intro j; rfl) (h7 : ∀ j, ev (mk l j) x7 = v7 := by intro j; rfl) (hf : FillL pl z [(i0, v0), (i1, v1), (i2, v2), (i3, v3), (i4, v4), (i5, v5), (i6, v6), (i7, v7)] r := by infer_instance) :
    LookS P ⟨some d, .build t #[(i0, x0), (i1, x1), (i2, x2), (i3, x3), (i4, x4), (i5, x5), (i6, x6), (i7, x7)], oty, pos, af, g⟩ l As (.agg r.toArray) := lk_bd (ps := [(i0, x0), (i1, x1), (i2, x2), (i3, x3), (i4, x4), (i5, x5), (i6, x6), (i7, x7)]) (by intro j; rw [← hf.h]; simp only [List.map_cons, List.map_nil, h0 j, h1 j, h2 j, h3 j, h4 j, h5 j, h6 j, h7 j])
end
end Go.Cam
