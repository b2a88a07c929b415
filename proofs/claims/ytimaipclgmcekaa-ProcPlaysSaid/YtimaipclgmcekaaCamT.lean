/- Rules over assertions: blocks of cells, and slices whose blocks have no name. -/
import Derived.Test.YtimaipclgmcekaaCamS
namespace Go.Cam
class PartL (l : List Value) (off m : Nat) (r : outParam (List Value)) : Prop where
  h : (l.drop off).take m = r
instance {l} : PartL l 0 0 [] := ⟨by simp⟩
instance {a l m r} [p : PartL l 0 m r] : PartL (a :: l) 0 (m + 1) (a :: r) := ⟨by have := p.h; simp at this ⊢; exact this⟩
instance {a l off m r} [p : PartL l off m r] : PartL (a :: l) (off + 1) m r := ⟨by have := p.h; simpa using this⟩
class AtL (l : List Value) (i : Nat) (v : outParam Value) : Prop where
  h : l[i]? = some v
instance {a l} : AtL (a :: l) 0 a := ⟨rfl⟩
instance {a l i v} [p : AtL l i v] : AtL (a :: l) (i + 1) v := ⟨by simpa using p.h⟩
/-- rows of cells, one behind the other -/
def flat (n : Nat) (row : Nat → List Value) : List Value := (List.range n).flatMap row
theorem flat_succ (n : Nat) (row : Nat → List Value) : flat (n + 1) row = flat n row ++ row n := by simp [flat, List.range_succ]
theorem flat_len {sz : Nat} {row : Nat → List Value} : ∀ {n : Nat}, (∀ i, i < n → (row i).length = sz) → (flat n row).length = n * sz
  | 0, _ => by simp [flat]
  | n + 1, h => by rw [flat_succ, List.length_append, flat_len fun i hi => h i (by omega), h n (by omega), Nat.add_mul, Nat.one_mul]
theorem flat_add (n m : Nat) (row : Nat → List Value) : flat (n + m) row = flat n row ++ flat m (fun i => row (n + i)) := by
  induction m with
  | zero => simp [flat]
  | succ m ih => rw [← Nat.add_assoc, flat_succ, ih, flat_succ, List.append_assoc]
theorem flat_congr {row row' : Nat → List Value} : ∀ {n : Nat}, (∀ i, i < n → row i = row' i) → flat n row = flat n row'
  | 0, _ => rfl
  | n + 1, h => by rw [flat_succ, flat_succ, flat_congr fun i hi => h i (by omega), h n (by omega)]
theorem flat_part {sz : Nat} {row : Nat → List Value} {n i k : Nat} (h : ∀ i, i < n → (row i).length = sz) (hi : i + k ≤ n) : ((flat n row).drop (i * sz)).take (k * sz) = flat k (fun q => row (i + q)) := by
  obtain ⟨m, rfl⟩ : ∃ m, n = i + k + m := ⟨n - (i + k), by omega⟩
  rw [flat_add, flat_add, List.append_assoc, List.drop_left' (flat_len fun q hq => h q (by omega)), List.take_left' (flat_len fun q hq => h _ (by omega))]
theorem flat_one (row : Nat → List Value) : flat 1 row = row 0 := by simp [flat]
theorem flat_row {sz : Nat} {row : Nat → List Value} {n i : Nat} (h : ∀ i, i < n → (row i).length = sz) (hi : i < n) : ((flat n row).drop (i * sz)).take sz = row i := by
  have := flat_part (k := 1) h (show i + 1 ≤ n by omega)
  rw [Nat.one_mul, flat_one] at this; simpa using this
/-- a slice's cells, as K knows its block -/
def SlK (K : Nat → Obj → Prop) (sz : Nat) (v : Value) (n : Nat) (row : Nat → List Value) : Prop :=
  ∃ base cap, v = .slice base n cap ∧ n ≤ cap ∧ (∀ i, i < n → (row i).length = sz) ∧
    (0 < n → ∃ b off c ty fr, base = some ⟨b, off, none⟩ ∧ K b (.cells c ty fr) ∧ off + n * sz ≤ c.size ∧ c.extract off (off + n * sz) = (flat n row).toArray)
def SlO (M : Heap) (e sz : Nat) (v : Value) (n : Nat) (row : Nat → List Value) : Prop := (∀ i, i < n → (row i).length = sz) ∧ (flat n row).all one = true ∧ Own M e sz v (flat n row) ∧ ∃ base cap, v = .slice base n cap
/-- a slice of n elements of sz cells each; of one's own (some e), or only read (none) -/
def SA : Option Nat → Nat → Value → Nat → (Nat → List Value) → HP
  | none, sz, v, n, row => .per (fun H => SlK (fun b o => H b = some o) sz v n row) fun hl ⟨base, cap, e, hc, h1, h2⟩ => ⟨base, cap, e, hc, h1, fun h0 => by
      obtain ⟨b, off, c, ty, fr, a, k, r⟩ := h2 h0; exact ⟨b, off, c, ty, fr, a, hl _ _ k, r⟩⟩
  | some e, sz, v, n, row => ⟨fun _ M => SlO M e sz v n row, fun _ hl ⟨h1, h2, h3, h4⟩ => ⟨h1, h2, h3.frame fun c o _ h => hl c o h, h4⟩⟩
instance {sz v n row} : Per (SA none sz v n row) := ⟨fun h => h⟩
theorem SA.rd {m : Option Nat} {sz : Nat} {v : Value} {n : Nat} {row : Nat → List Value} {H M : Heap} (h : (SA m sz v n row).p H M) : SlK (Kn H M) sz v n row := by
  cases m with
  | none =>
    obtain ⟨base, cap, e, hc, h1, h2⟩ := h
    exact ⟨base, cap, e, hc, h1, fun h0 => by obtain ⟨b, off, c, ty, fr, a, k, r⟩ := h2 h0; exact ⟨b, off, c, ty, fr, a, .inr k, r⟩⟩
  | some e =>
    obtain ⟨h1, _, h2, base, cap, hv⟩ := h
    subst hv
    rcases h2 with ⟨e1, e2⟩ | ⟨b, len, cap', cs, e1, h3, h4, h5, h6, h7⟩
    · cases e1; exact ⟨_, _, rfl, Nat.le_refl _, h1, fun h => absurd h (by omega)⟩
    · cases e1
      refine ⟨_, _, rfl, h5, h1, fun h0 => ⟨b, 0, cs, e, (0, 0), rfl, .inl h6, ?_, ?_⟩⟩
      · rw [h4]; have := Nat.mul_le_mul_right sz h5; omega
      · apply Array.ext'
        rw [Array.toList_extract, List.extract_eq_take_drop, flat_len h1] at *
        simpa using h7
theorem SA.val {m : Option Nat} {sz : Nat} {v : Value} {n : Nat} {row : Nat → List Value} {H M : Heap} (h : (SA m sz v n row).p H M) : ∃ base cap, v = .slice base n cap ∧ n ≤ cap := by
  obtain ⟨base, cap, e, hc, _⟩ := SA.rd h; exact ⟨base, cap, e, hc⟩
/-- what an assertion lets read as a slice -/
class Rd (A : HP) (sz : outParam Nat) (v : Value) (n : outParam Nat) (row : outParam (Nat → List Value)) : Prop where
  h : ∀ H M, A.p H M → SlK (Kn H M) sz v n row
instance {m sz v n row} : Rd (SA m sz v n row) sz v n row := ⟨fun _ _ h => SA.rd h⟩
inductive SelR : List HP → Nat → Value → Nat → (Nat → List Value) → Prop
  | here {A sz v n row r} [Rd A sz v n row] : SelR (A :: r) sz v n row
  | there {x r sz v n row} : SelR r sz v n row → SelR (x :: r) sz v n row
theorem SelR.rd {As : List HP} {sz : Nat} {v : Value} {n : Nat} {row : Nat → List Value} (s : SelR As sz v n row) {H M : Heap} (h : (Sat As).p H M) : SlK (Kn H M) sz v n row := by
  induction s generalizing M with
  | here => rename_i r; exact r.h _ _ (star_fst h)
  | there _ ih => exact ih (star_snd h)
/-- the address of a cell of an element -/
def eptr (v : Value) (sz i fo : Nat) : Value := match v with
  | .slice (some a) _ _ => .pointer (some (a.add (i * sz + fo)))
  | _ => .pointer none
theorem SlK.elem {K : Nat → Obj → Prop} {sz : Nat} {v : Value} {n : Nat} {row : Nat → List Value} (h : SlK K sz v n row) {i : Nat} (hi : i < n) :
    ∃ b off c ty fr cap, v = .slice (some ⟨b, off, none⟩) n cap ∧ K b (.cells c ty fr) ∧ off + i * sz + sz ≤ c.size ∧ c.extract (off + i * sz) (off + i * sz + sz) = (row i).toArray ∧ (row i).length = sz ∧ ∀ fo, eptr v sz i fo = .pointer (some ⟨b, off + (i * sz + fo), none⟩) := by
  obtain ⟨base, cap, rfl, hc, h1, h2⟩ := h
  obtain ⟨b, off, c, ty, fr, rfl, k, hs, hx⟩ := h2 (by omega)
  have hle : (i + 1) * sz ≤ n * sz := Nat.mul_le_mul_right _ hi
  rw [Nat.add_mul, Nat.one_mul] at hle
  refine ⟨b, off, c, ty, fr, cap, rfl, k, by omega, ?_, h1 i hi, fun fo => by simp [eptr, addr_add]⟩
  rw [← flat_row h1 hi]
  apply Array.ext'
  have := congrArg Array.toList hx
  rw [Array.toList_extract, List.extract_eq_take_drop] at this ⊢
  dsimp only at this ⊢
  rw [← this, Nat.add_sub_cancel_left, Nat.add_sub_cancel_left, List.drop_take, List.take_take, List.drop_drop, Nat.min_eq_left (by omega)]
section
variable {P : Program} {l : List (Nat × Value)} {As Bs : List HP} {d : Nat} {oty : TypeId} {pos : String} {af : Array Edge} {g : Option (Nat × Bool)}
/-- a pure operation, as one that looks -/
theorem lk_p {op : Op} {v : Value} (hv : ∀ j, cst P (execOp (ev (mk l j)) ⟨some d, op, oty, pos, af, g⟩) = some (.value v) := by intro j; rfl) : LookS P ⟨some d, op, oty, pos, af, g⟩ l As v :=
  .mk fun j _ _ _ => qt_cst (hv j)
theorem lk_fa {s : TypeId} {x : Operand} {fld b off fo : Nat} [hf : FO P s fld fo] (hx : ∀ j, ev (mk l j) x = .pointer (some ⟨b, off, none⟩) := by intro j; rfl) :
    LookS P ⟨some d, .fieldAddr s x fld, oty, pos, af, g⟩ l As (.pointer (some ⟨b, off + fo, none⟩)) := .mk fun j _ _ _ => qt_fa rfl (hx j) hf.h
theorem lk_zfa {s : TypeId} {x : Operand} {fld b fo : Nat} [hf : FO P s fld fo] (hx : ∀ j, ev (mk l j) x = .pointer (some ⟨b, 0, none⟩) := by intro j; rfl) :
    LookS P ⟨some d, .fieldAddr s x fld, oty, pos, af, g⟩ l As (.pointer (some ⟨b, fo, none⟩)) := .mk fun j H M _ => by
  have := qt_fa (o := ⟨some d, .fieldAddr s x fld, oty, pos, af, g⟩) (H := H) (M := M) rfl (hx j) hf.h; rwa [Nat.zero_add] at this
theorem lk_faz {s : TypeId} {x : Operand} {fld b off : Nat} [hf : FO P s fld 0] (hx : ∀ j, ev (mk l j) x = .pointer (some ⟨b, off, none⟩) := by intro j; rfl) :
    LookS P ⟨some d, .fieldAddr s x fld, oty, pos, af, g⟩ l As (.pointer (some ⟨b, off, none⟩)) := .mk fun j H M _ => by
  have := qt_fa (o := ⟨some d, .fieldAddr s x fld, oty, pos, af, g⟩) (H := H) (M := M) rfl (hx j) hf.h; rwa [Nat.add_zero] at this
theorem lk_ix {t : TypeId} {x y : Operand} {m elem sz b off : Nat} {kd : IntKind} {i : Nat} [hu : AR P t m elem] [hs : SZ P elem sz] (hx : ∀ j, ev (mk l j) x = .pointer (some ⟨b, off, none⟩) := by intro j; rfl)
    (hy : ∀ j, ev (mk l j) y = .int kd (i : Int) := by intro j; rfl) (hi : i < m := by omega) : LookS P ⟨some d, .indexAddr t x y, oty, pos, af, g⟩ l As (.pointer (some ⟨b, off + i * sz, none⟩)) := .mk fun j H M _ => by
  have := qt_ix (o := ⟨some d, .indexAddr t x y, oty, pos, af, g⟩) (H := H) (M := M) rfl (hx j) (hy j) hu.h hs.h (by omega) (by omega); simpa using this
theorem lk_zix {t : TypeId} {x y : Operand} {m elem sz b : Nat} {kd : IntKind} {i : Nat} [hu : AR P t m elem] [hs : SZ P elem sz] (hx : ∀ j, ev (mk l j) x = .pointer (some ⟨b, 0, none⟩) := by intro j; rfl)
    (hy : ∀ j, ev (mk l j) y = .int kd (i : Int) := by intro j; rfl) (hi : i < m := by omega) : LookS P ⟨some d, .indexAddr t x y, oty, pos, af, g⟩ l As (.pointer (some ⟨b, i * sz, none⟩)) := .mk fun j H M _ => by
  have := qt_ix (o := ⟨some d, .indexAddr t x y, oty, pos, af, g⟩) (H := H) (M := M) rfl (hx j) (hy j) hu.h hs.h (by omega) (by omega); simpa using this
/-- an element of a slice -/
theorem lk_ixs {t : TypeId} {x y : Operand} {elem sz n : Nat} {kd : IntKind} {v : Value} {i : Nat} {row : Nat → List Value} [hu : SC P t elem] [hs : SZ P elem sz] (hx : ∀ j, ev (mk l j) x = v := by intro j; rfl)
    (hy : ∀ j, ev (mk l j) y = .int kd (i : Int) := by intro j; rfl) (s : SelR As sz v n row := by repeat (first | with_reducible exact SelR.here | with_reducible apply SelR.there)) (hi : i < n := by omega) :
    LookS P ⟨some d, .indexAddr t x y, oty, pos, af, g⟩ l As (eptr v sz i 0) := .mk fun j H M q => by
  obtain ⟨b, off, c, ty, fr, cap, hv, _, _, _, _, hp⟩ := (s.rd q).elem hi
  rw [hp 0]
  have := qt_ixs (o := ⟨some d, .indexAddr t x y, oty, pos, af, g⟩) (H := H) (M := M) rfl ((hx j).trans hv) (hy j) hu.h hs.h (by omega) (by omega); simpa using this
theorem lk_fae {st : TypeId} {x : Operand} {fld fo fo' sz n : Nat} {v : Value} {i : Nat} {row : Nat → List Value} [hf : FO P st fld fo'] (hx : ∀ j, ev (mk l j) x = eptr v sz i fo := by intro j; rfl)
    (s : SelR As sz v n row := by repeat (first | with_reducible exact SelR.here | with_reducible apply SelR.there)) (hi : i < n := by omega) :
    LookS P ⟨some d, .fieldAddr st x fld, oty, pos, af, g⟩ l As (eptr v sz i (fo + fo')) := .mk fun j H M q => by
  obtain ⟨b, off, c, ty, fr, cap, hv, _, _, _, _, hp⟩ := (s.rd q).elem hi
  rw [hp]
  have := qt_fa (o := ⟨some d, .fieldAddr _ x fld, oty, pos, af, g⟩) (H := H) (M := M) rfl ((hx j).trans (hp fo)) hf.h; simpa [Nat.add_assoc] using this
/-- loads -/
theorem lk_ld {t : TypeId} {x : Operand} {b off : Nat} {c : Array Value} {ty : TypeId} {fr : Nat × Nat} {v : Value} [hag : AG P t false] (hx : ∀ j, ev (mk l j) x = .pointer (some ⟨b, off, none⟩) := by intro j; rfl)
    (s : Sel (.own b (.cells c ty fr)) As Bs := by repeat (first | with_reducible exact Sel.here | with_reducible apply Sel.there)) (hv : c[off]? = some v := by rfl) :
    LookS P ⟨some d, .load t x, oty, pos, af, g⟩ l As v := .mk fun j _ _ q => qt_ld1 rfl (hx j) hag.h (.inl (s.hold q)) hv
theorem lk_ldN {t : TypeId} {x : Operand} {b off m : Nat} {c : Array Value} {ty : TypeId} {fr : Nat × Nat} {vs : Array Value} [hag : AG P t true] [hs : SZ P t m] (hx : ∀ j, ev (mk l j) x = .pointer (some ⟨b, off, none⟩) := by intro j; rfl)
    (s : Sel (.own b (.cells c ty fr)) As Bs := by repeat (first | with_reducible exact Sel.here | with_reducible apply Sel.there)) (hv : c.extract off (off + m) = vs := by rfl) (hl : off + m ≤ c.size := by first | exact Nat.le_of_ble_eq_true rfl | decide | (simp; omega)) :
    LookS P ⟨some d, .load t x, oty, pos, af, g⟩ l As (.agg vs) := .mk fun j _ _ q => qt_ldN rfl (hx j) hag.h hs.h (.inl (s.hold q)) hl hv
theorem lk_ldA {t : TypeId} {x : Operand} {b off : Nat} {c : List Value} {ty : TypeId} {fr : Nat × Nat} {v : Value} [hag : AG P t false] (hx : ∀ j, ev (mk l j) x = .pointer (some ⟨b, off, none⟩) := by intro j; rfl)
    (s : Sel (.own b (.cells c.toArray ty fr)) As Bs := by repeat (first | with_reducible exact Sel.here | with_reducible apply Sel.there)) (hv : AtL c off v := by infer_instance) :
    LookS P ⟨some d, .load t x, oty, pos, af, g⟩ l As v := lk_ld hx s (by simpa using hv.h)
/-- a whole block is loaded -/
theorem lk_ldW {t : TypeId} {x : Operand} {b m : Nat} {c : Array Value} {ty : TypeId} {fr : Nat × Nat} [hag : AG P t true] [hs : SZ P t m] (hx : ∀ j, ev (mk l j) x = .pointer (some ⟨b, 0, none⟩) := by intro j; rfl)
    (s : Sel (.own b (.cells c ty fr)) As Bs := by repeat (first | with_reducible exact Sel.here | with_reducible apply Sel.there)) (hl : c.size = m := by rfl) :
    LookS P ⟨some d, .load t x, oty, pos, af, g⟩ l As (.agg c) := .mk fun j _ _ q => qt_ldN rfl (hx j) hag.h hs.h (.inl (s.hold q)) (by omega) (extract_whole hl)
theorem lk_lde {t : TypeId} {x : Operand} {fo sz n i : Nat} {v u : Value} {row : Nat → List Value} [hag : AG P t false] (hx : ∀ j, ev (mk l j) x = eptr v sz i fo := by intro j; rfl)
    (s : SelR As sz v n row := by repeat (first | with_reducible exact SelR.here | with_reducible apply SelR.there)) (hv : (row i)[fo]? = some u := by rfl) (hi : i < n := by omega) :
    LookS P ⟨some d, .load t x, oty, pos, af, g⟩ l As u := .mk fun j H M q => by
  obtain ⟨b, off, c, ty, fr, cap, _, k, hs, hx2, hl, hp⟩ := (s.rd q).elem hi
  refine qt_ld1 rfl ((hx j).trans (hp fo)) hag.h k ?_
  have hfo : fo < (row i).length := by
    rcases Nat.lt_or_ge fo (row i).length with h | h
    · exact h
    · rw [List.getElem?_eq_none h] at hv; cases hv
  have := congrArg (fun a => a[fo]?) hx2
  rw [Array.getElem?_extract, if_pos (by omega)] at this
  rw [← Nat.add_assoc, this]; simpa using hv
theorem lk_ldeA {t : TypeId} {x : Operand} {fo sz n i : Nat} {v u : Value} {row : Nat → List Value} [hag : AG P t false] (hx : ∀ j, ev (mk l j) x = eptr v sz i fo := by intro j; rfl)
    (s : SelR As sz v n row := by repeat (first | with_reducible exact SelR.here | with_reducible apply SelR.there)) (hv : AtL (row i) fo u := by infer_instance) (hi : i < n := by omega) :
    LookS P ⟨some d, .load t x, oty, pos, af, g⟩ l As u := lk_lde hx s hv.h hi
theorem lk_ldeN {t : TypeId} {x : Operand} {fo sz n i k : Nat} {v : Value} {vs : List Value} {row : Nat → List Value} [hag : AG P t true] [hs : SZ P t k] (hx : ∀ j, ev (mk l j) x = eptr v sz i fo := by intro j; rfl)
    (s : SelR As sz v n row := by repeat (first | with_reducible exact SelR.here | with_reducible apply SelR.there)) (hv : PartL (row i) fo k vs := by infer_instance) (hk : fo + k ≤ sz := by decide) (hi : i < n := by omega) :
    LookS P ⟨some d, .load t x, oty, pos, af, g⟩ l As (.agg vs.toArray) := .mk fun j H M q => by
  obtain ⟨b, off, c, ty, fr, cap, _, kn, hsz, hx2, hl, hp⟩ := (s.rd q).elem hi
  refine qt_ldN rfl ((hx j).trans (hp fo)) hag.h hs.h kn (by omega) ?_
  rw [← hv.h]
  apply Array.ext'
  have := congrArg Array.toList hx2
  rw [Array.toList_extract, List.extract_eq_take_drop, Nat.add_sub_cancel_left] at this ⊢
  dsimp only at this ⊢
  rw [← this]
  simp only [List.drop_take, List.take_take, List.drop_drop]
  rw [Nat.min_eq_left (by omega), Nat.add_assoc]
theorem lk_len {t : TypeId} {p : Operand} {a : Option Addr} {n c el : Nat} [sc : SC P t el] (hx : ∀ j, ev (mk l j) p = .slice a n c := by intro j; rfl) :
    LookS P ⟨some d, .call ⟨.builtin .len, #[p], #[t]⟩, oty, pos, af, g⟩ l As (.int .i64 (n : Int)) := .mk fun j _ _ _ => qs_len (hx j)
theorem lk_lens {t : TypeId} {p : Operand} {s : ByteArray} [sc : STY P t] (hx : ∀ j, ev (mk l j) p = .string s := by intro j; rfl) :
    LookS P ⟨some d, .call ⟨.builtin .len, #[p], #[t]⟩, oty, pos, af, g⟩ l As (.int .i64 (s.size : Int)) := .mk fun j _ _ _ => qs_lens (hx j)
/-- an element of an array's value -/
theorem lk_ixa {t : TypeId} {x y : Operand} {m elem : Nat} {cs : Array Value} {kd : IntKind} {i : Nat} {v : Value} [hu : AR P t m elem] [hs : SZ P elem 1] [hag : AG P elem false] (hx : ∀ j, ev (mk l j) x = .agg cs := by intro j; rfl)
    (hy : ∀ j, ev (mk l j) y = .int kd (i : Int) := by intro j; rfl) (hv : cs[i]? = some v := by rfl) (hi : i < m := by omega) : LookS P ⟨some d, .index t x y, oty, pos, af, g⟩ l As v := .mk fun j _ _ _ =>
  qt_ixa rfl (hx j) (hy j) hu.h hs.h hag.h (by omega) (by omega) (by simpa using hv)
theorem lk_ixaN {t : TypeId} {x y : Operand} {m elem sz : Nat} {cs vs : Array Value} {kd : IntKind} {i : Nat} [hu : AR P t m elem] [hs : SZ P elem sz] [hag : AG P elem true] (hx : ∀ j, ev (mk l j) x = .agg cs := by intro j; rfl)
    (hy : ∀ j, ev (mk l j) y = .int kd (i : Int) := by intro j; rfl) (hv : cs.extract (i * sz) (i * sz + sz) = vs := by rfl) (hi : i < m := by omega) : LookS P ⟨some d, .index t x y, oty, pos, af, g⟩ l As (.agg vs) := .mk fun j _ _ _ =>
  qs_ixA rfl (hx j) (hy j) hu.h hs.h hag.h (by omega) (by omega) (by simpa using hv)
theorem lk_bd {t : TypeId} {ps : List (Nat × Operand)} {z : Array Value} {pl : List (Nat × Nat)} [BD P t z pl] {cells : Array Value} (hf : ∀ j, fillS pl z (ps.map fun x => (x.1, ev (mk l j) x.2)) = some cells := by intro j; rfl) :
    LookS P ⟨some d, .build t ps.toArray, oty, pos, af, g⟩ l As (.agg cells) := .mk fun j _ _ _ => qs_bd (hf j)
theorem lk_eqs {t t2 : TypeId} {x y : Operand} {X Y : Value} {v : Bool} [eq : EQ P t X Y v] (hx : ∀ j, ev (mk l j) x = X := by intro j; rfl) (hy : ∀ j, ev (mk l j) y = Y := by intro j; rfl) :
    LookS P ⟨some d, .binOp .eql t x y t2, oty, pos, af, g⟩ l As (.bool v) := .mk fun j _ _ _ => by
  refine qs_binw rfl ?_ ?_
  · rw [hx j, hy j]; exact eq.g _ _ _
  · rw [hx j, hy j]; exact eq.e
end
end Go.Cam
