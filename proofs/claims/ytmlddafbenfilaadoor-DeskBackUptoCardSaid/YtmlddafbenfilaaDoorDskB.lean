/- Texts: a byte of one, a part of one, two held against each other, two put together; functions that the model carries out in place. -/
import Derived.Test.YtmlddafbenfilaaDoorCamAS
import Derived.Laws.Externs
import Derived.Test.YtmlddafbenfilaaDoorCamAM
import Derived.Lib.ItoaNum
import Derived.Lib.AtoiAll
namespace Go.Cam
theorem strB_toList {a : List Nat} (h : Bys a) : (strB a).toList.map UInt8.toNat = a := by
  have : (strB a).toList = a.map UInt8.ofNat := by simp [strB, ByteArray.toList_eq]
  rw [this, List.map_map]
  conv => rhs; rw [← List.map_id a]
  refine List.map_congr_left fun b hb => ?_
  show (UInt8.ofNat b).toNat = b
  rw [UInt8.toNat_ofNat', Nat.mod_eq_of_lt (h b hb)]
theorem strB_beq {a b : List Nat} (ha : Bys a) (hb : Bys b) : ((strB a).toList == (strB b).toList) = decide (a = b) := by
  by_cases e : a = b
  · subst e; simp
  · rw [decide_eq_false e, beq_eq_false_iff_ne]
    intro h
    have := congrArg (List.map UInt8.toNat) h
    rw [strB_toList ha, strB_toList hb] at this
    exact e this
theorem strB_part (s : List Nat) (p q : Nat) (hq : q ≤ s.length) : (strB s).extract p q = strB ((s.take q).drop p) := by
  unfold strB
  apply ByteArray.ext
  rw [ByteArray.data_extract]
  apply Array.ext'
  rw [Array.toList_extract, List.extract_eq_take_drop]
  simp [List.map_take, List.map_drop, List.drop_take]
theorem strB_app (a b : List Nat) : strB a ++ strB b = strB (a ++ b) := by
  unfold strB
  apply ByteArray.ext
  simp
section
variable {P : Program} {f : FuncId} {n : Nat} {R : Value → HP} {k : List It} {l : List (Nat × Value)} {As Bs : List HP} {all : Array Oper} {rest : List Oper} {d : Nat} {dd : Option Nat} {oty : TypeId} {pos : String} {af : Array Edge} {g : Option (Nat × Bool)}
theorem lk_lenB {t : TypeId} {p : Operand} {s : List Nat} [sc : STY P t] (hx : ∀ j, ev (mk l j) p = .string (strB s) := by intro j; rfl) :
    LookS P ⟨some d, .call ⟨.builtin .len, #[p], #[t]⟩, oty, pos, af, g⟩ l As (.int .i64 (s.length : Int)) := by
  have := lk_lens (P := P) (l := l) (As := As) (d := d) (oty := oty) (pos := pos) (af := af) (g := g) (t := t) (p := p) (s := strB s) hx
  rwa [strB_size] at this
/-- a byte of a text -/
theorem lk_sidx {t : TypeId} {x y : Operand} {kd : IntKind} {s : List Nat} {i : Nat} [sc : STY P t] (hs : Bys s) (hi : i < s.length) (hx : ∀ j, ev (mk l j) x = .string (strB s) := by intro j; rfl) (hy : ∀ j, ev (mk l j) y = .int kd (i : Int) := by intro j; rfl) :
    LookS P ⟨some d, .index t x y, oty, pos, af, g⟩ l As (.int .u8 ((s.getD i 0 : Nat) : Int)) := .mk fun j _ _ _ => by
  refine qt_exec (s := Instr.index t (ev (mk l j) x) (ev (mk l j) y)) (by unfold execOp; rfl) fun w0 w _ => ?_
  rw [hx j, hy j]
  refine cst_run _ ?_ w
  unfold Instr.index
  rw [cst_bind (show cst P (asIntOf (.int kd i)) = some (kd, (i : Int)) from rfl)]
  dsimp only
  rw [cst_bind sc.h]
  dsimp only
  rw [if_pos (by omega)]
  have hg : s[i]? = some (s.getD i 0) := by rw [List.getElem?_eq_getElem hi, List.getD_eq_getElem?_getD, List.getElem?_eq_getElem hi]; rfl
  have e : (strB s)[(i : Int).toNat]? = some (UInt8.ofNat (s.getD i 0)) := by
    have h1 : (strB s)[(i : Int).toNat]? = (s.map UInt8.ofNat).toArray[i]? := rfl
    rw [h1, List.getElem?_toArray, List.getElem?_map, hg]; rfl
  rw [e]
  dsimp only
  have : (UInt8.ofNat (s.getD i 0)).toNat = s.getD i 0 := by rw [UInt8.toNat_ofNat', Nat.mod_eq_of_lt (hs _ (List.mem_of_getElem? hg))]
  rw [this]; rfl
/-- a part of a text -/
theorem lk_ssl (p q : Nat) {t : TypeId} {x : Operand} {lo hi : Option Operand} {s : List Nat} [sc : STY P t] (hl : p ≤ q) (hh : q ≤ s.length) (hx : ∀ j, ev (mk l j) x = .string (strB s) := by intro j; rfl)
    (hlo : ∀ j, loB (mk l j) lo p := by intro j; first | rfl | exact ⟨_, rfl⟩) (hhi : ∀ j, hiB (mk l j) hi s.length q := by intro j; first | rfl | exact ⟨_, rfl⟩) :
    LookS P ⟨some d, .slice t x lo hi none, oty, pos, af, g⟩ l As (.string (strB ((s.take q).drop p))) := .mk fun j _ _ _ => by
  refine qt_exec (s := Instr.sliceAt t (ev (mk l j) x) (lo.map (ev (mk l j))) (hi.map (ev (mk l j))) none) (by unfold execOp; rfl) fun w0 w _ => ?_
  refine cst_run _ ?_ w
  rw [hx j]
  have hlo := hlo j
  have hhi := hhi j
  unfold Instr.sliceAt
  rw [cst_bind sc.h]
  dsimp only
  have hb : cst P (Instr.sliceBounds false (strB s).size (strB s).size (lo.map (ev (mk l j))) (hi.map (ev (mk l j))) none) = some (p, q, (strB s).size) := by
    rw [strB_size]
    unfold Instr.sliceBounds
    cases lo with
    | none =>
      simp only [loB] at hlo
      subst hlo
      cases hi with
      | none => simp only [hiB] at hhi; subst hhi; rfl
      | some y =>
        obtain ⟨k, hy⟩ := hhi
        simp only [Option.map_none, Option.map_some, pure_bind]
        rw [cst_bind (cst_sliceBound hy hh)]; rfl
    | some z =>
      obtain ⟨k', hz⟩ := hlo
      cases hi with
      | none =>
        simp only [hiB] at hhi
        subst hhi
        simp only [Option.map_none, Option.map_some, pure_bind]
        rw [cst_bind (cst_sliceBound hz hl)]; rfl
      | some y =>
        obtain ⟨k, hy⟩ := hhi
        simp only [Option.map_some, pure_bind]
        rw [cst_bind (cst_sliceBound hy hh), cst_bind (cst_sliceBound hz hl)]; rfl
  unfold Instr.slice
  rw [cst_bind sc.h]
  dsimp only
  simp only [Option.isSome_none, Bool.false_eq_true, if_false]
  rw [cst_bind hb]
  dsimp only
  rw [strB_part s p q hh]
  rfl
theorem lk_seq {t t2 : TypeId} {x y : Operand} {a b : List Nat} (ha : Bys a) (hb : Bys b) (hx : ∀ j, ev (mk l j) x = .string (strB a) := by intro j; rfl) (hy : ∀ j, ev (mk l j) y = .string (strB b) := by intro j; rfl) :
    LookS P ⟨some d, .binOp .eql t x y t2, oty, pos, af, g⟩ l As (.bool (decide (a = b))) := .mk fun j _ _ _ => by
  refine qs_binw rfl (by rw [hx j, hy j]; rfl) fun w => ?_
  rw [hx j, hy j, ← strB_beq ha hb]
  rfl
theorem lk_sne {t t2 : TypeId} {x y : Operand} {a b : List Nat} (ha : Bys a) (hb : Bys b) (hx : ∀ j, ev (mk l j) x = .string (strB a) := by intro j; rfl) (hy : ∀ j, ev (mk l j) y = .string (strB b) := by intro j; rfl) :
    LookS P ⟨some d, .binOp .neq t x y t2, oty, pos, af, g⟩ l As (.bool (!decide (a = b))) := .mk fun j _ _ _ => by
  refine qs_binw rfl (by rw [hx j, hy j]; rfl) fun w => ?_
  rw [hx j, hy j, ← strB_beq ha hb]
  rfl
theorem lk_cat {t t2 : TypeId} {x y : Operand} {a b : List Nat} (hl : a.length + b.length ≤ 9223372036854775807) (hx : ∀ j, ev (mk l j) x = .string (strB a) := by intro j; rfl) (hy : ∀ j, ev (mk l j) y = .string (strB b) := by intro j; rfl) :
    LookS P ⟨some d, .binOp .add t x y t2, oty, pos, af, g⟩ l As (.string (strB (a ++ b))) := .mk fun j _ _ _ => by
  refine qs_binw rfl (by rw [hx j, hy j]; rfl) fun w => ?_
  rw [hx j, hy j, ← strB_app]
  show (Op.stringOp .add (strB a) (strB b)).run P w = _
  unfold Op.stringOp
  dsimp only
  rw [if_neg]
  · rfl
  · rw [strB_size, strB_size]
    show ¬ ((a.length + b.length : Nat) : Int) > 9223372036854775807
    omega
/-- the lower half of a byte -/
theorem lk_and15 {t t2 : TypeId} {x y : Operand} {a : Nat} (ha : a < 256) (hx : ∀ j, ev (mk l j) x = .int .u8 (a : Int) := by intro j; rfl) (hy : ∀ j, ev (mk l j) y = .int .u8 15 := by intro j; rfl) :
    LookS P ⟨some d, .binOp .and t x y t2, oty, pos, af, g⟩ l As (.int .u8 ((a % 16 : Nat) : Int)) := .mk fun j _ _ _ => by
  refine qs_binw rfl (by rw [hx j, hy j]; rfl) fun w => ?_
  rw [hx j, hy j]
  have e : IntKind.u8.wrap (((BitVec.ofInt IntKind.u8.bits (a : Int) &&& BitVec.ofInt IntKind.u8.bits 15).toNat : Nat) : Int) = ((a % 16 : Nat) : Int) := by
    have h1 : (BitVec.ofInt IntKind.u8.bits (a : Int)).toNat = a := by
      rw [BitVec.toNat_ofInt]; show ((a : Int) % 256).toNat = a; omega
    have h2 : (BitVec.ofInt IntKind.u8.bits 15).toNat = 15 := by decide
    rw [BitVec.toNat_and, h1, h2, show (15 : Nat) = 2 ^ 4 - 1 from rfl, Nat.and_two_pow_sub_one_eq_mod, wrap_u8, Nat.mod_eq_of_lt (by omega)]
  show (Op.intBits .and .u8 (a : Int) 15).run P w = _
  rw [← e]; rfl
theorem lk_usd {t : TypeId} {x : Operand} {X v : Value} (hv : ∀ w, (Builtin.unsafeSliceData_ #[t] oty #[X]).run P w = .ok v w) (hx : ∀ j, ev (mk l j) x = X := by intro j; rfl) :
    LookS P ⟨some d, .call ⟨.builtin .unsafeSliceData, #[x], #[t]⟩, oty, pos, af, g⟩ l As v := .mk fun j _ _ _ => by
  refine qt_exec (s := Builtin.unsafeSliceData_ #[t] oty #[ev (mk l j) x]) ?_ fun w0 w _ => by rw [hx j]; exact hv w
  show (resolve (ev (mk l j)) ⟨.builtin .unsafeSliceData, #[x], #[t]⟩ oty >>= fun d => invoke d.target d.args) = _
  have : #[x].map (ev (mk l j)) = #[ev (mk l j) x] := by simp
  unfold resolve
  dsimp only
  rw [this]; rfl
theorem lk_usn {t t2 : TypeId} {x y : Operand} {a : Option Addr} (hx : ∀ j, ev (mk l j) x = .pointer a := by intro j; rfl) (hy : ∀ j, ev (mk l j) y = .int .i64 0 := by intro j; rfl) :
    LookS P ⟨some d, .call ⟨.builtin .unsafeString, #[x, y], #[t, t2]⟩, oty, pos, af, g⟩ l As (.string (strB [])) := .mk fun j _ _ _ => by
  refine qt_exec (s := Builtin.unsafeString_ #[t, t2] oty #[ev (mk l j) x, ev (mk l j) y]) ?_ fun w0 w _ => by rw [hx j, hy j]; exact Lib.run_unsafeString_none w t t2 oty a
  show (resolve (ev (mk l j)) ⟨.builtin .unsafeString, #[x, y], #[t, t2]⟩ oty >>= fun d => invoke d.target d.args) = _
  have : #[x, y].map (ev (mk l j)) = #[ev (mk l j) x, ev (mk l j) y] := by simp
  unfold resolve
  dsimp only
  rw [this]; rfl
/-- a function that the model carries out in place -/
theorem lk_ext {q : FuncId} {fn : Func} {E : Array Value → Sem Value} {as : List Operand} {tys : Array TypeId} {args : List Value} {v : Value} (hf : P.funcs[q]? = some fn) (hname : (fn.name == "runtime.NumGoroutine") = false) (hb : fn.body.isNone = true) (hn : Extern.findNext fn = none) (he : Extern.find fn = some E)
    (hv : ∀ w, (E args.toArray).run P w = .ok v w) (ha : ∀ j, as.map (ev (mk l j)) = args := by intro j; rfl) :
    LookS P ⟨some d, .call ⟨.value (.func q), as.toArray, tys⟩, oty, pos, af, g⟩ l As v := .mk fun j H M _ => by
  intro w0 w hh
  have e1 : execOp (ev (mk l j)) ⟨some d, .call ⟨.value (.func q), as.toArray, tys⟩, oty, pos, af, g⟩ = callFunc q args.toArray := by
    show (resolve (ev (mk l j)) ⟨.value (.func q), as.toArray, tys⟩ oty >>= fun d => invoke d.target d.args) = _
    have : as.toArray.map (ev (mk l j)) = args.toArray := by rw [← ha j]; simp
    unfold resolve
    dsimp only
    rw [this]
    show callFunc q (#[] ++ args.toArray) = _
    simp
  rw [e1, run_callFunc_extern hf hname hb hn he, hv w]
  rfl
end
theorem gs_ {A B : Prop} (a : A) (h : Hid A → B := by
    intro a_go
    repeat (first
      | refine s_nrm ?_ | refine s_true ?_ | refine s_false ?_ | refine s_seq ?_ | refine s_region ?_ | refine s_nil ?_ | refine s_skip ?_ | refine s_block ?_ | refine s_inBlock ?_ | refine s_exit ?_
      | refine s_look lk_zfa ?_ | refine s_look lk_faz ?_ | refine s_look lk_fa ?_ | refine s_look lk_fae ?_
      | refine s_look lk_ldA ?_ | refine s_look lk_ld ?_ | refine s_look lk_ldW ?_ | refine s_look lk_ldP ?_ | refine s_look lk_ldeA ?_ | refine s_look lk_lde ?_ | refine s_look lk_ldeN ?_
      | refine s_look lk_fldA ?_ | refine s_look lk_fld ?_ | refine s_look lk_fldN ?_
      | refine s_look lk_len ?_ | refine s_look lk_lenB ?_ | refine s_look (lk_seq (by assumption) (by assumption)) ?_ | refine s_look (lk_sne (by assumption) (by assumption)) ?_
      | refine s_look lk_bd0 ?_ | refine s_look lk_bd1 ?_ | refine s_look lk_bd2 ?_ | refine s_look lk_bd3 ?_ | refine s_look lk_bd4 ?_ | refine s_look lk_bd5 ?_ | refine s_look lk_bd6 ?_ | refine s_look lk_bd7 ?_ | refine s_look lk_bd8 ?_
      | refine s_look lk_inc ?_ | refine s_look lk_add ?_ | refine s_look lk_sub ?_
      | refine s_look lk_zix ?_ | refine s_look lk_ix ?_ | refine s_look lk_ixs ?_ | refine s_look lk_ixa ?_ | refine s_look lk_ixaN ?_ | refine s_look (lk_sidx (by assumption) (by assumption)) ?_
      | refine s_st ?_
      | refine s_no ?_ | refine s_p ?_ | refine s_y ?_)
    exact Hid.out a_go) : B := h ⟨a⟩
end Go.Cam
/- Texts, once more: what is looked for is told first. -/
namespace Go.Cam
section
variable {P : Program} {l : List (Nat × Value)} {As Bs : List HP} {d : Nat} {oty : TypeId} {pos : String} {af : Array Edge} {g : Option (Nat × Bool)}
theorem lk_sidx2 {t : TypeId} {x y : Operand} {kd : IntKind} {s : List Nat} {i : Nat} [sc : STY P t] (hx : ∀ j, ev (mk l j) x = .string (strB s) := by intro j; rfl) (hy : ∀ j, ev (mk l j) y = .int kd (i : Int) := by intro j; rfl) (hs : Bys s := by assumption) (hi : i < s.length := by assumption) :
    LookS P ⟨some d, .index t x y, oty, pos, af, g⟩ l As (.int .u8 ((s.getD i 0 : Nat) : Int)) := lk_sidx hs hi hx hy
theorem lk_seq2 {t t2 : TypeId} {x y : Operand} {a b : List Nat} (hx : ∀ j, ev (mk l j) x = .string (strB a) := by intro j; rfl) (hy : ∀ j, ev (mk l j) y = .string (strB b) := by intro j; rfl) (ha : Bys a := by assumption) (hb : Bys b := by assumption) :
    LookS P ⟨some d, .binOp .eql t x y t2, oty, pos, af, g⟩ l As (.bool (decide (a = b))) := lk_seq ha hb hx hy
theorem lk_sne2 {t t2 : TypeId} {x y : Operand} {a b : List Nat} (hx : ∀ j, ev (mk l j) x = .string (strB a) := by intro j; rfl) (hy : ∀ j, ev (mk l j) y = .string (strB b) := by intro j; rfl) (ha : Bys a := by assumption) (hb : Bys b := by assumption) :
    LookS P ⟨some d, .binOp .neq t x y t2, oty, pos, af, g⟩ l As (.bool (!decide (a = b))) := lk_sne ha hb hx hy
theorem lk_cat2 {t t2 : TypeId} {x y : Operand} {a b : List Nat} (hx : ∀ j, ev (mk l j) x = .string (strB a) := by intro j; rfl) (hy : ∀ j, ev (mk l j) y = .string (strB b) := by intro j; rfl) (hl : a.length + b.length ≤ 9223372036854775807 := by omega) :
    LookS P ⟨some d, .binOp .add t x y t2, oty, pos, af, g⟩ l As (.string (strB (a ++ b))) := lk_cat hl hx hy
end
theorem gt_ {A B : Prop} (a : A) (h : Hid A → B := by
    intro a_go
    repeat (first
      | refine s_nrm ?_ | refine s_true ?_ | refine s_false ?_ | refine s_seq ?_ | refine s_region ?_ | refine s_nil ?_ | refine s_skip ?_ | refine s_block ?_ | refine s_inBlock ?_ | refine s_exit ?_
      | refine s_look lk_zfa ?_ | refine s_look lk_faz ?_ | refine s_look lk_fa ?_ | refine s_look lk_fae ?_
      | refine s_look lk_ldA ?_ | refine s_look lk_ld ?_ | refine s_look lk_ldW ?_ | refine s_look lk_ldP ?_ | refine s_look lk_ldeA ?_ | refine s_look lk_lde ?_ | refine s_look lk_ldeN ?_
      | refine s_look lk_fldA ?_ | refine s_look lk_fld ?_ | refine s_look lk_fldN ?_
      | refine s_look lk_len ?_ | refine s_look lk_lenB ?_ | refine s_look lk_seq2 ?_ | refine s_look lk_sne2 ?_ | refine s_look lk_cat2 ?_
      | refine s_look lk_bd0 ?_ | refine s_look lk_bd1 ?_ | refine s_look lk_bd2 ?_ | refine s_look lk_bd3 ?_ | refine s_look lk_bd4 ?_ | refine s_look lk_bd5 ?_ | refine s_look lk_bd6 ?_ | refine s_look lk_bd7 ?_ | refine s_look lk_bd8 ?_
      | refine s_look lk_inc ?_ | refine s_look lk_add ?_ | refine s_look lk_sub ?_
      | refine s_look lk_zix ?_ | refine s_look lk_ix ?_ | refine s_look lk_ixs ?_ | refine s_look lk_ixa ?_ | refine s_look lk_ixaN ?_ | refine s_look lk_sidx2 ?_
      | refine s_st ?_
      | refine s_no ?_ | refine s_p ?_ | refine s_y ?_)
    exact Hid.out a_go) : B := h ⟨a⟩
theorem dt_ {A B : Prop} (a : A) (h : Hid A → B := by
    intro a_go
    repeat (first
      | refine d_nrm ?_ | refine d_look rfl lk_zfa ?_ | refine d_look rfl lk_faz ?_ | refine d_look rfl lk_fa ?_ | refine d_look rfl lk_fae ?_
      | refine d_look rfl lk_ldA ?_ | refine d_look rfl lk_ld ?_ | refine d_look rfl lk_ldW ?_ | refine d_look rfl lk_ldP ?_ | refine d_look rfl lk_ldeA ?_ | refine d_look rfl lk_lde ?_ | refine d_look rfl lk_ldeN ?_
      | refine d_look rfl lk_fldA ?_ | refine d_look rfl lk_fld ?_ | refine d_look rfl lk_fldN ?_
      | refine d_look rfl lk_len ?_ | refine d_look rfl lk_lenB ?_ | refine d_look rfl lk_seq2 ?_ | refine d_look rfl lk_sne2 ?_ | refine d_look rfl lk_cat2 ?_
      | refine d_look rfl lk_bd0 ?_ | refine d_look rfl lk_bd1 ?_ | refine d_look rfl lk_bd2 ?_ | refine d_look rfl lk_bd3 ?_ | refine d_look rfl lk_bd4 ?_ | refine d_look rfl lk_bd5 ?_ | refine d_look rfl lk_bd6 ?_ | refine d_look rfl lk_bd7 ?_ | refine d_look rfl lk_bd8 ?_
      | refine d_look rfl lk_inc ?_ | refine d_look rfl lk_add ?_ | refine d_look rfl lk_sub ?_
      | refine d_look rfl lk_zix ?_ | refine d_look rfl lk_ix ?_ | refine d_look rfl lk_ixs ?_ | refine d_look rfl lk_ixa ?_ | refine d_look rfl lk_ixaN ?_ | refine d_look rfl lk_sidx2 ?_
      | refine d_look rfl lk_p ?_ | refine d_no rfl ?_ | refine d_nil ?_)
    exact Hid.out a_go) : B := h ⟨a⟩
end Go.Cam
/- A part of an array, with its room. -/
namespace Go.Cam
section
variable {P : Program} {l : List (Nat × Value)} {As : List HP} {d : Nat} {oty : TypeId} {pos : String} {af : Array Edge} {g : Option (Nat × Bool)}
/-- x[:q:q] of an array -/
theorem lk_slcm (q : Nat) {t : TypeId} {x hi mx : Operand} {b m el sz : Nat} [hu : AR P t m el] [hs : SZ P el sz] (h0 : 0 < q) (hh : q ≤ m) (hx : ∀ j, ev (mk l j) x = .pointer (some ⟨b, 0, none⟩) := by intro j; rfl)
    (hhi : ∀ j, ∃ k, ev (mk l j) hi = .int k (q : Int) := by intro j; exact ⟨_, rfl⟩) (hmx : ∀ j, ∃ k, ev (mk l j) mx = .int k (q : Int) := by intro j; exact ⟨_, rfl⟩) :
    LookS P ⟨some d, .slice t x none (some hi) (some mx), oty, pos, af, g⟩ l As (.slice (some ⟨b, 0, none⟩) q q) := .mk fun j _ _ _ => by
  refine qt_exec (s := Instr.sliceAt t (ev (mk l j) x) none (some (ev (mk l j) hi)) (some (ev (mk l j) mx))) (by unfold execOp; rfl) fun w0 w _ => ?_
  refine cst_run _ ?_ w
  rw [hx j]
  obtain ⟨k1, h1⟩ := hhi j
  obtain ⟨k2, h2⟩ := hmx j
  unfold Instr.sliceAt
  rw [cst_bind hu.h]
  dsimp only
  rw [cst_bind (show cst P (Instr.sureAddr (.pointer (some ⟨b, 0, none⟩))) = some ⟨b, 0, none⟩ from rfl)]
  have hb : cst P (Instr.sliceBounds false m m none (some (ev (mk l j) hi)) (some (ev (mk l j) mx))) = some (0, q, q) := by
    unfold Instr.sliceBounds
    dsimp only
    rw [cst_bind (cst_sliceBound h2 hh)]
    rw [cst_bind (cst_sliceBound h1 (Nat.le_refl q))]
    rfl
  rw [cst_bind hb]
  dsimp only
  rw [cst_bind hs.h]
  simp only [if_neg (show ¬ q = 0 by omega), addr_add, Nat.zero_mul]; rfl
/-- an element of an array of texts -/
theorem lk_ldx {t : TypeId} {x : Operand} {b off ty : Nat} {c : List Value} {v : Value} {Bs : List HP} [hag : AG P t false] (s : Sel (Box b ty c) As Bs) (hv : c[off]? = some v) (hx : ∀ j, ev (mk l j) x = .pointer (some ⟨b, off, none⟩) := by intro j; rfl) :
    LookS P ⟨some d, .load t x, oty, pos, af, g⟩ l As v := lk_ld hx s (by rw [List.getElem?_toArray]; exact hv)
/-- a slice is copied to the head of an array -/
theorem st_cpX {dd : Option Nat} {t t2 el m c n' c' b ty : Nat} {x y : Operand} {u : Option Addr} {cs : List Value} {row : Nat → List Value} {As' : List HP} [sc : SC P t el] [hs : SZ P el 1] (hm : m ≤ n') (hl : n' ≤ cs.length)
    (up : Upd (Box b ty cs) (Box b ty (flat m row ++ cs.drop m)) As As') (hr : SelR As 1 (.slice u m c) m row) (h1 : (flat m row).all one = true)
    (hx : ∀ j, ev (mk l j) x = .slice (some ⟨b, 0, none⟩) n' c' := by intro j; rfl) (hy : ∀ j, ev (mk l j) y = .slice u m c := by intro j; rfl) :
    StepL P ⟨dd, .call ⟨.builtin .copy, #[x, y], #[t, t2]⟩, oty, pos, af, g⟩ l As (fun v Cs => v = .int .i64 (m : Nat) ∧ Cs = As') := .mk fun j Fs H M q => by
  rw [execOp_copy, hx j, hy j]
  obtain ⟨Cs, s1, s2⟩ := (up.app Fs).sels
  obtain ⟨hb, hq⟩ := own_write (o' := .cells (flat m row ++ cs.drop m).toArray ty (0, 0)) (s1.sat q)
  have hrr := (hr.app Fs).rd q
  have hrl : ∀ i, i < m → (row i).length = 1 := by obtain ⟨_, _, _, _, h, _⟩ := hrr; exact h
  have hfl := flat_len hrl
  refine hmc_of_hm (hm_bind (hm_copy (n' := n') (c' := c') (off := 0) hb hrr h1 (by simp; omega) (hm_pure ⟨_, .inl rfl, _, ⟨by rw [Nat.min_eq_left hm], rfl⟩, ?_⟩)))
  rw [Nat.min_eq_left hm, setL_list _ _ _ (by rw [hfl]; omega)]
  rw [hfl]
  simp only [List.take_zero, List.nil_append, Nat.zero_add, Nat.mul_one]
  exact s2.back hq
end
end Go.Cam
/- What was handed in, of any depth, with a bound of its weight. -/
namespace Go.Cam
open Go.ChangeShapes Go.WideShapes Go.Deep
def Sh.okB (H : Heap) (B : Nat) : Sh → List Value → Prop
  | .int k, cs => ∃ n, cs = [.int k n] ∧ (Lit.int k n).wf = true
  | .str, cs => ∃ s : ByteArray, cs = [.string s] ∧ s.size ≤ B
  | .bool, cs => ∃ b, cs = [.bool b]
  | .emp, cs => cs = []
  | .cat a b, cs => ∃ x y, cs = x ++ y ∧ a.okB H B x ∧ b.okB H B y
  | .slice sz s, cs => ∃ a len cap row, cs = [.slice a len cap] ∧ len ≤ cap ∧ cap ≤ B ∧ (∀ M, (SA none sz (.slice a len cap) len row).p H M) ∧ ∃ b : Nat → Nat, ((List.range len).map b).sum ≤ B ∧ ∀ i, i < len → s.okB H (b i) (row i)
theorem sum_ge {l : List Nat} {x : Nat} (h : x ∈ l) : x ≤ l.sum := by
  induction l with
  | nil => cases h
  | cons y l ih =>
    rw [List.sum_cons]
    rcases List.mem_cons.1 h with rfl | h
    · omega
    · have := ih h; omega
theorem range_ge {n i : Nat} (b : Nat → Nat) (hi : i < n) : b i ≤ ((List.range n).map b).sum := sum_ge (List.mem_map.2 ⟨i, List.mem_range.2 hi, rfl⟩)
structure Wt {H : Type} (wt : DataW H → Nat) : Prop where
  str : ∀ b : List UInt8, b.length ≤ wt (.lit (.string b))
  agg : ∀ l d, d ∈ l → wt d ≤ wt (.agg l)
  sl : ∀ l r, (l.map wt).sum ≤ wt (.slice l r)
  len : ∀ l r, l.length + r.length ≤ wt (.slice l r)
section
variable {H : Type} {enc : TypeId × Value → H} {P : Program} {w : World} {base : Nat} {held : Bool}
theorem shF_okB {B : Nat} {Q : DataW H × List MemPlace → Prop} {d : Nat} {n : Nat} {cs : List Value} (ih : ∀ t cs x s, DataW.trod enc P w base (fun _ => true) held n t cs = some x → Q x → shT P d t = some s → s.okB (fun b => w.heap[b]?) B cs) :
    ∀ (fs : List Field) (off : Nat) (s : Sh), (∀ f, f ∈ fs → ∃ x, DataW.trod enc P w base (fun _ => true) held n f.type ((cs.drop f.offset).take (P.cellsOf f.type)) = some x ∧ Q x) → shF P (shT P d) fs off = some s → s.okB (fun b => w.heap[b]?) B ((cs.drop off).take s.w)
  | [], off, s, _, h => by
    simp only [shF, Option.some.injEq] at h
    subst h; simp [Sh.okB, Sh.w]
  | f :: r, off, s, hf, h => by
    unfold shF at h
    split at h
    · rename_i ho
      subst ho
      obtain ⟨k1, h1, h2⟩ := Option.bind_eq_some_iff.1 h
      split at h2
      · rename_i hl
        obtain ⟨k2, h3, rfl⟩ := Option.map_eq_some_iff.1 h2
        obtain ⟨x, hx, hqx⟩ := hf f (by simp)
        have a := ih _ _ _ _ hx hqx h1
        have b := shF_okB ih r _ k2 (fun g hg => hf g (by simp [hg])) h3
        refine ⟨_, _, ?_, a, b⟩
        rw [Sh.w, hl, List.take_add, List.drop_drop]
      · cases h2
    · cases h
theorem rep_okB {B : Nat} {s : Sh} {m : Nat} {Hp : Heap} : ∀ (n : Nat) (cs : List Value), cs.length = n * m → s.w = m → (∀ i, i < n → s.okB Hp B ((cs.drop (i * m)).take m)) → (s.rep n).okB Hp B cs
  | 0, cs, hl, _, _ => by
    rw [Nat.zero_mul] at hl
    exact List.eq_nil_of_length_eq_zero hl
  | n + 1, cs, hl, hm, h => by
    rw [Nat.add_mul, Nat.one_mul] at hl
    refine ⟨cs.take m, cs.drop m, (List.take_append_drop m cs).symm, by have := h 0 (by omega); simpa using this, rep_okB n _ (by rw [List.length_drop]; omega) hm fun i hi => ?_⟩
    have := h (i + 1) (by omega)
    rw [Nat.add_mul, Nat.one_mul, Nat.add_comm, ← List.drop_drop] at this
    exact this
theorem trod_shB {wt : DataW H → Nat} (W : Wt wt) : ∀ (d : Nat) (B : Nat) (n : Nat) (t : TypeId) (cs : List Value) (x : DataW H × List MemPlace) (s : Sh), DataW.trod enc P w base (fun _ => true) held n t cs = some x → wt x.1 ≤ B → shT P d t = some s → s.okB (fun b => w.heap[b]?) B cs
  | 0, _, _, _, _, _, _, _, _, h => by simp [shT] at h
  | d + 1, B, n, t, cs, x, s, ht, hB, h => by
    unfold shT at h
    split at h
    · rename_i k hu
      cases h
      obtain ⟨v, rfl, _, hw⟩ := DataW.trod_int hu ht
      exact ⟨v, rfl, hw⟩
    · rename_i hu
      cases h
      obtain ⟨v, rfl, rfl, hw⟩ := DataW.trod_string hu ht
      exact ⟨v, rfl, Nat.le_trans (Nat.le_trans (by rw [Array.length_toList]; exact Nat.le_refl _) (W.str _)) hB⟩
    · rename_i hu
      cases h
      obtain ⟨v, rfl, _⟩ := DataW.trod_bool hu ht
      exact ⟨v, rfl⟩
    · rename_i fs hu
      obtain ⟨k1, h1, h2⟩ := Option.bind_eq_some_iff.1 h
      split at h2
      · rename_i hl
        cases h2
        obtain ⟨xs, m, _, rfl, hlen, hxl, hf⟩ := DataW.trod_struct hu ht
        have := shF_okB (Q := fun x => wt x.1 ≤ B) (cs := cs) (fun t cs x ks a q b => trod_shB W d B m t cs x ks a q b) fs.toList 0 s (fun f hfm => by
          obtain ⟨i, hi, rfl⟩ := List.getElem_of_mem hfm
          have hi' : i < fs.size := by simpa using hi
          have := hf i fs[i] (by simp [hi'])
          refine ⟨xs[i]'(by omega), ?_⟩
          rw [show fs.toList[i] = fs[i] by simp]
          rw [this]; exact ⟨List.getElem?_eq_getElem (by omega), Nat.le_trans (W.agg _ _ (List.mem_map.2 ⟨_, List.getElem_mem _, rfl⟩)) hB⟩) h1
        rw [List.drop_zero, hl, ← hlen, List.take_of_length_le (Nat.le_refl _)] at this
        exact this
      · cases h2
    · rename_i m e hu
      obtain ⟨k1, h1, h2⟩ := Option.bind_eq_some_iff.1 h
      split at h2
      · rename_i hl
        cases h2
        obtain ⟨xs, q, _, rfl, hlen, hxl, hf⟩ := DataW.trod_array hu ht
        refine rep_okB (m := P.cellsOf e) m cs (by rw [hlen, ← hl.2, hl.1]) hl.1 fun i hi => ?_
        have h3 := hf i hi
        rw [List.getElem?_eq_getElem (by omega)] at h3
        exact trod_shB W d B q e _ _ k1 h3 (Nat.le_trans (W.agg _ _ (List.mem_map.2 ⟨_, List.getElem_mem _, rfl⟩)) hB) h1
      · cases h2
    · rename_i e hu
      obtain ⟨k1, h1, h2⟩ := Option.bind_eq_some_iff.1 h
      split at h2
      · rename_i hl
        cases h2
        rcases open_slice hu ht with ⟨rfl, _⟩ | ⟨a, len, cap, m, q, D, Pl, rfl, _, hlc, hm, hmm, hxe, hi⟩
        · exact ⟨none, 0, 0, fun _ => [], rfl, Nat.le_refl _, Nat.zero_le _, fun M => ⟨none, 0, rfl, Nat.le_refl _, fun i hi => absurd hi (Nat.not_lt_zero _), fun h => absurd h (Nat.not_lt_zero _)⟩, fun _ => 0, Nat.zero_le _, fun i hi => absurd hi (Nat.not_lt_zero _)⟩
        · simp only [if_true] at hmm
          subst hmm
          rw [← hl.1] at hi
          have hch : ∀ i, ∃ cs', i < m → w.cells? base (a.add (i * k1.w)) k1.w = some cs' ∧ DataW.trod enc P w base (fun _ => true) held q e cs' = some (D i, Pl i) := fun i => by
            by_cases c : i < m
            · obtain ⟨cs', h1⟩ := hi i c; exact ⟨cs', fun _ => h1⟩
            · exact ⟨[], fun h => absurd h c⟩
          have hD : ((List.range len).map fun i => wt (D i)).sum ≤ B := by
            refine Nat.le_trans ?_ (Nat.le_trans (W.sl _ _) (by rw [hxe] at hB; exact hB))
            rw [List.map_map]; exact Nat.le_refl _
          have hmB : m ≤ B := by
            have h9 := W.len ((List.range len).map D) ((List.range (m - len)).map fun j => D (len + j))
            rw [List.length_map, List.length_map, List.length_range, List.length_range] at h9
            rw [hxe] at hB
            have h10 : wt (DataW.slice ((List.range len).map D) ((List.range (m - len)).map fun j => D (len + j))) ≤ B := hB
            omega
          refine ⟨some a, len, m, fun i => (hch i).choose, rfl, hlc, hmB, sl_sa hl.2 hlc fun i hi2 => ((hch i).choose_spec (by omega)).1, fun i => wt (D i), hD, fun i hi2 => ?_⟩
          exact trod_shB W d _ q e _ _ k1 ((hch i).choose_spec (by omega)).2 (Nat.le_refl _) h1
      · cases h2
    · cases h
end
theorem Sh.bytesB {H : Heap} {B : Nat} {cs : List Value} (h : (Sh.slice 1 (.int .u8)).okB H B cs) : ∃ a cap l, cs = [.slice a (List.length l) cap] ∧ (∀ c ∈ l, c < 256) ∧ l.length ≤ B ∧ ∀ M, (SA none 1 (.slice a l.length cap) l.length (fun i => [.int .u8 ((l.getD i 0 : Nat) : Int)])).p H M := by
  obtain ⟨a, len, cap, row, rfl, h1, h2, h3, _, _, h4⟩ := h
  obtain ⟨l, rfl, hl⟩ := list_choose (α := Nat) (φ := fun i b => row i = [.int .u8 (b : Int)] ∧ b < 256) len fun i hi => by
    obtain ⟨n, h5, h6⟩ := h4 i hi
    have := wf_u8 h6
    exact ⟨n.toNat, by rw [h5, Int.toNat_of_nonneg this.1], by omega⟩
  refine ⟨a, cap, l, rfl, fun c hc => ?_, by omega, fun M => SA.cg _ (fun i hi => (hl i hi).1) H M (h3 M)⟩
  obtain ⟨i, hi, e⟩ := List.mem_iff_getElem.1 hc
  have := (hl i hi).2
  rw [List.getD_eq_getElem?_getD, List.getElem?_eq_getElem hi, Option.getD_some, e] at this
  exact this
end Go.Cam
/- The plain law of quoting: what is read is just what would be written. -/
namespace Go.Proofs.YtmlddafbenfilaaDoor
open Go.Cam
set_option maxRecDepth 100000
/-- a byte that stands for itself -/
def itselfN (c : Nat) : Bool := decide (97 ≤ c ∧ c ≤ 122) || decide (65 ≤ c ∧ c ≤ 90) || decide (48 ≤ c ∧ c ≤ 57) || decide (c = 47 ∨ c = 46 ∨ c = 45 ∨ c = 95)
def hexN (d : Nat) : Nat := if d < 10 then 48 + d else 87 + d
/-- what a digit to the base 16 is -/
def hexI (c : Nat) : Option Nat := if 48 ≤ c ∧ c ≤ 57 then some (c - 48) else if 97 ≤ c ∧ c ≤ 102 then some (c - 87) else none
def q1 (c : Nat) : List Nat := if itselfN c then [c] else [37, hexN (c / 16), hexN (c % 16)]
def qB (b : List Nat) : List Nat := b.flatMap q1
def quoteN (b : List Nat) : List Nat := 34 :: (qB b ++ [34])
/-- what the program reads between the quotes -/
def unP : List Nat → Option (List Nat)
  | [] => some []
  | c :: r => if itselfN c then (unP r).map (c :: ·) else if c ≠ 37 then none else
    match r with
    | h :: l :: r' => match hexI h, hexI l with
      | some a, some b => if itselfN (16 * a + b) then none else (unP r').map ((16 * a + b) :: ·)
      | _, _ => none
    | _ => none
/-- what the document reads there -/
def decR : List Nat → List Nat
  | [] => []
  | c :: r => if c = 37 then
      match r with
      | h :: l :: r' => (16 * (hexI h).getD 0 + (hexI l).getD 0) % 256 :: decR r'
      | [x] => [c, x]
      | [] => [c]
    else c :: decR r
theorem unP_cons (c : Nat) (r : List Nat) : unP (c :: r) = if itselfN c then (unP r).map (c :: ·) else if c ≠ 37 then none else
    match r with
    | h :: l :: r' => match hexI h, hexI l with
      | some a, some b => if itselfN (16 * a + b) then none else (unP r').map ((16 * a + b) :: ·)
      | _, _ => none
    | _ => none := by rw [unP.eq_def]
theorem decR_cons (c : Nat) (r : List Nat) : decR (c :: r) = if c = 37 then
      match r with
      | h :: l :: r' => (16 * (hexI h).getD 0 + (hexI l).getD 0) % 256 :: decR r'
      | [x] => [c, x]
      | [] => [c]
    else c :: decR r := by rw [decR.eq_def]
theorem hexI_lt {c a : Nat} (h : hexI c = some a) : a < 16 := by
  unfold hexI at h
  split at h
  · cases h; omega
  · split at h
    · cases h; omega
    · cases h
theorem hexI_N {c a : Nat} (h : hexI c = some a) : hexN a = c := by
  unfold hexI at h
  unfold hexN
  split at h
  · cases h; rw [if_pos (by omega)]; omega
  · split at h
    · cases h; rw [if_neg (by omega)]; omega
    · cases h
theorem hexN_I {d : Nat} (h : d < 16) : hexI (hexN d) = some d := by
  unfold hexN hexI
  split
  · rw [if_pos (by omega)]; congr 1; omega
  · rw [if_neg (by omega), if_pos (by omega)]; congr 1; omega
theorem not37 : itselfN 37 = false := by decide
theorem unP_qB : ∀ (o : List Nat), Bys o → unP (qB o) = some o
  | [], _ => rfl
  | c :: o, hb => by
    have ih := unP_qB o fun x hx => hb x (List.mem_cons_of_mem _ hx)
    have hc := hb c (List.mem_cons_self ..)
    show unP (q1 c ++ qB o) = _
    unfold q1
    cases hi : itselfN c with
    | true =>
      rw [if_pos rfl]
      show unP (c :: qB o) = _
      rw [unP_cons, if_pos hi, ih]; rfl
    | false =>
      rw [if_neg (by decide)]
      show unP (37 :: hexN (c / 16) :: hexN (c % 16) :: qB o) = _
      rw [unP_cons, if_neg (by rw [not37]; decide), if_neg (by simp)]
      dsimp only
      rw [hexN_I (by omega), hexN_I (by omega)]
      dsimp only
      rw [show 16 * (c / 16) + c % 16 = c by omega, hi, if_neg (by decide), ih]; rfl
theorem unP_spec : ∀ (n : Nat) (x o : List Nat), x.length ≤ n → unP x = some o → Bys x → qB o = x ∧ decR x = o ∧ Bys o
  | _, [], o, _, h, _ => by
    rw [unP] at h; cases h
    exact ⟨rfl, rfl, fun x hx => nomatch hx⟩
  | 0, c :: r, _, hl, _, _ => by rw [List.length_cons] at hl; omega
  | n + 1, c :: r, o, hl, h, hb => by
    rw [List.length_cons] at hl
    have hbr : Bys r := fun x hx => hb x (List.mem_cons_of_mem _ hx)
    rw [unP_cons] at h
    split at h
    · rename_i hi
      cases hu : unP r with
      | none => rw [hu] at h; cases h
      | some o' =>
        rw [hu] at h; cases h
        obtain ⟨h1, h2, h3⟩ := unP_spec n r o' (by omega) hu hbr
        have hc37 : c ≠ 37 := fun e => by rw [e, not37] at hi; cases hi
        refine ⟨?_, ?_, fun x hx => ?_⟩
        · show q1 c ++ qB o' = _
          unfold q1; rw [if_pos hi, h1]; rfl
        · rw [decR_cons, if_neg hc37, h2]
        · rcases List.mem_cons.1 hx with rfl | hx
          · exact hb _ (List.mem_cons_self ..)
          · exact h3 x hx
    · split at h
      · cases h
      · rename_i hi hc
        have hc : c = 37 := Classical.byContradiction hc
        subst hc
        match r, hl, hbr, h with
        | [], _, _, h => cases h
        | [_], _, _, h => cases h
        | p :: l :: r', hl, hbr, h =>
          dsimp only at h
          cases hp : hexI p with
          | none => rw [hp] at h; cases h
          | some a =>
            cases hq : hexI l with
            | none => rw [hp, hq] at h; cases h
            | some b =>
              rw [hp, hq] at h
              dsimp only at h
              split at h
              · cases h
              · rename_i hv
                have ha := hexI_lt hp
                have hbl := hexI_lt hq
                cases hu : unP r' with
                | none => rw [hu] at h; cases h
                | some o' =>
                  rw [hu] at h; cases h
                  rw [List.length_cons, List.length_cons] at hl
                  obtain ⟨h1, h2, h3⟩ := unP_spec n r' o' (by omega) hu fun x hx => hbr x (List.mem_cons_of_mem _ (List.mem_cons_of_mem _ hx))
                  refine ⟨?_, ?_, fun x hx => ?_⟩
                  · show q1 (16 * a + b) ++ qB o' = _
                    unfold q1
                    rw [if_neg hv, show (16 * a + b) / 16 = a by omega, show (16 * a + b) % 16 = b by omega, hexI_N hp, hexI_N hq, h1]; rfl
                  · rw [decR_cons, if_pos rfl]
                    dsimp only
                    rw [hp, hq, h2]
                    show (16 * a + b) % 256 :: o' = _
                    rw [Nat.mod_eq_of_lt (by omega)]
                  · rcases List.mem_cons.1 hx with rfl | hx
                    · omega
                    · exact h3 x hx
/-- both readings of a text -/
def unquoteP (s : List Nat) : Option (List Nat) := if s.length < 2 ∨ s.head? ≠ some 34 ∨ s.getLast? ≠ some 34 then none else unP ((s.drop 1).dropLast)
def unquoteR (s : List Nat) : Option (List Nat) := if s.length < 2 then none else if quoteN (decR ((s.drop 1).dropLast)) = s then some (decR ((s.drop 1).dropLast)) else none
theorem decR_bys : ∀ (n : Nat) (x : List Nat), x.length ≤ n → Bys x → Bys (decR x)
  | _, [], _, _ => fun x hx => nomatch hx
  | 0, c :: r, hl, _ => by rw [List.length_cons] at hl; omega
  | n + 1, c :: r, hl, hb => by
    rw [List.length_cons] at hl
    have hbr : Bys r := fun x hx => hb x (List.mem_cons_of_mem _ hx)
    rw [decR_cons]
    split
    · match r, hl, hbr with
      | [], _, _ => exact hb
      | [_], _, _ => exact hb
      | p :: l :: r', hl, hbr =>
        rw [List.length_cons, List.length_cons] at hl
        have ih := decR_bys n r' (by omega) fun x hx => hbr x (List.mem_cons_of_mem _ (List.mem_cons_of_mem _ hx))
        intro x hx
        rcases List.mem_cons.1 hx with rfl | hx
        · exact Nat.mod_lt _ (by decide)
        · exact ih x hx
    · have ih := decR_bys n r (by omega) hbr
      intro x hx
      rcases List.mem_cons.1 hx with rfl | hx
      · exact hb _ (List.mem_cons_self ..)
      · exact ih x hx
theorem unquote_same (s : List Nat) (hb : Bys s) : unquoteP s = unquoteR s := by
  unfold unquoteP unquoteR
  by_cases hl : s.length < 2
  · rw [if_pos (.inl hl), if_pos hl]
  · rw [if_neg hl]
    match s, hl, hb with
    | a :: t, hl, hb =>
      have hl : ¬ t.length + 1 < 2 := hl
      have htn : t ≠ [] := fun e => by rw [e] at hl; simp at hl
      have et : t = t.dropLast ++ [t.getLast htn] := (List.dropLast_concat_getLast htn).symm
      generalize hx : t.dropLast = x at *
      generalize hz : t.getLast htn = z at *
      subst et
      have hbx : Bys x := fun c hc => hb c (List.mem_cons_of_mem _ (List.mem_append_left _ hc))
      rw [show ((a :: (x ++ [z])).drop 1).dropLast = x by simp]
      have hq : quoteN (decR x) = a :: (x ++ [z]) ↔ a = 34 ∧ z = 34 ∧ qB (decR x) = x := by
        unfold quoteN
        constructor
        · intro h
          obtain ⟨h1, h2⟩ := List.cons.inj h
          obtain ⟨h3, h4⟩ := List.append_inj' h2 rfl
          exact ⟨h1.symm, (List.cons.inj h4).1.symm, h3⟩
        · rintro ⟨rfl, rfl, h⟩; rw [h]
      by_cases hc : a = 34 ∧ z = 34
      · obtain ⟨rfl, rfl⟩ := hc
        rw [if_neg (by
          rintro (h | h | h)
          · rw [List.length_cons, List.length_append, List.length_singleton] at h; omega
          · exact h rfl
          · exact h (by simp [List.getLast?_cons, List.getLast?_append]))]
        cases hu : unP x with
        | some o =>
          obtain ⟨h1, h2, _⟩ := unP_spec x.length x o (Nat.le_refl _) hu hbx
          rw [if_pos (hq.2 ⟨rfl, rfl, by rw [h2]; exact h1⟩), h2]
        | none =>
          rw [if_neg fun h => ?_]
          have h1 := (hq.1 h).2.2
          have h2 := unP_qB (decR x) (decR_bys x.length x (Nat.le_refl _) hbx)
          rw [h1, hu] at h2; cases h2
      · rw [if_neg fun h => hc ⟨(hq.1 h).1, (hq.1 h).2.1⟩, if_pos]
        by_cases ha : a = 34
        · refine .inr (.inr ?_)
          have : z ≠ 34 := fun e => hc ⟨ha, e⟩
          simp [List.getLast?_append, List.getLast?_cons]
          omega
        · exact .inr (.inl (by simp; exact ha))
end Go.Proofs.YtmlddafbenfilaaDoor
/- The plain law of numbers: what is read of a number's text is the number. -/
namespace Go.Proofs.YtmlddafbenfilaaDoor
open Go.Cam
set_option maxRecDepth 100000
theorem u8_of {n : Nat} (h : n < 256) : (UInt8.ofNat n).toNat = n := by rw [UInt8.toNat_ofNat']; exact Nat.mod_eq_of_lt h
theorem dec_digit : ∀ (k u : Nat), u ≤ k → ∀ c ∈ Go.Lib.decDigits u, 48 ≤ c.toNat ∧ c.toNat ≤ 57
  | k, u, hk, c, hc => by
    by_cases h : u < 10
    · rw [Go.Lib.decDigits, dif_pos h, List.mem_singleton] at hc
      subst hc
      rw [u8_of (by omega)]; omega
    · rw [Go.Lib.decDigits, dif_neg h] at hc
      match k, hk with
      | k + 1, hk =>
        rcases List.mem_append.1 hc with hc | hc
        · exact dec_digit k (u / 10) (by omega) c hc
        · rw [List.mem_singleton] at hc
          subst hc
          rw [u8_of (by omega)]; omega
      | 0, hk => omega
theorem dec_ne (u : Nat) : Go.Lib.decDigits u ≠ [] := by
  rw [Go.Lib.decDigits]
  split
  · simp
  · simp
theorem parse_snoc : ∀ (l : List UInt8) (acc v : Nat) (c : UInt8), Go.Lib.parseUint10 acc l = .ok v → 48 ≤ c.toNat ∧ c.toNat ≤ 57 → v < 1844674407370955162 → v * 10 + (c.toNat - 48) < 18446744073709551616 → Go.Lib.parseUint10 acc (l ++ [c]) = .ok (v * 10 + (c.toNat - 48))
  | [], acc, v, c, h, hc, h1, h2 => by
    unfold Go.Lib.parseUint10 at h
    cases h
    show Go.Lib.parseUint10 acc [c] = _
    unfold Go.Lib.parseUint10
    rw [if_pos hc, if_neg (by omega), if_neg (by omega)]
    unfold Go.Lib.parseUint10
    rfl
  | d :: l, acc, v, c, h, hc, h1, h2 => by
    show Go.Lib.parseUint10 acc (d :: (l ++ [c])) = _
    unfold Go.Lib.parseUint10 at h ⊢
    split at h
    · rename_i hd
      rw [if_pos hd]
      split at h
      · cases h
      · rename_i h3
        rw [if_neg h3]
        split at h
        · cases h
        · rename_i h4
          rw [if_neg h4]
          exact parse_snoc l _ v c h hc h1 h2
    · cases h
theorem parse_dec : ∀ (k u : Nat), u ≤ k → u ≤ 9223372036854775808 → Go.Lib.parseUint10 0 (Go.Lib.decDigits u) = .ok u
  | k, u, hk, hu => by
    by_cases h : u < 10
    · rw [Go.Lib.decDigits, dif_pos h]
      unfold Go.Lib.parseUint10
      have e : (UInt8.ofNat (48 + u)).toNat = 48 + u := by rw [u8_of (by omega)]
      rw [e, if_pos (by omega), if_neg (by decide), if_neg (by omega)]
      unfold Go.Lib.parseUint10
      congr 1; omega
    · rw [Go.Lib.decDigits, dif_neg h]
      match k, hk with
      | k + 1, hk =>
        have ih := parse_dec k (u / 10) (by omega) (by omega)
        have e : (UInt8.ofNat (48 + u % 10)).toNat = 48 + u % 10 := by rw [u8_of (by omega)]
        rw [parse_snoc _ _ _ _ ih (by rw [e]; omega) (by omega) (by rw [e]; omega), e]
        congr 1; omega
      | 0, hk => omega
/-- the program's way -/
theorem atoi_itoa (n : Int) (h : -9223372036854775808 ≤ n ∧ n ≤ 9223372036854775807) : Go.Lib.atoiAll (Go.Lib.itoa n) = .ok n := by
  unfold Go.Lib.itoa
  split
  · rename_i hn
    unfold Go.Lib.atoiAll
    dsimp only
    rw [if_pos (.inr (by decide))]
    have e : Go.Lib.parseMag (Go.Lib.decDigits n.natAbs) = .ok n.natAbs := by
      unfold Go.Lib.parseMag
      rw [if_neg (dec_ne _), parse_dec n.natAbs n.natAbs (Nat.le_refl _) (by omega)]
    rw [e]
    dsimp only
    rw [if_neg (by intro q; exact q.1 (by decide)), if_neg (by omega), if_pos (by decide)]
    congr 1; omega
  · rename_i hn
    have hp := parse_dec n.toNat n.toNat (Nat.le_refl _) (by omega)
    have hd := dec_digit n.toNat n.toNat (Nat.le_refl _)
    have hne := dec_ne n.toNat
    generalize hl : Go.Lib.decDigits n.toNat = l at *
    match l, hne with
    | c :: r, _ =>
      have hc := hd c (List.mem_cons_self ..)
      unfold Go.Lib.atoiAll
      dsimp only
      rw [if_neg (by omega)]
      have e : Go.Lib.parseMag (c :: r) = .ok n.toNat := by
        unfold Go.Lib.parseMag
        rw [if_neg (by simp), hp]
      rw [e]
      dsimp only
      rw [if_neg (by omega), if_neg (by omega), if_neg (by omega)]
      congr 1; omega
end Go.Proofs.YtmlddafbenfilaaDoor
