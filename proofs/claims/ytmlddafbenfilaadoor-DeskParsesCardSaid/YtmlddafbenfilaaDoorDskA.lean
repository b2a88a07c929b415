/- A text is made bytes. -/
import Derived.Test.YtmlddafbenfilaaDoorCamAO
import Derived.Lib.Builder
import Derived.Lib.UnsafeStr
import Derived.Laws.Externs
namespace Go.Cam
section
variable {P : Program} {l : List (Nat × Value)} {As : List HP} {dd : Option Nat} {oty : TypeId} {pos : String} {af : Array Edge} {g : Option (Nat × Bool)}
theorem st_s2b {t t2 e : TypeId} {x : Operand} {s : List Nat} [sc : SC P t e] [sy : STY P t2] [u8 : U8T P e] (hb : Bys s)
    (hx : ∀ j, ev (mk l j) x = .string (strB s) := by intro j; rfl) :
    StepL P ⟨dd, .convert t2 t x, oty, pos, af, g⟩ l As (fun v Bs => ∃ r cs c, v = .slice (some ⟨r, 0, none⟩) s.length c ∧ s.length ≤ c ∧ cs.size = c ∧ cs.toList.take s.length = bcl s ∧ Bs = .own r (.cells cs e (cs.size, cs.size + 1)) :: As) := .mk fun j Fs H M q => by
  refine hmc_of_hm ?_
  show hm P (convert t2 t (ev (mk l j) x) >>= fun v => pure (Next.value v)) H M _
  rw [hx j]
  refine hm_bind ?_
  unfold convert
  refine hm_bind (hm_cst sy.h ?_)
  refine hm_bind (hm_cst sc.h ?_)
  dsimp only
  refine hm_bind (hm_cst u8.h ?_)
  dsimp only
  unfold Conv.stringToBytes
  refine hm_bind (hm_choose fun cap _ hcut => ?_)
  obtain ⟨tt, rfl⟩ := hcut rfl
  have hnc : (strB s).size ≤ (Question.appendCap (strB s).size 0 e).cut tt := by simp [Question.cut]
  generalize (Question.appendCap (strB s).size 0 e).cut tt = nc at hnc
  have hsz : (strB s).size = s.length := by simp [strB, ByteArray.size]
  dsimp only
  generalize hcs : ((strB s).data.map (fun b : UInt8 => Value.int .u8 b.toNat)) ++ Array.replicate (nc - (strB s).size) (Value.int .u8 0) = cs
  have hcsz : cs.size = nc := by
    rw [← hcs, Array.size_append, Array.size_map, Array.size_replicate]
    have : (strB s).data.size = (strB s).size := rfl
    omega
  have hct : cs.toList.take s.length = bcl s := by
    rw [← hcs, Array.toList_append]
    have e1 : ((strB s).data.map (fun b : UInt8 => Value.int .u8 b.toNat)).toList = bcl s := by
      unfold strB bcl
      rw [Array.toList_map, List.map_map]
      refine List.map_congr_left fun b h => ?_
      have := hb b h
      show Value.int .u8 ((UInt8.ofNat b).toNat : Nat) = _
      rw [UInt8.toNat_ofNat', Nat.mod_eq_of_lt this]
    rw [e1, List.take_left' (by simp [bcl])]
  refine hm_bind (hm_newRow fun r hr => ?_)
  have h1 : upd M r (.cells cs e) r = some (.cells cs e (0, 0)) := upd_same _ _ _
  refine hm_bind (fun w0 w hh => ?_)
  have h2 := hh.m r _ h1
  have hsh : w.shape? r = some (e, cs.size) := by unfold World.shape?; rw [h2]
  refine ⟨(), w.freeze ⟨r, cs.size, none⟩ 1, H, upd (upd M r (.cells cs e (0, 0))) r (.cells cs e (cs.size, cs.size + 1)), ?_, ?_, hm_pure (hm_pure ⟨_, .inl rfl, _, ⟨r, cs, nc, by rw [hsz], by omega, hcsz, hct, rfl⟩, ?_⟩)⟩
  · simp [markStringish, hsh]
  · exact hh.modify h1 (fun o => match o with | .cells c elem (lo, hi) => .cells c elem (if lo == hi then (cs.size, cs.size + 1) else (min lo cs.size, max hi (cs.size + 1))) | o => o)
  · have : upd (upd M r (.cells cs e (0, 0))) r (.cells cs e (cs.size, cs.size + 1)) = upd M r (.cells cs e (cs.size, cs.size + 1)) := by
      funext q; unfold upd; split <;> rfl
    rw [this]
    exact own_new hr q
end
end Go.Cam
/- Elements of arrays that lie in a slice; bytes turned. -/
namespace Go.Cam
section
variable {P : Program} {f : FuncId} {n : Nat} {R : Value → HP} {k : List It} {l : List (Nat × Value)} {As Bs : List HP} {all : Array Oper} {rest : List Oper} {d : Nat} {dd : Option Nat} {oty : TypeId} {pos : String} {af : Array Edge} {g : Option (Nat × Bool)}
end
end Go.Cam
/- A key is taken out of a map. -/
namespace Go.Cam
theorem WFM.erase {es : List MapEntry} {ck : Nat} {gm : Int → Option Value} (h : WFM es ck gm) {k : Int} {j : Nat} {e : MapEntry} (hj : es[j]? = some e) (hk : e.key = .int .i64 k) : WFM (es.eraseIdx j) ck (mset gm k none) where
  key x hx := by
    obtain ⟨i, hi, hx2⟩ := List.mem_eraseIdx_iff_getElem?.1 hx
    obtain ⟨k2, h1, h2⟩ := h.key x (List.mem_of_getElem? hx2)
    refine ⟨k2, h1, ?_⟩
    unfold mset
    rw [if_neg]
    · exact h2
    · intro e2
      subst e2
      have hp := h.kd
      rw [List.pairwise_iff_getElem] at hp
      have hil : i < es.length := by rcases Nat.lt_or_ge i es.length with g | g; exact g; rw [List.getElem?_eq_none g] at hx2; cases hx2
      have hjl : j < es.length := by rcases Nat.lt_or_ge j es.length with g | g; exact g; rw [List.getElem?_eq_none g] at hj; cases hj
      have e1 : es[j] = e := by rw [List.getElem?_eq_getElem hjl] at hj; exact Option.some.inj hj
      have e4 : es[i] = x := by rw [List.getElem?_eq_getElem hil] at hx2; exact Option.some.inj hx2
      rcases Nat.lt_or_gt_of_ne hi with hl | hl
      · exact hp i j hil hjl hl (by rw [e1, e4, h1, hk])
      · exact hp j i hjl hil hl (by rw [e1, e4, h1, hk])
  all k2 v2 h2 := by
    unfold mset at h2
    split at h2
    · cases h2
    · rename_i hne
      obtain ⟨e', he', hk2⟩ := h.all _ _ h2
      obtain ⟨i, hi⟩ := List.getElem?_of_mem he'
      refine ⟨e', List.mem_eraseIdx_iff_getElem?.2 ⟨i, fun e2 => ?_, hi⟩, hk2⟩
      subst e2
      rw [hj] at hi; cases hi
      rw [hk] at hk2; cases hk2; exact hne rfl
  kd := h.kd.sublist (List.eraseIdx_sublist ..)
  bd := h.bd.sublist (List.eraseIdx_sublist ..)
  bl x hx := h.bl x (List.mem_of_mem_eraseIdx hx)
section
variable {P : Program} {f : FuncId} {n : Nat} {R : Value → HP} {k : List It} {l : List (Nat × Value)} {As Bs : List HP} {all : Array Oper} {rest : List Oper} {d : Nat} {dd : Option Nat} {oty : TypeId} {pos : String} {af : Array Edge} {g : Option (Nat × Bool)}
end
end Go.Cam
/- Appending a text's bytes; a pointer made raw and back; a row of bytes made a text without a copy. -/
namespace Go.Cam
theorem strB_size (s : List Nat) : (strB s).size = s.length := by simp [strB, ByteArray.size]
section
variable {P : Program} {H M : Heap}
end
section
variable {P : Program} {f : FuncId} {n : Nat} {R : Value → HP} {k : List It} {l : List (Nat × Value)} {As Bs : List HP} {all : Array Oper} {rest : List Oper} {d : Nat} {dd : Option Nat} {oty : TypeId} {pos : String} {af : Array Edge} {g : Option (Nat × Bool)}
/-- what is owned and not empty lies in a row of its own -/
theorem SA.some {e : Nat} {v : Value} {x : List Nat} {m : Nat} {H M : Heap} (h : (SA (some e) 1 v m (byR x)).p H M) (hx : x.length = m) (h0 : x ≠ []) : ∃ b c, v = .slice (some ⟨b, 0, none⟩) m (c + 1) := by
  obtain ⟨_, _, h3, a, cap, rfl⟩ := h
  subst hx
  rw [flat_byR'] at h3
  have hl : x.length ≠ 0 := by simpa using h0
  rcases h3 with ⟨h1, h2⟩ | ⟨b, len, c, cs, h1, h2, h3, h4, _⟩
  · have := congrArg List.length h2
    simp [bcl] at this; exact absurd this h0
  · cases h1
    exact ⟨b, cap - 1, by congr 1; omega⟩
/-- a pointer to a row of cells is made raw -/
theorem lk_raw {t t2 u : TypeId} {x : Operand} {b ty : Nat} {cs : List Value} {j0 : TypeInfo} {hu : P.underlying t = Option.some (.pointer u)} {hd : P.underlying t2 = Option.some .unsafePointer} {hi : P.info? u = Option.some j0} {hz : j0.size ≠ 0} (s : Sel (Box b ty cs) As Bs) (hc : 0 < cs.length)
    (hx : ∀ j, ev (mk l j) x = .pointer (Option.some ⟨b, 0, none⟩) := by intro j; rfl) : LookS P ⟨Option.some d, .convert t t2 x, oty, pos, af, g⟩ l As (.pointer (Option.some ⟨b, 0, none⟩)) := .mk fun j H M q => by
  refine qt_exec (s := convert t t2 (ev (mk l j) x)) (by unfold execOp; rfl) fun w0 w hh => ?_
  rw [hx j]
  have hb := hh.m _ _ (s.hold q)
  exact Lib.run_to_unsafe (e := ty) (cells := cs.length) w ⟨b, 0, none⟩ hu hd hi hz (by unfold World.shape?; rw [hb]; simp) hc
theorem lk_unraw {t t2 u : TypeId} {x : Operand} {b ty : Nat} {cs : List Value} {j0 : TypeInfo} {hu : P.underlying t2 = Option.some (.pointer u)} {hd : P.underlying t = Option.some .unsafePointer} {hi : P.info? u = Option.some j0} (s : Sel (Box b ty cs) As Bs) (hl : liesAt P P.depth ty (cs.length / P.cellsOf ty) 0 u 1 = true)
    (hx : ∀ j, ev (mk l j) x = .pointer (Option.some ⟨b, 0, none⟩) := by intro j; rfl) : LookS P ⟨Option.some d, .convert t t2 x, oty, pos, af, g⟩ l As (.pointer (Option.some ⟨b, 0, none⟩)) := .mk fun j H M q => by
  refine qt_exec (s := convert t t2 (ev (mk l j) x)) (by unfold execOp; rfl) fun w0 w hh => ?_
  rw [hx j]
  have hb := hh.m _ _ (s.hold q)
  exact Lib.run_from_unsafe (e := ty) (cells := cs.length) w ⟨b, 0, none⟩ hd hu hi (by unfold World.shape?; rw [hb]; simp) hl
/-- one and the same pointer -/
theorem lk_nep {t t2 u : TypeId} {x y : Operand} {a : Addr} {j0 : TypeInfo} {hu : P.underlying t = Option.some (.pointer u)} {hi : P.info? u = Option.some j0}
    (hx : ∀ j, ev (mk l j) x = .pointer (Option.some a) := by intro j; rfl) (hy : ∀ j, ev (mk l j) y = .pointer (Option.some a) := by intro j; rfl) : LookS P ⟨Option.some d, .binOp .neq t x y t2, oty, pos, af, g⟩ l As (.bool false) := .mk fun j H M q => by
  refine qs_binw rfl (by rw [hx j, hy j]; rfl) fun w => ?_
  rw [hx j, hy j]
  exact Lib.run_neq_ptr_same w a hu hi
/-- a row's head is made a text without a copy; the row is given up -/
theorem st_us {t t2 pt e m c b : Nat} {x y : Operand} {s : List Nat} (hs : Bys s) (hm : s.length = m) (h0 : s ≠ []) (hu : P.underlying pt = Option.some (.pointer e)) (hc : P.cellsOf e = 1) (u : Sel (SA (Option.some e) 1 (.slice (Option.some ⟨b, 0, none⟩) m c) m (byR s)) As Bs) (h63 : m ≤ 9223372036854775807 := by omega)
    (hx : ∀ j, ev (mk l j) x = .pointer (Option.some ⟨b, 0, none⟩) := by intro j; rfl) (hy : ∀ j, ev (mk l j) y = .int .i64 (m : Int) := by intro j; rfl) :
    StepL P ⟨dd, .call ⟨.builtin .unsafeString, #[x, y], #[pt, t]⟩, t2, pos, af, g⟩ l As (fun v Cs => v = .string (strB s) ∧ Cs = Bs) := .mk fun j Fs H M q => by
  subst hm
  have e1 : execOp (ev (mk l j)) ⟨dd, .call ⟨.builtin .unsafeString, #[x, y], #[pt, t]⟩, t2, pos, af, g⟩ = (Builtin.unsafeString_ #[pt, t] t2 #[ev (mk l j) x, ev (mk l j) y] >>= fun v => pure (Next.value v)) := by
    show (resolve (ev (mk l j)) ⟨.builtin .unsafeString, #[x, y], #[pt, t]⟩ t2 >>= fun d => invoke d.target d.args) = _
    have : #[x, y].map (ev (mk l j)) = #[ev (mk l j) x, ev (mk l j) y] := by simp
    unfold resolve
    dsimp only
    rw [this]; rfl
  rw [e1, hx j, hy j]
  have q := (u.app Fs).sat q
  obtain ⟨M1, M2, a1, a2, dj, hA, hB⟩ := q
  obtain ⟨_, _, hown, _⟩ := hA
  rw [flat_byR'] at hown
  have hl : s.length ≠ 0 := by simpa using h0
  rcases hown with ⟨h1, h2⟩ | ⟨b', len, c', cs, h1, h2, h3, h4, h5, h6⟩
  · cases h1
  · cases h1
    have hlen : (s.map UInt8.ofNat).length = s.length := by simp
    have hM : M b = Option.some (.cells cs e (0, 0)) := a1 _ _ h5
    refine hmc_of_hm (hm_bind fun w0 w hh => ?_)
    have hb := hh.m _ _ hM
    have hM2 : M2 b = none := (dj b).resolve_left fun e2 => by rw [e2] at h5; cases h5
    have hrun := Lib.run_unsafeString_row (P := P) w pt t t2 e hu hc b cs.size (by unfold World.shape?; rw [hb]) (s.map UInt8.ofNat) (by simpa using h0) (by rw [hlen]; omega) (by rw [hlen]; omega) (fun jj xx hj => by
      have e4 : ((⟨b, 0, none⟩ : Addr).add jj) = ⟨b, jj, none⟩ := by
        unfold Addr.add; split
        · rename_i e5; subst e5; rfl
        · simp
      rw [e4]
      unfold World.cell?
      rw [hb]
      rw [List.getElem?_map] at hj
      obtain ⟨cc, h7, rfl⟩ := Option.map_eq_some_iff.1 hj
      have h8 := congrArg (fun z => z[jj]?) h6
      simp only [bcl, List.getElem?_take, List.length_map, List.getElem?_map, h7, Option.map_some] at h8
      rw [if_pos (by rcases Nat.lt_or_ge jj s.length with g | g; exact g; rw [List.getElem?_eq_none g] at h7; cases h7)] at h8
      have h9 : cc < 256 := hs cc (List.mem_of_getElem? h7)
      have : ((UInt8.ofNat cc).toNat : Int) = (cc : Int) := by rw [UInt8.toNat_ofNat', Nat.mod_eq_of_lt h9]
      show cs[jj]? = Option.some (Value.int IntKind.u8 ((UInt8.ofNat cc).toNat : Int))
      rw [this]
      simpa using h8)
    rw [hlen] at hrun
    have hstr : (⟨(s.map UInt8.ofNat).toArray⟩ : ByteArray) = strB s := rfl
    rw [hstr] at hrun
    refine ⟨_, w.freeze ⟨b, 0, none⟩ s.length, H, M2, hrun, ?_, hm_pure ⟨_, .inl rfl, _, ⟨rfl, rfl⟩, hB⟩⟩
    have e2 : ∀ b2 o, M2 b2 = Option.some o → (w.freeze ⟨b, 0, none⟩ s.length).heap[b2]? = Option.some o := fun b2 o h => by
      have hne : b2 ≠ b := fun e3 => by rw [e3, hM2] at h; cases h
      have := hh.m _ _ (a2 _ _ h)
      unfold World.freeze
      split
      · exact this
      · simp only [Array.getElem?_modify]; rw [if_neg (fun e3 => hne e3.symm)]; exact this
    have e3 : ∀ b2 o, H b2 = Option.some o → (w.freeze ⟨b, 0, none⟩ s.length).heap[b2]? = Option.some o := fun b2 o h => by
      have hne : b2 ≠ b := fun e3 => by
        subst e3
        have := hh.d _ (by rw [h]; simp : H b2 ≠ none)
        rw [hM] at this; cases this
      have := hh.h _ _ h
      unfold World.freeze
      split
      · exact this
      · simp only [Array.getElem?_modify]; rw [if_neg (fun e3 => hne e3.symm)]; exact this
    have e5 : (w.freeze ⟨b, 0, none⟩ s.length).os = w.os ∧ (w.freeze ⟨b, 0, none⟩ s.length).tape = w.tape ∧ (w.freeze ⟨b, 0, none⟩ s.length).output = w.output ∧ (w.freeze ⟨b, 0, none⟩ s.length).heap.size = w.heap.size := by
      unfold World.freeze; split
      · exact ⟨rfl, rfl, rfl, rfl⟩
      · exact ⟨rfl, rfl, rfl, by simp⟩
    exact ⟨by rw [e5.1]; exact hh.os, by rw [e5.2.1]; exact hh.tape, by rw [e5.2.2.1]; exact hh.output, by rw [e5.2.2.2]; exact hh.size, e3, e2, fun b2 h => by
      have := hh.d _ h
      cases h7 : M2 b2 with
      | none => rfl
      | some o => rw [a2 _ _ h7] at this; cases this⟩
end
end Go.Cam
/- Texts: a byte of one, a part of one, two held against each other, two put together; functions that the model carries out in place. -/
namespace Go.Cam
theorem strB_toList {a : List Nat} (h : Bys a) : (strB a).toList.map UInt8.toNat = a := by
  have : (strB a).toList = a.map UInt8.ofNat := by simp [strB, ByteArray.toList_eq]
  rw [this, List.map_map]
  conv => rhs; rw [← List.map_id a]
  refine List.map_congr_left fun b hb => ?_
  show (UInt8.ofNat b).toNat = b
  rw [UInt8.toNat_ofNat', Nat.mod_eq_of_lt (h b hb)]
theorem strB_beq {a b : List Nat} (ha : Bys a) (hb : Bys b) : ((strB a).toList == (strB b).toList) = decide (a = b) := by
  by_cases e : a = b
  · subst e; simp
  · rw [decide_eq_false e, beq_eq_false_iff_ne]
    intro h
    have := congrArg (List.map UInt8.toNat) h
    rw [strB_toList ha, strB_toList hb] at this
    exact e this
theorem strB_part (s : List Nat) (p q : Nat) (hq : q ≤ s.length) : (strB s).extract p q = strB ((s.take q).drop p) := by
  unfold strB
  apply ByteArray.ext
  rw [ByteArray.data_extract]
  apply Array.ext'
  rw [Array.toList_extract, List.extract_eq_take_drop]
  simp [List.map_take, List.map_drop, List.drop_take]
theorem strB_app (a b : List Nat) : strB a ++ strB b = strB (a ++ b) := by
  unfold strB
  apply ByteArray.ext
  simp
section
variable {P : Program} {f : FuncId} {n : Nat} {R : Value → HP} {k : List It} {l : List (Nat × Value)} {As Bs : List HP} {all : Array Oper} {rest : List Oper} {d : Nat} {dd : Option Nat} {oty : TypeId} {pos : String} {af : Array Edge} {g : Option (Nat × Bool)}
theorem lk_lenB {t : TypeId} {p : Operand} {s : List Nat} [sc : STY P t] (hx : ∀ j, ev (mk l j) p = .string (strB s) := by intro j; rfl) :
    LookS P ⟨some d, .call ⟨.builtin .len, #[p], #[t]⟩, oty, pos, af, g⟩ l As (.int .i64 (s.length : Int)) := by
  have := lk_lens (P := P) (l := l) (As := As) (d := d) (oty := oty) (pos := pos) (af := af) (g := g) (t := t) (p := p) (s := strB s) hx
  rwa [strB_size] at this
/-- a byte of a text -/
theorem lk_sidx {t : TypeId} {x y : Operand} {kd : IntKind} {s : List Nat} {i : Nat} [sc : STY P t] (hs : Bys s) (hi : i < s.length) (hx : ∀ j, ev (mk l j) x = .string (strB s) := by intro j; rfl) (hy : ∀ j, ev (mk l j) y = .int kd (i : Int) := by intro j; rfl) :
    LookS P ⟨some d, .index t x y, oty, pos, af, g⟩ l As (.int .u8 ((s.getD i 0 : Nat) : Int)) := .mk fun j _ _ _ => by
  refine qt_exec (s := Instr.index t (ev (mk l j) x) (ev (mk l j) y)) (by unfold execOp; rfl) fun w0 w _ => ?_
  rw [hx j, hy j]
  refine cst_run _ ?_ w
  unfold Instr.index
  rw [cst_bind (show cst P (asIntOf (.int kd i)) = some (kd, (i : Int)) from rfl)]
  dsimp only
  rw [cst_bind sc.h]
  dsimp only
  rw [if_pos (by omega)]
  have hg : s[i]? = some (s.getD i 0) := by rw [List.getElem?_eq_getElem hi, List.getD_eq_getElem?_getD, List.getElem?_eq_getElem hi]; rfl
  have e : (strB s)[(i : Int).toNat]? = some (UInt8.ofNat (s.getD i 0)) := by
    have h1 : (strB s)[(i : Int).toNat]? = (s.map UInt8.ofNat).toArray[i]? := rfl
    rw [h1, List.getElem?_toArray, List.getElem?_map, hg]; rfl
  rw [e]
  dsimp only
  have : (UInt8.ofNat (s.getD i 0)).toNat = s.getD i 0 := by rw [UInt8.toNat_ofNat', Nat.mod_eq_of_lt (hs _ (List.mem_of_getElem? hg))]
  rw [this]; rfl
/-- a part of a text -/
theorem lk_ssl (p q : Nat) {t : TypeId} {x : Operand} {lo hi : Option Operand} {s : List Nat} [sc : STY P t] (hl : p ≤ q) (hh : q ≤ s.length) (hx : ∀ j, ev (mk l j) x = .string (strB s) := by intro j; rfl)
    (hlo : ∀ j, loB (mk l j) lo p := by intro j; first | rfl | exact ⟨_, rfl⟩) (hhi : ∀ j, hiB (mk l j) hi s.length q := by intro j; first | rfl | exact ⟨_, rfl⟩) :
    LookS P ⟨some d, .slice t x lo hi none, oty, pos, af, g⟩ l As (.string (strB ((s.take q).drop p))) := .mk fun j _ _ _ => by
  refine qt_exec (s := Instr.sliceAt t (ev (mk l j) x) (lo.map (ev (mk l j))) (hi.map (ev (mk l j))) none) (by unfold execOp; rfl) fun w0 w _ => ?_
  refine cst_run _ ?_ w
  rw [hx j]
  have hlo := hlo j
  have hhi := hhi j
  unfold Instr.sliceAt
  rw [cst_bind sc.h]
  dsimp only
  have hb : cst P (Instr.sliceBounds false (strB s).size (strB s).size (lo.map (ev (mk l j))) (hi.map (ev (mk l j))) none) = some (p, q, (strB s).size) := by
    rw [strB_size]
    unfold Instr.sliceBounds
    cases lo with
    | none =>
      simp only [loB] at hlo
      subst hlo
      cases hi with
      | none => simp only [hiB] at hhi; subst hhi; rfl
      | some y =>
        obtain ⟨k, hy⟩ := hhi
        simp only [Option.map_none, Option.map_some, pure_bind]
        rw [cst_bind (cst_sliceBound hy hh)]; rfl
    | some z =>
      obtain ⟨k', hz⟩ := hlo
      cases hi with
      | none =>
        simp only [hiB] at hhi
        subst hhi
        simp only [Option.map_none, Option.map_some, pure_bind]
        rw [cst_bind (cst_sliceBound hz hl)]; rfl
      | some y =>
        obtain ⟨k, hy⟩ := hhi
        simp only [Option.map_some, pure_bind]
        rw [cst_bind (cst_sliceBound hy hh), cst_bind (cst_sliceBound hz hl)]; rfl
  unfold Instr.slice
  rw [cst_bind sc.h]
  dsimp only
  simp only [Option.isSome_none, Bool.false_eq_true, if_false]
  rw [cst_bind hb]
  dsimp only
  rw [strB_part s p q hh]
  rfl
theorem lk_seq {t t2 : TypeId} {x y : Operand} {a b : List Nat} (ha : Bys a) (hb : Bys b) (hx : ∀ j, ev (mk l j) x = .string (strB a) := by intro j; rfl) (hy : ∀ j, ev (mk l j) y = .string (strB b) := by intro j; rfl) :
    LookS P ⟨some d, .binOp .eql t x y t2, oty, pos, af, g⟩ l As (.bool (decide (a = b))) := .mk fun j _ _ _ => by
  refine qs_binw rfl (by rw [hx j, hy j]; rfl) fun w => ?_
  rw [hx j, hy j, ← strB_beq ha hb]
  rfl
theorem lk_sne {t t2 : TypeId} {x y : Operand} {a b : List Nat} (ha : Bys a) (hb : Bys b) (hx : ∀ j, ev (mk l j) x = .string (strB a) := by intro j; rfl) (hy : ∀ j, ev (mk l j) y = .string (strB b) := by intro j; rfl) :
    LookS P ⟨some d, .binOp .neq t x y t2, oty, pos, af, g⟩ l As (.bool (!decide (a = b))) := .mk fun j _ _ _ => by
  refine qs_binw rfl (by rw [hx j, hy j]; rfl) fun w => ?_
  rw [hx j, hy j, ← strB_beq ha hb]
  rfl
theorem lk_cat {t t2 : TypeId} {x y : Operand} {a b : List Nat} (hl : a.length + b.length ≤ 9223372036854775807) (hx : ∀ j, ev (mk l j) x = .string (strB a) := by intro j; rfl) (hy : ∀ j, ev (mk l j) y = .string (strB b) := by intro j; rfl) :
    LookS P ⟨some d, .binOp .add t x y t2, oty, pos, af, g⟩ l As (.string (strB (a ++ b))) := .mk fun j _ _ _ => by
  refine qs_binw rfl (by rw [hx j, hy j]; rfl) fun w => ?_
  rw [hx j, hy j, ← strB_app]
  show (Op.stringOp .add (strB a) (strB b)).run P w = _
  unfold Op.stringOp
  dsimp only
  rw [if_neg]
  · rfl
  · rw [strB_size, strB_size]
    show ¬ ((a.length + b.length : Nat) : Int) > 9223372036854775807
    omega
/-- the lower half of a byte -/
theorem lk_and15 {t t2 : TypeId} {x y : Operand} {a : Nat} (ha : a < 256) (hx : ∀ j, ev (mk l j) x = .int .u8 (a : Int) := by intro j; rfl) (hy : ∀ j, ev (mk l j) y = .int .u8 15 := by intro j; rfl) :
    LookS P ⟨some d, .binOp .and t x y t2, oty, pos, af, g⟩ l As (.int .u8 ((a % 16 : Nat) : Int)) := .mk fun j _ _ _ => by
  refine qs_binw rfl (by rw [hx j, hy j]; rfl) fun w => ?_
  rw [hx j, hy j]
  have e : IntKind.u8.wrap (((BitVec.ofInt IntKind.u8.bits (a : Int) &&& BitVec.ofInt IntKind.u8.bits 15).toNat : Nat) : Int) = ((a % 16 : Nat) : Int) := by
    have h1 : (BitVec.ofInt IntKind.u8.bits (a : Int)).toNat = a := by
      rw [BitVec.toNat_ofInt]; show ((a : Int) % 256).toNat = a; omega
    have h2 : (BitVec.ofInt IntKind.u8.bits 15).toNat = 15 := by decide
    rw [BitVec.toNat_and, h1, h2, show (15 : Nat) = 2 ^ 4 - 1 from rfl, Nat.and_two_pow_sub_one_eq_mod, wrap_u8, Nat.mod_eq_of_lt (by omega)]
  show (Op.intBits .and .u8 (a : Int) 15).run P w = _
  rw [← e]; rfl
theorem lk_usd {t : TypeId} {x : Operand} {X v : Value} (hv : ∀ w, (Builtin.unsafeSliceData_ #[t] oty #[X]).run P w = .ok v w) (hx : ∀ j, ev (mk l j) x = X := by intro j; rfl) :
    LookS P ⟨some d, .call ⟨.builtin .unsafeSliceData, #[x], #[t]⟩, oty, pos, af, g⟩ l As v := .mk fun j _ _ _ => by
  refine qt_exec (s := Builtin.unsafeSliceData_ #[t] oty #[ev (mk l j) x]) ?_ fun w0 w _ => by rw [hx j]; exact hv w
  show (resolve (ev (mk l j)) ⟨.builtin .unsafeSliceData, #[x], #[t]⟩ oty >>= fun d => invoke d.target d.args) = _
  have : #[x].map (ev (mk l j)) = #[ev (mk l j) x] := by simp
  unfold resolve
  dsimp only
  rw [this]; rfl
theorem lk_usn {t t2 : TypeId} {x y : Operand} {a : Option Addr} (hx : ∀ j, ev (mk l j) x = .pointer a := by intro j; rfl) (hy : ∀ j, ev (mk l j) y = .int .i64 0 := by intro j; rfl) :
    LookS P ⟨some d, .call ⟨.builtin .unsafeString, #[x, y], #[t, t2]⟩, oty, pos, af, g⟩ l As (.string (strB [])) := .mk fun j _ _ _ => by
  refine qt_exec (s := Builtin.unsafeString_ #[t, t2] oty #[ev (mk l j) x, ev (mk l j) y]) ?_ fun w0 w _ => by rw [hx j, hy j]; exact Lib.run_unsafeString_none w t t2 oty a
  show (resolve (ev (mk l j)) ⟨.builtin .unsafeString, #[x, y], #[t, t2]⟩ oty >>= fun d => invoke d.target d.args) = _
  have : #[x, y].map (ev (mk l j)) = #[ev (mk l j) x, ev (mk l j) y] := by simp
  unfold resolve
  dsimp only
  rw [this]; rfl
/-- a function that the model carries out in place -/
theorem lk_ext {q : FuncId} {fn : Func} {E : Array Value → Sem Value} {as : List Operand} {tys : Array TypeId} {args : List Value} {v : Value} (hf : P.funcs[q]? = some fn) (hname : (fn.name == "runtime.NumGoroutine") = false) (hb : fn.body.isNone = true) (hn : Extern.findNext fn = none) (he : Extern.find fn = some E)
    (hv : ∀ w, (E args.toArray).run P w = .ok v w) (ha : ∀ j, as.map (ev (mk l j)) = args := by intro j; rfl) :
    LookS P ⟨some d, .call ⟨.value (.func q), as.toArray, tys⟩, oty, pos, af, g⟩ l As v := .mk fun j H M _ => by
  intro w0 w hh
  have e1 : execOp (ev (mk l j)) ⟨some d, .call ⟨.value (.func q), as.toArray, tys⟩, oty, pos, af, g⟩ = callFunc q args.toArray := by
    show (resolve (ev (mk l j)) ⟨.value (.func q), as.toArray, tys⟩ oty >>= fun d => invoke d.target d.args) = _
    have : as.toArray.map (ev (mk l j)) = args.toArray := by rw [← ha j]; simp
    unfold resolve
    dsimp only
    rw [this]
    show callFunc q (#[] ++ args.toArray) = _
    simp
  rw [e1, run_callFunc_extern hf hname hb hn he, hv w]
  rfl
end
theorem gs_ {A B : Prop} (a : A) (h : Hid A → B := by
    intro a_go
    repeat (first
      | refine s_nrm ?_ | refine s_true ?_ | refine s_false ?_ | refine s_seq ?_ | refine s_region ?_ | refine s_nil ?_ | refine s_skip ?_ | refine s_block ?_ | refine s_inBlock ?_ | refine s_exit ?_
      | refine s_look lk_zfa ?_ | refine s_look lk_faz ?_ | refine s_look lk_fa ?_ | refine s_look lk_fae ?_
      | refine s_look lk_ldA ?_ | refine s_look lk_ld ?_ | refine s_look lk_ldW ?_ | refine s_look lk_ldP ?_ | refine s_look lk_ldeA ?_ | refine s_look lk_lde ?_ | refine s_look lk_ldeN ?_
      | refine s_look lk_fldA ?_ | refine s_look lk_fld ?_ | refine s_look lk_fldN ?_
      | refine s_look lk_len ?_ | refine s_look lk_lenB ?_ | refine s_look (lk_seq (by assumption) (by assumption)) ?_ | refine s_look (lk_sne (by assumption) (by assumption)) ?_
      | refine s_look lk_bd0 ?_ | refine s_look lk_bd1 ?_ | refine s_look lk_bd2 ?_ | refine s_look lk_bd3 ?_ | refine s_look lk_bd4 ?_ | refine s_look lk_bd5 ?_ | refine s_look lk_bd6 ?_ | refine s_look lk_bd7 ?_ | refine s_look lk_bd8 ?_
      | refine s_look lk_inc ?_ | refine s_look lk_add ?_ | refine s_look lk_sub ?_
      | refine s_look lk_zix ?_ | refine s_look lk_ix ?_ | refine s_look lk_ixs ?_ | refine s_look lk_ixa ?_ | refine s_look lk_ixaN ?_ | refine s_look (lk_sidx (by assumption) (by assumption)) ?_
      | refine s_st ?_
      | refine s_no ?_ | refine s_p ?_ | refine s_y ?_)
    exact Hid.out a_go) : B := h ⟨a⟩
end Go.Cam
/- Texts, once more: what is looked for is told first. -/
namespace Go.Cam
section
variable {P : Program} {l : List (Nat × Value)} {As Bs : List HP} {d : Nat} {oty : TypeId} {pos : String} {af : Array Edge} {g : Option (Nat × Bool)}
theorem lk_sidx2 {t : TypeId} {x y : Operand} {kd : IntKind} {s : List Nat} {i : Nat} [sc : STY P t] (hx : ∀ j, ev (mk l j) x = .string (strB s) := by intro j; rfl) (hy : ∀ j, ev (mk l j) y = .int kd (i : Int) := by intro j; rfl) (hs : Bys s := by assumption) (hi : i < s.length := by assumption) :
    LookS P ⟨some d, .index t x y, oty, pos, af, g⟩ l As (.int .u8 ((s.getD i 0 : Nat) : Int)) := lk_sidx hs hi hx hy
theorem lk_seq2 {t t2 : TypeId} {x y : Operand} {a b : List Nat} (hx : ∀ j, ev (mk l j) x = .string (strB a) := by intro j; rfl) (hy : ∀ j, ev (mk l j) y = .string (strB b) := by intro j; rfl) (ha : Bys a := by assumption) (hb : Bys b := by assumption) :
    LookS P ⟨some d, .binOp .eql t x y t2, oty, pos, af, g⟩ l As (.bool (decide (a = b))) := lk_seq ha hb hx hy
theorem lk_sne2 {t t2 : TypeId} {x y : Operand} {a b : List Nat} (hx : ∀ j, ev (mk l j) x = .string (strB a) := by intro j; rfl) (hy : ∀ j, ev (mk l j) y = .string (strB b) := by intro j; rfl) (ha : Bys a := by assumption) (hb : Bys b := by assumption) :
    LookS P ⟨some d, .binOp .neq t x y t2, oty, pos, af, g⟩ l As (.bool (!decide (a = b))) := lk_sne ha hb hx hy
theorem lk_cat2 {t t2 : TypeId} {x y : Operand} {a b : List Nat} (hx : ∀ j, ev (mk l j) x = .string (strB a) := by intro j; rfl) (hy : ∀ j, ev (mk l j) y = .string (strB b) := by intro j; rfl) (hl : a.length + b.length ≤ 9223372036854775807 := by omega) :
    LookS P ⟨some d, .binOp .add t x y t2, oty, pos, af, g⟩ l As (.string (strB (a ++ b))) := lk_cat hl hx hy
end
theorem gt_ {A B : Prop} (a : A) (h : Hid A → B := by
    intro a_go
    repeat (first
      | refine s_nrm ?_ | refine s_true ?_ | refine s_false ?_ | refine s_seq ?_ | refine s_region ?_ | refine s_nil ?_ | refine s_skip ?_ | refine s_block ?_ | refine s_inBlock ?_ | refine s_exit ?_
      | refine s_look lk_zfa ?_ | refine s_look lk_faz ?_ | refine s_look lk_fa ?_ | refine s_look lk_fae ?_
      | refine s_look lk_ldA ?_ | refine s_look lk_ld ?_ | refine s_look lk_ldW ?_ | refine s_look lk_ldP ?_ | refine s_look lk_ldeA ?_ | refine s_look lk_lde ?_ | refine s_look lk_ldeN ?_
      | refine s_look lk_fldA ?_ | refine s_look lk_fld ?_ | refine s_look lk_fldN ?_
      | refine s_look lk_len ?_ | refine s_look lk_lenB ?_ | refine s_look lk_seq2 ?_ | refine s_look lk_sne2 ?_ | refine s_look lk_cat2 ?_
      | refine s_look lk_bd0 ?_ | refine s_look lk_bd1 ?_ | refine s_look lk_bd2 ?_ | refine s_look lk_bd3 ?_ | refine s_look lk_bd4 ?_ | refine s_look lk_bd5 ?_ | refine s_look lk_bd6 ?_ | refine s_look lk_bd7 ?_ | refine s_look lk_bd8 ?_
      | refine s_look lk_inc ?_ | refine s_look lk_add ?_ | refine s_look lk_sub ?_
      | refine s_look lk_zix ?_ | refine s_look lk_ix ?_ | refine s_look lk_ixs ?_ | refine s_look lk_ixa ?_ | refine s_look lk_ixaN ?_ | refine s_look lk_sidx2 ?_
      | refine s_st ?_
      | refine s_no ?_ | refine s_p ?_ | refine s_y ?_)
    exact Hid.out a_go) : B := h ⟨a⟩
theorem dt_ {A B : Prop} (a : A) (h : Hid A → B := by
    intro a_go
    repeat (first
      | refine d_nrm ?_ | refine d_look rfl lk_zfa ?_ | refine d_look rfl lk_faz ?_ | refine d_look rfl lk_fa ?_ | refine d_look rfl lk_fae ?_
      | refine d_look rfl lk_ldA ?_ | refine d_look rfl lk_ld ?_ | refine d_look rfl lk_ldW ?_ | refine d_look rfl lk_ldP ?_ | refine d_look rfl lk_ldeA ?_ | refine d_look rfl lk_lde ?_ | refine d_look rfl lk_ldeN ?_
      | refine d_look rfl lk_fldA ?_ | refine d_look rfl lk_fld ?_ | refine d_look rfl lk_fldN ?_
      | refine d_look rfl lk_len ?_ | refine d_look rfl lk_lenB ?_ | refine d_look rfl lk_seq2 ?_ | refine d_look rfl lk_sne2 ?_ | refine d_look rfl lk_cat2 ?_
      | refine d_look rfl lk_bd0 ?_ | refine d_look rfl lk_bd1 ?_ | refine d_look rfl lk_bd2 ?_ | refine d_look rfl lk_bd3 ?_ | refine d_look rfl lk_bd4 ?_ | refine d_look rfl lk_bd5 ?_ | refine d_look rfl lk_bd6 ?_ | refine d_look rfl lk_bd7 ?_ | refine d_look rfl lk_bd8 ?_
      | refine d_look rfl lk_inc ?_ | refine d_look rfl lk_add ?_ | refine d_look rfl lk_sub ?_
      | refine d_look rfl lk_zix ?_ | refine d_look rfl lk_ix ?_ | refine d_look rfl lk_ixs ?_ | refine d_look rfl lk_ixa ?_ | refine d_look rfl lk_ixaN ?_ | refine d_look rfl lk_sidx2 ?_
      | refine d_look rfl lk_p ?_ | refine d_no rfl ?_ | refine d_nil ?_)
    exact Hid.out a_go) : B := h ⟨a⟩
end Go.Cam
/- A part of an array, with its room. -/
namespace Go.Cam
section
variable {P : Program} {l : List (Nat × Value)} {As : List HP} {d : Nat} {oty : TypeId} {pos : String} {af : Array Edge} {g : Option (Nat × Bool)}
/-- x[:q:q] of an array -/
theorem lk_slcm (q : Nat) {t : TypeId} {x hi mx : Operand} {b m el sz : Nat} [hu : AR P t m el] [hs : SZ P el sz] (h0 : 0 < q) (hh : q ≤ m) (hx : ∀ j, ev (mk l j) x = .pointer (some ⟨b, 0, none⟩) := by intro j; rfl)
    (hhi : ∀ j, ∃ k, ev (mk l j) hi = .int k (q : Int) := by intro j; exact ⟨_, rfl⟩) (hmx : ∀ j, ∃ k, ev (mk l j) mx = .int k (q : Int) := by intro j; exact ⟨_, rfl⟩) :
    LookS P ⟨some d, .slice t x none (some hi) (some mx), oty, pos, af, g⟩ l As (.slice (some ⟨b, 0, none⟩) q q) := .mk fun j _ _ _ => by
  refine qt_exec (s := Instr.sliceAt t (ev (mk l j) x) none (some (ev (mk l j) hi)) (some (ev (mk l j) mx))) (by unfold execOp; rfl) fun w0 w _ => ?_
  refine cst_run _ ?_ w
  rw [hx j]
  obtain ⟨k1, h1⟩ := hhi j
  obtain ⟨k2, h2⟩ := hmx j
  unfold Instr.sliceAt
  rw [cst_bind hu.h]
  dsimp only
  rw [cst_bind (show cst P (Instr.sureAddr (.pointer (some ⟨b, 0, none⟩))) = some ⟨b, 0, none⟩ from rfl)]
  have hb : cst P (Instr.sliceBounds false m m none (some (ev (mk l j) hi)) (some (ev (mk l j) mx))) = some (0, q, q) := by
    unfold Instr.sliceBounds
    dsimp only
    rw [cst_bind (cst_sliceBound h2 hh)]
    rw [cst_bind (cst_sliceBound h1 (Nat.le_refl q))]
    rfl
  rw [cst_bind hb]
  dsimp only
  rw [cst_bind hs.h]
  simp only [if_neg (show ¬ q = 0 by omega), addr_add, Nat.zero_mul]; rfl
/-- an element of an array of texts -/
theorem lk_ldx {t : TypeId} {x : Operand} {b off ty : Nat} {c : List Value} {v : Value} {Bs : List HP} [hag : AG P t false] (s : Sel (Box b ty c) As Bs) (hv : c[off]? = some v) (hx : ∀ j, ev (mk l j) x = .pointer (some ⟨b, off, none⟩) := by intro j; rfl) :
    LookS P ⟨some d, .load t x, oty, pos, af, g⟩ l As v := lk_ld hx s (by rw [List.getElem?_toArray]; exact hv)
/-- a slice is copied to the head of an array -/
theorem st_cpX {dd : Option Nat} {t t2 el m c n' c' b ty : Nat} {x y : Operand} {u : Option Addr} {cs : List Value} {row : Nat → List Value} {As' : List HP} [sc : SC P t el] [hs : SZ P el 1] (hm : m ≤ n') (hl : n' ≤ cs.length)
    (up : Upd (Box b ty cs) (Box b ty (flat m row ++ cs.drop m)) As As') (hr : SelR As 1 (.slice u m c) m row) (h1 : (flat m row).all one = true)
    (hx : ∀ j, ev (mk l j) x = .slice (some ⟨b, 0, none⟩) n' c' := by intro j; rfl) (hy : ∀ j, ev (mk l j) y = .slice u m c := by intro j; rfl) :
    StepL P ⟨dd, .call ⟨.builtin .copy, #[x, y], #[t, t2]⟩, oty, pos, af, g⟩ l As (fun v Cs => v = .int .i64 (m : Nat) ∧ Cs = As') := .mk fun j Fs H M q => by
  rw [execOp_copy, hx j, hy j]
  obtain ⟨Cs, s1, s2⟩ := (up.app Fs).sels
  obtain ⟨hb, hq⟩ := own_write (o' := .cells (flat m row ++ cs.drop m).toArray ty (0, 0)) (s1.sat q)
  have hrr := (hr.app Fs).rd q
  have hrl : ∀ i, i < m → (row i).length = 1 := by obtain ⟨_, _, _, _, h, _⟩ := hrr; exact h
  have hfl := flat_len hrl
  refine hmc_of_hm (hm_bind (hm_copy (n' := n') (c' := c') (off := 0) hb hrr h1 (by simp; omega) (hm_pure ⟨_, .inl rfl, _, ⟨by rw [Nat.min_eq_left hm], rfl⟩, ?_⟩)))
  rw [Nat.min_eq_left hm, setL_list _ _ _ (by rw [hfl]; omega)]
  rw [hfl]
  simp only [List.take_zero, List.nil_append, Nat.zero_add, Nat.mul_one]
  exact s2.back hq
end
end Go.Cam
/- The plain law of quoting: what is read is just what would be written. -/
namespace Go.Proofs.YtmlddafbenfilaaDoor
open Go.Cam
set_option maxRecDepth 100000
/-- a byte that stands for itself -/
def itselfN (c : Nat) : Bool := decide (97 ≤ c ∧ c ≤ 122) || decide (65 ≤ c ∧ c ≤ 90) || decide (48 ≤ c ∧ c ≤ 57) || decide (c = 47 ∨ c = 46 ∨ c = 45 ∨ c = 95)
def hexN (d : Nat) : Nat := if d < 10 then 48 + d else 87 + d
/-- what a digit to the base 16 is -/
def hexI (c : Nat) : Option Nat := if 48 ≤ c ∧ c ≤ 57 then some (c - 48) else if 97 ≤ c ∧ c ≤ 102 then some (c - 87) else none
def q1 (c : Nat) : List Nat := if itselfN c then [c] else [37, hexN (c / 16), hexN (c % 16)]
def qB (b : List Nat) : List Nat := b.flatMap q1
def quoteN (b : List Nat) : List Nat := 34 :: (qB b ++ [34])
/-- what the program reads between the quotes -/
def unP : List Nat → Option (List Nat)
  | [] => some []
  | c :: r => if itselfN c then (unP r).map (c :: ·) else if c ≠ 37 then none else
    match r with
    | h :: l :: r' => match hexI h, hexI l with
      | some a, some b => if itselfN (16 * a + b) then none else (unP r').map ((16 * a + b) :: ·)
      | _, _ => none
    | _ => none
/-- what the document reads there -/
def decR : List Nat → List Nat
  | [] => []
  | c :: r => if c = 37 then
      match r with
      | h :: l :: r' => (16 * (hexI h).getD 0 + (hexI l).getD 0) % 256 :: decR r'
      | [x] => [c, x]
      | [] => [c]
    else c :: decR r
theorem unP_cons (c : Nat) (r : List Nat) : unP (c :: r) = if itselfN c then (unP r).map (c :: ·) else if c ≠ 37 then none else
    match r with
    | h :: l :: r' => match hexI h, hexI l with
      | some a, some b => if itselfN (16 * a + b) then none else (unP r').map ((16 * a + b) :: ·)
      | _, _ => none
    | _ => none := by rw [unP.eq_def]
theorem decR_cons (c : Nat) (r : List Nat) : decR (c :: r) = if c = 37 then
      match r with
      | h :: l :: r' => (16 * (hexI h).getD 0 + (hexI l).getD 0) % 256 :: decR r'
      | [x] => [c, x]
      | [] => [c]
    else c :: decR r := by rw [decR.eq_def]
theorem hexI_lt {c a : Nat} (h : hexI c = some a) : a < 16 := by
  unfold hexI at h
  split at h
  · cases h; omega
  · split at h
    · cases h; omega
    · cases h
theorem hexI_N {c a : Nat} (h : hexI c = some a) : hexN a = c := by
  unfold hexI at h
  unfold hexN
  split at h
  · cases h; rw [if_pos (by omega)]; omega
  · split at h
    · cases h; rw [if_neg (by omega)]; omega
    · cases h
theorem hexN_I {d : Nat} (h : d < 16) : hexI (hexN d) = some d := by
  unfold hexN hexI
  split
  · rw [if_pos (by omega)]; congr 1; omega
  · rw [if_neg (by omega), if_pos (by omega)]; congr 1; omega
theorem not37 : itselfN 37 = false := by decide
theorem unP_qB : ∀ (o : List Nat), Bys o → unP (qB o) = some o
  | [], _ => rfl
  | c :: o, hb => by
    have ih := unP_qB o fun x hx => hb x (List.mem_cons_of_mem _ hx)
    have hc := hb c (List.mem_cons_self ..)
    show unP (q1 c ++ qB o) = _
    unfold q1
    cases hi : itselfN c with
    | true =>
      rw [if_pos rfl]
      show unP (c :: qB o) = _
      rw [unP_cons, if_pos hi, ih]; rfl
    | false =>
      rw [if_neg (by decide)]
      show unP (37 :: hexN (c / 16) :: hexN (c % 16) :: qB o) = _
      rw [unP_cons, if_neg (by rw [not37]; decide), if_neg (by simp)]
      dsimp only
      rw [hexN_I (by omega), hexN_I (by omega)]
      dsimp only
      rw [show 16 * (c / 16) + c % 16 = c by omega, hi, if_neg (by decide), ih]; rfl
theorem unP_spec : ∀ (n : Nat) (x o : List Nat), x.length ≤ n → unP x = some o → Bys x → qB o = x ∧ decR x = o ∧ Bys o
  | _, [], o, _, h, _ => by
    rw [unP] at h; cases h
    exact ⟨rfl, rfl, fun x hx => nomatch hx⟩
  | 0, c :: r, _, hl, _, _ => by rw [List.length_cons] at hl; omega
  | n + 1, c :: r, o, hl, h, hb => by
    rw [List.length_cons] at hl
    have hbr : Bys r := fun x hx => hb x (List.mem_cons_of_mem _ hx)
    rw [unP_cons] at h
    split at h
    · rename_i hi
      cases hu : unP r with
      | none => rw [hu] at h; cases h
      | some o' =>
        rw [hu] at h; cases h
        obtain ⟨h1, h2, h3⟩ := unP_spec n r o' (by omega) hu hbr
        have hc37 : c ≠ 37 := fun e => by rw [e, not37] at hi; cases hi
        refine ⟨?_, ?_, fun x hx => ?_⟩
        · show q1 c ++ qB o' = _
          unfold q1; rw [if_pos hi, h1]; rfl
        · rw [decR_cons, if_neg hc37, h2]
        · rcases List.mem_cons.1 hx with rfl | hx
          · exact hb _ (List.mem_cons_self ..)
          · exact h3 x hx
    · split at h
      · cases h
      · rename_i hi hc
        have hc : c = 37 := Classical.byContradiction hc
        subst hc
        match r, hl, hbr, h with
        | [], _, _, h => cases h
        | [_], _, _, h => cases h
        | p :: l :: r', hl, hbr, h =>
          dsimp only at h
          cases hp : hexI p with
          | none => rw [hp] at h; cases h
          | some a =>
            cases hq : hexI l with
            | none => rw [hp, hq] at h; cases h
            | some b =>
              rw [hp, hq] at h
              dsimp only at h
              split at h
              · cases h
              · rename_i hv
                have ha := hexI_lt hp
                have hbl := hexI_lt hq
                cases hu : unP r' with
                | none => rw [hu] at h; cases h
                | some o' =>
                  rw [hu] at h; cases h
                  rw [List.length_cons, List.length_cons] at hl
                  obtain ⟨h1, h2, h3⟩ := unP_spec n r' o' (by omega) hu fun x hx => hbr x (List.mem_cons_of_mem _ (List.mem_cons_of_mem _ hx))
                  refine ⟨?_, ?_, fun x hx => ?_⟩
                  · show q1 (16 * a + b) ++ qB o' = _
                    unfold q1
                    rw [if_neg hv, show (16 * a + b) / 16 = a by omega, show (16 * a + b) % 16 = b by omega, hexI_N hp, hexI_N hq, h1]; rfl
                  · rw [decR_cons, if_pos rfl]
                    dsimp only
                    rw [hp, hq, h2]
                    show (16 * a + b) % 256 :: o' = _
                    rw [Nat.mod_eq_of_lt (by omega)]
                  · rcases List.mem_cons.1 hx with rfl | hx
                    · omega
                    · exact h3 x hx
/-- both readings of a text -/
def unquoteP (s : List Nat) : Option (List Nat) := if s.length < 2 ∨ s.head? ≠ some 34 ∨ s.getLast? ≠ some 34 then none else unP ((s.drop 1).dropLast)
def unquoteR (s : List Nat) : Option (List Nat) := if s.length < 2 then none else if quoteN (decR ((s.drop 1).dropLast)) = s then some (decR ((s.drop 1).dropLast)) else none
theorem decR_bys : ∀ (n : Nat) (x : List Nat), x.length ≤ n → Bys x → Bys (decR x)
  | _, [], _, _ => fun x hx => nomatch hx
  | 0, c :: r, hl, _ => by rw [List.length_cons] at hl; omega
  | n + 1, c :: r, hl, hb => by
    rw [List.length_cons] at hl
    have hbr : Bys r := fun x hx => hb x (List.mem_cons_of_mem _ hx)
    rw [decR_cons]
    split
    · match r, hl, hbr with
      | [], _, _ => exact hb
      | [_], _, _ => exact hb
      | p :: l :: r', hl, hbr =>
        rw [List.length_cons, List.length_cons] at hl
        have ih := decR_bys n r' (by omega) fun x hx => hbr x (List.mem_cons_of_mem _ (List.mem_cons_of_mem _ hx))
        intro x hx
        rcases List.mem_cons.1 hx with rfl | hx
        · exact Nat.mod_lt _ (by decide)
        · exact ih x hx
    · have ih := decR_bys n r (by omega) hbr
      intro x hx
      rcases List.mem_cons.1 hx with rfl | hx
      · exact hb _ (List.mem_cons_self ..)
      · exact ih x hx
theorem unquote_same (s : List Nat) (hb : Bys s) : unquoteP s = unquoteR s := by
  unfold unquoteP unquoteR
  by_cases hl : s.length < 2
  · rw [if_pos (.inl hl), if_pos hl]
  · rw [if_neg hl]
    match s, hl, hb with
    | a :: t, hl, hb =>
      have hl : ¬ t.length + 1 < 2 := hl
      have htn : t ≠ [] := fun e => by rw [e] at hl; simp at hl
      have et : t = t.dropLast ++ [t.getLast htn] := (List.dropLast_concat_getLast htn).symm
      generalize hx : t.dropLast = x at *
      generalize hz : t.getLast htn = z at *
      subst et
      have hbx : Bys x := fun c hc => hb c (List.mem_cons_of_mem _ (List.mem_append_left _ hc))
      rw [show ((a :: (x ++ [z])).drop 1).dropLast = x by simp]
      have hq : quoteN (decR x) = a :: (x ++ [z]) ↔ a = 34 ∧ z = 34 ∧ qB (decR x) = x := by
        unfold quoteN
        constructor
        · intro h
          obtain ⟨h1, h2⟩ := List.cons.inj h
          obtain ⟨h3, h4⟩ := List.append_inj' h2 rfl
          exact ⟨h1.symm, (List.cons.inj h4).1.symm, h3⟩
        · rintro ⟨rfl, rfl, h⟩; rw [h]
      by_cases hc : a = 34 ∧ z = 34
      · obtain ⟨rfl, rfl⟩ := hc
        rw [if_neg (by
          rintro (h | h | h)
          · rw [List.length_cons, List.length_append, List.length_singleton] at h; omega
          · exact h rfl
          · exact h (by simp [List.getLast?_cons, List.getLast?_append]))]
        cases hu : unP x with
        | some o =>
          obtain ⟨h1, h2, _⟩ := unP_spec x.length x o (Nat.le_refl _) hu hbx
          rw [if_pos (hq.2 ⟨rfl, rfl, by rw [h2]; exact h1⟩), h2]
        | none =>
          rw [if_neg fun h => ?_]
          have h1 := (hq.1 h).2.2
          have h2 := unP_qB (decR x) (decR_bys x.length x (Nat.le_refl _) hbx)
          rw [h1, hu] at h2; cases h2
      · rw [if_neg fun h => hc ⟨(hq.1 h).1, (hq.1 h).2.1⟩, if_pos]
        by_cases ha : a = 34
        · refine .inr (.inr ?_)
          have : z ≠ 34 := fun e => hc ⟨ha, e⟩
          simp [List.getLast?_append, List.getLast?_cons]
          omega
        · exact .inr (.inl (by simp; exact ha))
end Go.Proofs.YtmlddafbenfilaaDoor
