/- A text is made bytes. -/
import Derived.Test.YtmlddafbenfilaaDoorCamAO
import Derived.Lib.Builder
import Derived.Lib.UnsafeStr
import Derived.Laws.Externs
namespace Go.Cam
section
variable {P : Program} {l : List (Nat × Value)} {As : List HP} {dd : Option Nat} {oty : TypeId} {pos : String} {af : Array Edge} {g : Option (Nat × Bool)}
theorem st_s2b {t t2 e : TypeId} {x : Operand} {s : List Nat} [sc : SC P t e] [sy : STY P t2] [u8 : U8T P e] (hb : Bys s)
    (hx : ∀ j, ev (mk l j) x = .string (strB s) := by intro j; rfl) :
    StepL P ⟨dd, .convert t2 t x, oty, pos, af, g⟩ l As (fun v Bs => ∃ r cs c, v = .slice (some ⟨r, 0, none⟩) s.length c ∧ s.length ≤ c ∧ cs.size = c ∧ cs.toList.take s.length = bcl s ∧ Bs = .own r (.cells cs e (cs.size, cs.size + 1)) :: As) := .mk fun j Fs H M q => by
  refine hmc_of_hm ?_
  show hm P (convert t2 t (ev (mk l j) x) >>= fun v => pure (Next.value v)) H M _
  rw [hx j]
  refine hm_bind ?_
  unfold convert
  refine hm_bind (hm_cst sy.h ?_)
  refine hm_bind (hm_cst sc.h ?_)
  dsimp only
  refine hm_bind (hm_cst u8.h ?_)
  dsimp only
  unfold Conv.stringToBytes
  refine hm_bind (hm_choose fun cap _ hcut => ?_)
  obtain ⟨tt, rfl⟩ := hcut rfl
  have hnc : (strB s).size ≤ (Question.appendCap (strB s).size 0 e).cut tt := by simp [Question.cut]
  generalize (Question.appendCap (strB s).size 0 e).cut tt = nc at hnc
  have hsz : (strB s).size = s.length := by simp [strB, ByteArray.size]
  dsimp only
  generalize hcs : ((strB s).data.map (fun b : UInt8 => Value.int .u8 b.toNat)) ++ Array.replicate (nc - (strB s).size) (Value.int .u8 0) = cs
  have hcsz : cs.size = nc := by
    rw [← hcs, Array.size_append, Array.size_map, Array.size_replicate]
    have : (strB s).data.size = (strB s).size := rfl
    omega
  have hct : cs.toList.take s.length = bcl s := by
    rw [← hcs, Array.toList_append]
    have e1 : ((strB s).data.map (fun b : UInt8 => Value.int .u8 b.toNat)).toList = bcl s := by
      unfold strB bcl
      rw [Array.toList_map, List.map_map]
      refine List.map_congr_left fun b h => ?_
      have := hb b h
      show Value.int .u8 ((UInt8.ofNat b).toNat : Nat) = _
      rw [UInt8.toNat_ofNat', Nat.mod_eq_of_lt this]
    rw [e1, List.take_left' (by simp [bcl])]
  refine hm_bind (hm_newRow fun r hr => ?_)
  have h1 : upd M r (.cells cs e) r = some (.cells cs e (0, 0)) := upd_same _ _ _
  refine hm_bind (fun w0 w hh => ?_)
  have h2 := hh.m r _ h1
  have hsh : w.shape? r = some (e, cs.size) := by unfold World.shape?; rw [h2]
  refine ⟨(), w.freeze ⟨r, cs.size, none⟩ 1, H, upd (upd M r (.cells cs e (0, 0))) r (.cells cs e (cs.size, cs.size + 1)), ?_, ?_, hm_pure (hm_pure ⟨_, .inl rfl, _, ⟨r, cs, nc, by rw [hsz], by omega, hcsz, hct, rfl⟩, ?_⟩)⟩
  · simp [markStringish, hsh]
  · exact hh.modify h1 (fun o => match o with | .cells c elem (lo, hi) => .cells c elem (if lo == hi then (cs.size, cs.size + 1) else (min lo cs.size, max hi (cs.size + 1))) | o => o)
  · have : upd (upd M r (.cells cs e (0, 0))) r (.cells cs e (cs.size, cs.size + 1)) = upd M r (.cells cs e (cs.size, cs.size + 1)) := by
      funext q; unfold upd; split <;> rfl
    rw [this]
    exact own_new hr q
end
end Go.Cam
/- Elements of arrays that lie in a slice; bytes turned. -/
namespace Go.Cam
section
variable {P : Program} {f : FuncId} {n : Nat} {R : Value → HP} {k : List It} {l : List (Nat × Value)} {As Bs : List HP} {all : Array Oper} {rest : List Oper} {d : Nat} {dd : Option Nat} {oty : TypeId} {pos : String} {af : Array Edge} {g : Option (Nat × Bool)}
end
end Go.Cam
/- A key is taken out of a map. -/
namespace Go.Cam
theorem WFM.erase {es : List MapEntry} {ck : Nat} {gm : Int → Option Value} (h : WFM es ck gm) {k : Int} {j : Nat} {e : MapEntry} (hj : es[j]? = some e) (hk : e.key = .int .i64 k) : WFM (es.eraseIdx j) ck (mset gm k none) where
  key x hx := by
    obtain ⟨i, hi, hx2⟩ := List.mem_eraseIdx_iff_getElem?.1 hx
    obtain ⟨k2, h1, h2⟩ := h.key x (List.mem_of_getElem? hx2)
    refine ⟨k2, h1, ?_⟩
    unfold mset
    rw [if_neg]
    · exact h2
    · intro e2
      subst e2
      have hp := h.kd
      rw [List.pairwise_iff_getElem] at hp
      have hil : i < es.length := by rcases Nat.lt_or_ge i es.length with g | g; exact g; rw [List.getElem?_eq_none g] at hx2; cases hx2
      have hjl : j < es.length := by rcases Nat.lt_or_ge j es.length with g | g; exact g; rw [List.getElem?_eq_none g] at hj; cases hj
      have e1 : es[j] = e := by rw [List.getElem?_eq_getElem hjl] at hj; exact Option.some.inj hj
      have e4 : es[i] = x := by rw [List.getElem?_eq_getElem hil] at hx2; exact Option.some.inj hx2
      rcases Nat.lt_or_gt_of_ne hi with hl | hl
      · exact hp i j hil hjl hl (by rw [e1, e4, h1, hk])
      · exact hp j i hjl hil hl (by rw [e1, e4, h1, hk])
  all k2 v2 h2 := by
    unfold mset at h2
    split at h2
    · cases h2
    · rename_i hne
      obtain ⟨e', he', hk2⟩ := h.all _ _ h2
      obtain ⟨i, hi⟩ := List.getElem?_of_mem he'
      refine ⟨e', List.mem_eraseIdx_iff_getElem?.2 ⟨i, fun e2 => ?_, hi⟩, hk2⟩
      subst e2
      rw [hj] at hi; cases hi
      rw [hk] at hk2; cases hk2; exact hne rfl
  kd := h.kd.sublist (List.eraseIdx_sublist ..)
  bd := h.bd.sublist (List.eraseIdx_sublist ..)
  bl x hx := h.bl x (List.mem_of_mem_eraseIdx hx)
section
variable {P : Program} {f : FuncId} {n : Nat} {R : Value → HP} {k : List It} {l : List (Nat × Value)} {As Bs : List HP} {all : Array Oper} {rest : List Oper} {d : Nat} {dd : Option Nat} {oty : TypeId} {pos : String} {af : Array Edge} {g : Option (Nat × Bool)}
end
end Go.Cam
/- Appending a text's bytes; a pointer made raw and back; a row of bytes made a text without a copy. -/
namespace Go.Cam
theorem strB_cells {s : List Nat} (hb : Bys s) : ((strB s).data.map (fun b : UInt8 => Value.int .u8 b.toNat)).toList = bcl s := by
  unfold strB bcl
  rw [Array.toList_map, List.map_map]
  refine List.map_congr_left fun b h => ?_
  have := hb b h
  show Value.int .u8 ((UInt8.ofNat b).toNat : Nat) = _
  rw [UInt8.toNat_ofNat', Nat.mod_eq_of_lt this]
theorem strB_size (s : List Nat) : (strB s).size = s.length := by simp [strB, ByteArray.size]
section
variable {P : Program} {H M : Heap}
/-- append of a text's bytes -/
theorem hm_appS {t t2 e : Nat} {v : Value} {xs : List Value} {y : List Nat} {i : TypeInfo} {z : Value} {K : Value → Heap → Heap → Prop} (hy : Bys y)
    (hu : cst P (underlying t) = some (.slice e)) (hu2 : cst P (underlying t2) = some .string) (hs : cst P (sizeOf e) = some 1) (hi : cst P (typeInfo e) = some i) (hby : i.bytes = 1) (hz : cst P (zeroValue e) = some z) (hzs : z.cells.size = 1)
    (hown : Own M e 1 v xs) (hroom : xs.length + y.length + 512 ≤ 140737488355328)
    (h : ∀ v' M', Own M' e 1 v' (xs ++ bcl y) → App M v M' v' → K v' H M') :
    hm P (Builtin.append_ #[t, t2] t #[v, .string (strB y)]) H M K := by
  have hlen2 : (bcl y).length = y.length := by simp [bcl]
  have hfirst : ∀ (K : Array Value → Heap → Heap → Prop), K (bcl y).toArray H M → hm P (Builtin.firstCells 1 (strB y).size (.string (strB y))) H M K := by
    intro K hk
    refine hm_pure ?_
    have e1 : (((strB y).extract 0 (strB y).size).data.map fun b : UInt8 => Value.int .u8 b.toNat) = (bcl y).toArray := by
      apply Array.ext'
      have : ((strB y).extract 0 (strB y).size) = strB y := by simp
      rw [this, strB_cells hy]
    rw [e1]; exact hk
  obtain ⟨base, len, cap, hv, hlen, hcap, hpart⟩ : ∃ base len cap, v = .slice base len cap ∧ xs.length = len ∧ len ≤ cap ∧
      ((base = none ∧ len = 0 ∧ cap = 0 ∧ xs = []) ∨ ∃ b cs, base = some ⟨b, 0, none⟩ ∧ cs.size = cap ∧ M b = some (.cells cs e (0, 0)) ∧ cs.toList.take xs.length = xs) := by
    rcases hown with ⟨rfl, rfl⟩ | ⟨b, len, cap, cs, rfl, a1, a2, a3, a4, a5⟩
    · exact ⟨none, 0, 0, rfl, by simp, Nat.le_refl _, .inl ⟨rfl, rfl, rfl, rfl⟩⟩
    · exact ⟨_, len, cap, rfl, by omega, a3, .inr ⟨b, cs, rfl, by omega, a4, a5⟩⟩
  subst hv
  rw [hlen] at hroom
  have hsz : (strB y).size = y.length := strB_size y
  unfold Builtin.append_
  simp only [List.getElem?_toArray, List.getElem?_cons_zero, List.getElem?_cons_succ]
  refine hm_bind (hm_cst hu ?_)
  dsimp only
  refine hm_bind (hm_cst hs ?_)
  refine hm_bind (hm_cst hu2 ?_)
  dsimp only
  refine hm_bind (hm_pure ?_)
  simp only [Bool.false_eq_true, if_false, Bool.not_false, if_true]
  refine hm_bind (hm_pure ?_)
  by_cases hfit : len + (strB y).size ≤ cap
  · rw [if_pos hfit]
    refine hm_bind (hfirst _ ?_)
    rcases hpart with ⟨rfl, rfl, rfl, rfl⟩ | ⟨b, cs, rfl, a2, a4, a5⟩
    · have hm0 : y.length = 0 := by omega
      have hy0 : y = [] := List.eq_nil_of_length_eq_zero hm0
      subst hy0
      refine hm_bind (hm_pure (hm_pure (h _ M ?_ ?_)))
      · exact .inl ⟨rfl, rfl⟩
      · exact fun c o _ hc => ⟨hc, by simp [ob]⟩
    · refine hm_bind ?_
      dsimp only
      rw [addr_add]
      refine hm_storeCells a4 (by simp only [Nat.zero_add, hlen2, a2]; omega) (bcl_one y) (hm_pure (h _ _ ?_ ?_))
      · refine .inr ⟨b, len + (strB y).size, cap, _, rfl, by rw [List.length_append, hlen, hlen2]; omega, by rw [setL_size]; omega, hfit, upd_same _ _ _, ?_⟩
        apply List.ext_getElem?
        intro q
        rw [List.getElem?_take]
        have hz2 : ∀ q : Nat, (setL cs (0 + len * 1) (bcl y)).toList[q]? = (setL cs (0 + len * 1) (bcl y))[q]? := fun q => Array.getElem?_toList
        rw [hz2]
        by_cases hq : q < (xs ++ bcl y).length
        · rw [if_pos hq]
          simp only [List.length_append, hlen, hlen2] at hq
          rw [setL_get _ _ _ _ (by rw [a2]; omega)]
          by_cases hq2 : q < len
          · rw [if_neg (by omega), List.getElem?_append_left (by omega)]
            have := congrArg (fun l => l[q]?) a5
            simp only [List.getElem?_take, hlen, hq2, if_true] at this
            simpa using this
          · rw [if_pos (by omega), List.getElem?_append_right (by omega), hlen, Nat.zero_add, Nat.mul_one]
        · rw [if_neg hq, List.getElem?_eq_none (by omega)]
      · intro c' o hc ho
        have hne : c' ≠ b := fun e' => hc (by rw [e']; rfl)
        exact ⟨by rw [upd_ne hne]; exact ho, fun e' => hc e'⟩
  · rw [if_neg hfit]
    refine hm_bind (hm_cst hi ?_)
    rw [if_neg (by simp [hby])]
    refine hm_bind (hm_cst hi ?_)
    have hns := nextslicecap_le (len + (strB y).size) cap (by omega)
    rw [if_neg (by rw [hby]; omega)]
    refine hm_bind (hm_choose fun newCap _ hcut => ?_)
    obtain ⟨tt, rfl⟩ := hcut rfl
    refine hm_bind (hm_cst hi ?_)
    refine hm_bind (hm_askRoom ?_)
    have hnc : len + (strB y).size ≤ (Question.appendCap (len + (strB y).size) cap e).cut tt := by simp [Question.cut]
    generalize (Question.appendCap (len + (strB y).size) cap e).cut tt = nc at hnc
    have hold : ∀ (K : Array Value → Heap → Heap → Prop), K xs.toArray H M → hm P (Builtin.firstCells 1 len (.slice base len cap)) H M K := by
      intro K hk
      rcases hpart with ⟨rfl, rfl, rfl, rfl⟩ | ⟨b, cs, rfl, a2, a4, a5⟩
      · exact hm_pure hk
      · show hm P (loadCells ⟨b, 0, none⟩ (len * 1)) H M K
        refine hm_loadCells (.inl a4) (by omega) ?_
        have : cs.extract 0 (0 + len * 1) = xs.toArray := by
          apply Array.ext'
          rw [Array.toList_extract, List.extract_eq_take_drop]
          simp only [Nat.zero_add, Nat.sub_zero, List.drop_zero, Nat.mul_one]
          rw [← hlen]; exact a5
        rw [this]; exact hk
    refine hm_bind (hold _ ?_)
    refine hm_bind (hfirst _ ?_)
    refine hm_bind (hm_cst hz ?_)
    refine hm_bind (hm_newRow fun r hr => hm_pure (h _ _ ?_ ?_))
    · refine .inr ⟨r, len + (strB y).size, nc, _, rfl, by rw [List.length_append, hlen, hlen2]; omega, ?_, hnc, upd_same _ _ _, ?_⟩
      · have hsz2 : (Builtin.zeroCells z.cells (nc - (len + (strB y).size))).size = (nc - (len + (strB y).size)) * 1 := by simp [Builtin.zeroCells, hzs]
        simp only [Array.size_append, List.size_toArray, hlen, hlen2, hsz2]
        omega
      · simp only [Array.toList_append, List.append_assoc]
        rw [← List.append_assoc]
        exact List.take_left' rfl
    · intro c' o hc ho
      exact ⟨hr.old ho, fun e' => by simp only [ob, Option.some.injEq] at e'; exact hr.ne ho e'.symm⟩
end
theorem execOp_app2 {e : Nat → Value} {dd : Option Nat} {t t2 : TypeId} {p q : Operand} {pos : String} {af : Array Edge} {g : Option (Nat × Bool)} : execOp (ev e) ⟨dd, .call ⟨.builtin .append, #[p, q], #[t, t2]⟩, t, pos, af, g⟩ = (Builtin.append_ #[t, t2] t #[ev e p, ev e q] >>= fun v => pure (Next.value v)) := by
  show (resolve (ev e) ⟨.builtin .append, #[p, q], #[t, t2]⟩ t >>= fun d => invoke d.target d.args) = _
  have : #[p, q].map (ev e) = #[ev e p, ev e q] := by simp
  unfold resolve
  dsimp only
  rw [this]; rfl
theorem byR_own {e : Nat} {v : Value} {n : Nat} {l : List Nat} {M : Heap} (h : Own M e 1 v (bcl l)) (hn : l.length = n) : SlO M e 1 v n (byR l) := by
  subst hn
  refine ⟨fun _ _ => rfl, by rw [flat_byR']; exact bcl_one l, by rw [flat_byR']; exact h, ?_⟩
  rcases h with ⟨rfl, h⟩ | ⟨b, len, cap, cs, rfl, a1, _⟩
  · have : l.length = 0 := by have := congrArg List.length h; simpa [bcl] using this
    rw [this]; exact ⟨_, _, rfl⟩
  · have : l.length = len := by simpa [bcl] using a1
    subst this; exact ⟨_, _, rfl⟩
section
variable {P : Program} {f : FuncId} {n : Nat} {R : Value → HP} {k : List It} {l : List (Nat × Value)} {As Bs : List HP} {all : Array Oper} {rest : List Oper} {d : Nat} {dd : Option Nat} {oty : TypeId} {pos : String} {af : Array Edge} {g : Option (Nat × Bool)}
/-- append(bytes, text...) -/
theorem st_appS {t t2 e : Nat} {p q : Operand} {a : Option Addr} {x y : List Nat} {m cap : Nat} [sl : SL P t e 1 1] [sy : STY P t2] (hy : Bys y) (hm : x.length = m)
    (u : Sel (SA (some e) 1 (.slice a m cap) m (byR x)) As Bs) (hroom : m + y.length + 512 ≤ 140737488355328 := by omega)
    (hp : ∀ j, ev (mk l j) p = .slice a m cap := by intro j; rfl) (hq : ∀ j, ev (mk l j) q = .string (strB y) := by intro j; rfl) :
    StepL P ⟨dd, .call ⟨.builtin .append, #[p, q], #[t, t2]⟩, t, pos, af, g⟩ l As (fun v Cs => ∃ a' cap', v = .slice a' (m + y.length) cap' ∧ Cs = SA (some e) 1 (.slice a' (m + y.length) cap') (m + y.length) (byR (x ++ y)) :: Bs) := .mk fun j Fs H M s => by
  subst hm
  have hs := (u.app Fs).sat s
  obtain ⟨M1, M2, a1, a2, dj, hA, hB⟩ := hs
  rw [execOp_app2, hp j, hq j]
  obtain ⟨i, z, hu, hs1, hi, hby, hb0, hz, hzs, hsz⟩ := sl.h
  refine hmc_of_hm (hm_bind ?_)
  obtain ⟨_, _, hown1, _⟩ := hA
  rw [flat_byR'] at hown1
  have hown := hown1.frame (M' := M) fun c o _ h => a1 c o h
  refine hm_appS hy hu sy.h hs1 hi hby hz hzs hown (by simpa [bcl] using hroom) fun v' M' ho ha => hm_pure ⟨v', .inl rfl, ?_⟩
  have ho2 : Own M' e 1 v' (bcl (x ++ y)) := by unfold bcl at ho ⊢; rw [List.map_append]; exact ho
  have hsl := byR_own ho2 (n := x.length + y.length) (by simp)
  obtain ⟨h7, h8, h9, a', cap', rfl⟩ := hsl
  refine ⟨_, ⟨a', cap', rfl, rfl⟩, fun c => if ob (.slice a' (x.length + y.length) cap') = some c then M' c else none, M2, ?_, ?_, ?_, ⟨h7, h8, h9.frame fun c o hc ho => by rw [if_pos hc]; exact ho, _, _, rfl⟩, hB⟩
  · intro c o hc; dsimp only at hc; split at hc
    · exact hc
    · cases hc
  · intro c o hc
    refine (ha c o (fun e1 => ?_) (a2 c o hc)).1
    rcases hown1 with ⟨h1, _⟩ | ⟨b, _, _, _, h1, _, _, _, h4, _⟩
    · injection h1 with h1 _ _; subst h1; simp [ob] at e1
    · cases h1
      simp only [ob, Option.some.injEq] at e1
      subst e1
      rcases dj _ with h5 | h5
      · rw [h4] at h5; cases h5
      · rw [hc] at h5; cases h5
  · intro c
    dsimp only
    cases hc : M2 c with
    | none => exact .inr rfl
    | some o =>
      refine .inl ?_
      rw [if_neg]
      refine (ha c o (fun e1 => ?_) (a2 c o hc)).2
      rcases hown1 with ⟨h1, _⟩ | ⟨b, _, _, _, h1, _, _, _, h4, _⟩
      · injection h1 with h1 _ _; subst h1; simp [ob] at e1
      · cases h1
        simp only [ob, Option.some.injEq] at e1
        subst e1
        rcases dj _ with h5 | h5
        · rw [h4] at h5; cases h5
        · rw [hc] at h5; cases h5
/-- what is owned and not empty lies in a row of its own -/
theorem SA.some {e : Nat} {v : Value} {x : List Nat} {m : Nat} {H M : Heap} (h : (SA (some e) 1 v m (byR x)).p H M) (hx : x.length = m) (h0 : x ≠ []) : ∃ b c, v = .slice (some ⟨b, 0, none⟩) m (c + 1) := by
  obtain ⟨_, _, h3, a, cap, rfl⟩ := h
  subst hx
  rw [flat_byR'] at h3
  have hl : x.length ≠ 0 := by simpa using h0
  rcases h3 with ⟨h1, h2⟩ | ⟨b, len, c, cs, h1, h2, h3, h4, _⟩
  · have := congrArg List.length h2
    simp [bcl] at this; exact absurd this h0
  · cases h1
    exact ⟨b, cap - 1, by congr 1; omega⟩
/-- a pointer to a row of cells is made raw -/
theorem lk_raw {t t2 u : TypeId} {x : Operand} {b ty : Nat} {cs : List Value} {j0 : TypeInfo} {hu : P.underlying t = Option.some (.pointer u)} {hd : P.underlying t2 = Option.some .unsafePointer} {hi : P.info? u = Option.some j0} {hz : j0.size ≠ 0} (s : Sel (Box b ty cs) As Bs) (hc : 0 < cs.length)
    (hx : ∀ j, ev (mk l j) x = .pointer (Option.some ⟨b, 0, none⟩) := by intro j; rfl) : LookS P ⟨Option.some d, .convert t t2 x, oty, pos, af, g⟩ l As (.pointer (Option.some ⟨b, 0, none⟩)) := .mk fun j H M q => by
  refine qt_exec (s := convert t t2 (ev (mk l j) x)) (by unfold execOp; rfl) fun w0 w hh => ?_
  rw [hx j]
  have hb := hh.m _ _ (s.hold q)
  exact Lib.run_to_unsafe (e := ty) (cells := cs.length) w ⟨b, 0, none⟩ hu hd hi hz (by unfold World.shape?; rw [hb]; simp) hc
theorem lk_unraw {t t2 u : TypeId} {x : Operand} {b ty : Nat} {cs : List Value} {j0 : TypeInfo} {hu : P.underlying t2 = Option.some (.pointer u)} {hd : P.underlying t = Option.some .unsafePointer} {hi : P.info? u = Option.some j0} (s : Sel (Box b ty cs) As Bs) (hl : liesAt P P.depth ty (cs.length / P.cellsOf ty) 0 u 1 = true)
    (hx : ∀ j, ev (mk l j) x = .pointer (Option.some ⟨b, 0, none⟩) := by intro j; rfl) : LookS P ⟨Option.some d, .convert t t2 x, oty, pos, af, g⟩ l As (.pointer (Option.some ⟨b, 0, none⟩)) := .mk fun j H M q => by
  refine qt_exec (s := convert t t2 (ev (mk l j) x)) (by unfold execOp; rfl) fun w0 w hh => ?_
  rw [hx j]
  have hb := hh.m _ _ (s.hold q)
  exact Lib.run_from_unsafe (e := ty) (cells := cs.length) w ⟨b, 0, none⟩ hd hu hi (by unfold World.shape?; rw [hb]; simp) hl
/-- one and the same pointer -/
theorem lk_nep {t t2 u : TypeId} {x y : Operand} {a : Addr} {j0 : TypeInfo} {hu : P.underlying t = Option.some (.pointer u)} {hi : P.info? u = Option.some j0}
    (hx : ∀ j, ev (mk l j) x = .pointer (Option.some a) := by intro j; rfl) (hy : ∀ j, ev (mk l j) y = .pointer (Option.some a) := by intro j; rfl) : LookS P ⟨Option.some d, .binOp .neq t x y t2, oty, pos, af, g⟩ l As (.bool false) := .mk fun j H M q => by
  refine qs_binw rfl (by rw [hx j, hy j]; rfl) fun w => ?_
  rw [hx j, hy j]
  exact Lib.run_neq_ptr_same w a hu hi
/-- a row's head is made a text without a copy; the row is given up -/
theorem st_us {t t2 pt e m c b : Nat} {x y : Operand} {s : List Nat} (hs : Bys s) (hm : s.length = m) (h0 : s ≠ []) (hu : P.underlying pt = Option.some (.pointer e)) (hc : P.cellsOf e = 1) (u : Sel (SA (Option.some e) 1 (.slice (Option.some ⟨b, 0, none⟩) m c) m (byR s)) As Bs) (h63 : m ≤ 9223372036854775807 := by omega)
    (hx : ∀ j, ev (mk l j) x = .pointer (Option.some ⟨b, 0, none⟩) := by intro j; rfl) (hy : ∀ j, ev (mk l j) y = .int .i64 (m : Int) := by intro j; rfl) :
    StepL P ⟨dd, .call ⟨.builtin .unsafeString, #[x, y], #[pt, t]⟩, t2, pos, af, g⟩ l As (fun v Cs => v = .string (strB s) ∧ Cs = Bs) := .mk fun j Fs H M q => by
  subst hm
  have e1 : execOp (ev (mk l j)) ⟨dd, .call ⟨.builtin .unsafeString, #[x, y], #[pt, t]⟩, t2, pos, af, g⟩ = (Builtin.unsafeString_ #[pt, t] t2 #[ev (mk l j) x, ev (mk l j) y] >>= fun v => pure (Next.value v)) := by
    show (resolve (ev (mk l j)) ⟨.builtin .unsafeString, #[x, y], #[pt, t]⟩ t2 >>= fun d => invoke d.target d.args) = _
    have : #[x, y].map (ev (mk l j)) = #[ev (mk l j) x, ev (mk l j) y] := by simp
    unfold resolve
    dsimp only
    rw [this]; rfl
  rw [e1, hx j, hy j]
  have q := (u.app Fs).sat q
  obtain ⟨M1, M2, a1, a2, dj, hA, hB⟩ := q
  obtain ⟨_, _, hown, _⟩ := hA
  rw [flat_byR'] at hown
  have hl : s.length ≠ 0 := by simpa using h0
  rcases hown with ⟨h1, h2⟩ | ⟨b', len, c', cs, h1, h2, h3, h4, h5, h6⟩
  · cases h1
  · cases h1
    have hlen : (s.map UInt8.ofNat).length = s.length := by simp
    have hM : M b = Option.some (.cells cs e (0, 0)) := a1 _ _ h5
    refine hmc_of_hm (hm_bind fun w0 w hh => ?_)
    have hb := hh.m _ _ hM
    have hM2 : M2 b = none := (dj b).resolve_left fun e2 => by rw [e2] at h5; cases h5
    have hrun := Lib.run_unsafeString_row (P := P) w pt t t2 e hu hc b cs.size (by unfold World.shape?; rw [hb]) (s.map UInt8.ofNat) (by simpa using h0) (by rw [hlen]; omega) (by rw [hlen]; omega) (fun jj xx hj => by
      have e4 : ((⟨b, 0, none⟩ : Addr).add jj) = ⟨b, jj, none⟩ := by
        unfold Addr.add; split
        · rename_i e5; subst e5; rfl
        · simp
      rw [e4]
      unfold World.cell?
      rw [hb]
      rw [List.getElem?_map] at hj
      obtain ⟨cc, h7, rfl⟩ := Option.map_eq_some_iff.1 hj
      have h8 := congrArg (fun z => z[jj]?) h6
      simp only [bcl, List.getElem?_take, List.length_map, List.getElem?_map, h7, Option.map_some] at h8
      rw [if_pos (by rcases Nat.lt_or_ge jj s.length with g | g; exact g; rw [List.getElem?_eq_none g] at h7; cases h7)] at h8
      have h9 : cc < 256 := hs cc (List.mem_of_getElem? h7)
      have : ((UInt8.ofNat cc).toNat : Int) = (cc : Int) := by rw [UInt8.toNat_ofNat', Nat.mod_eq_of_lt h9]
      show cs[jj]? = Option.some (Value.int IntKind.u8 ((UInt8.ofNat cc).toNat : Int))
      rw [this]
      simpa using h8)
    rw [hlen] at hrun
    have hstr : (⟨(s.map UInt8.ofNat).toArray⟩ : ByteArray) = strB s := rfl
    rw [hstr] at hrun
    refine ⟨_, w.freeze ⟨b, 0, none⟩ s.length, H, M2, hrun, ?_, hm_pure ⟨_, .inl rfl, _, ⟨rfl, rfl⟩, hB⟩⟩
    have e2 : ∀ b2 o, M2 b2 = Option.some o → (w.freeze ⟨b, 0, none⟩ s.length).heap[b2]? = Option.some o := fun b2 o h => by
      have hne : b2 ≠ b := fun e3 => by rw [e3, hM2] at h; cases h
      have := hh.m _ _ (a2 _ _ h)
      unfold World.freeze
      split
      · exact this
      · simp only [Array.getElem?_modify]; rw [if_neg (fun e3 => hne e3.symm)]; exact this
    have e3 : ∀ b2 o, H b2 = Option.some o → (w.freeze ⟨b, 0, none⟩ s.length).heap[b2]? = Option.some o := fun b2 o h => by
      have hne : b2 ≠ b := fun e3 => by
        subst e3
        have := hh.d _ (by rw [h]; simp : H b2 ≠ none)
        rw [hM] at this; cases this
      have := hh.h _ _ h
      unfold World.freeze
      split
      · exact this
      · simp only [Array.getElem?_modify]; rw [if_neg (fun e3 => hne e3.symm)]; exact this
    have e5 : (w.freeze ⟨b, 0, none⟩ s.length).os = w.os ∧ (w.freeze ⟨b, 0, none⟩ s.length).tape = w.tape ∧ (w.freeze ⟨b, 0, none⟩ s.length).output = w.output ∧ (w.freeze ⟨b, 0, none⟩ s.length).heap.size = w.heap.size := by
      unfold World.freeze; split
      · exact ⟨rfl, rfl, rfl, rfl⟩
      · exact ⟨rfl, rfl, rfl, by simp⟩
    exact ⟨by rw [e5.1]; exact hh.os, by rw [e5.2.1]; exact hh.tape, by rw [e5.2.2.1]; exact hh.output, by rw [e5.2.2.2]; exact hh.size, e3, e2, fun b2 h => by
      have := hh.d _ h
      cases h7 : M2 b2 with
      | none => rfl
      | some o => rw [a2 _ _ h7] at this; cases this⟩
end
end Go.Cam
/- Texts: a byte of one, a part of one, two held against each other, two put together; functions that the model carries out in place. -/
namespace Go.Cam
theorem strB_toList {a : List Nat} (h : Bys a) : (strB a).toList.map UInt8.toNat = a := by
  have : (strB a).toList = a.map UInt8.ofNat := by simp [strB, ByteArray.toList_eq]
  rw [this, List.map_map]
  conv => rhs; rw [← List.map_id a]
  refine List.map_congr_left fun b hb => ?_
  show (UInt8.ofNat b).toNat = b
  rw [UInt8.toNat_ofNat', Nat.mod_eq_of_lt (h b hb)]
theorem strB_beq {a b : List Nat} (ha : Bys a) (hb : Bys b) : ((strB a).toList == (strB b).toList) = decide (a = b) := by
  by_cases e : a = b
  · subst e; simp
  · rw [decide_eq_false e, beq_eq_false_iff_ne]
    intro h
    have := congrArg (List.map UInt8.toNat) h
    rw [strB_toList ha, strB_toList hb] at this
    exact e this
theorem strB_part (s : List Nat) (p q : Nat) (hq : q ≤ s.length) : (strB s).extract p q = strB ((s.take q).drop p) := by
  unfold strB
  apply ByteArray.ext
  rw [ByteArray.data_extract]
  apply Array.ext'
  rw [Array.toList_extract, List.extract_eq_take_drop]
  simp [List.map_take, List.map_drop, List.drop_take]
theorem strB_app (a b : List Nat) : strB a ++ strB b = strB (a ++ b) := by
  unfold strB
  apply ByteArray.ext
  simp
section
variable {P : Program} {f : FuncId} {n : Nat} {R : Value → HP} {k : List It} {l : List (Nat × Value)} {As Bs : List HP} {all : Array Oper} {rest : List Oper} {d : Nat} {dd : Option Nat} {oty : TypeId} {pos : String} {af : Array Edge} {g : Option (Nat × Bool)}
theorem lk_lenB {t : TypeId} {p : Operand} {s : List Nat} [sc : STY P t] (hx : ∀ j, ev (mk l j) p = .string (strB s) := by intro j; rfl) :
    LookS P ⟨some d, .call ⟨.builtin .len, #[p], #[t]⟩, oty, pos, af, g⟩ l As (.int .i64 (s.length : Int)) := by
  have := lk_lens (P := P) (l := l) (As := As) (d := d) (oty := oty) (pos := pos) (af := af) (g := g) (t := t) (p := p) (s := strB s) hx
  rwa [strB_size] at this
/-- a byte of a text -/
theorem lk_sidx {t : TypeId} {x y : Operand} {kd : IntKind} {s : List Nat} {i : Nat} [sc : STY P t] (hs : Bys s) (hi : i < s.length) (hx : ∀ j, ev (mk l j) x = .string (strB s) := by intro j; rfl) (hy : ∀ j, ev (mk l j) y = .int kd (i : Int) := by intro j; rfl) :
    LookS P ⟨some d, .index t x y, oty, pos, af, g⟩ l As (.int .u8 ((s.getD i 0 : Nat) : Int)) := .mk fun j _ _ _ => by
  refine qt_exec (s := Instr.index t (ev (mk l j) x) (ev (mk l j) y)) (by unfold execOp; rfl) fun w0 w _ => ?_
  rw [hx j, hy j]
  refine cst_run _ ?_ w
  unfold Instr.index
  rw [cst_bind (show cst P (asIntOf (.int kd i)) = some (kd, (i : Int)) from rfl)]
  dsimp only
  rw [cst_bind sc.h]
  dsimp only
  rw [if_pos (by omega)]
  have hg : s[i]? = some (s.getD i 0) := by rw [List.getElem?_eq_getElem hi, List.getD_eq_getElem?_getD, List.getElem?_eq_getElem hi]; rfl
  have e : (strB s)[(i : Int).toNat]? = some (UInt8.ofNat (s.getD i 0)) := by
    have h1 : (strB s)[(i : Int).toNat]? = (s.map UInt8.ofNat).toArray[i]? := rfl
    rw [h1, List.getElem?_toArray, List.getElem?_map, hg]; rfl
  rw [e]
  dsimp only
  have : (UInt8.ofNat (s.getD i 0)).toNat = s.getD i 0 := by rw [UInt8.toNat_ofNat', Nat.mod_eq_of_lt (hs _ (List.mem_of_getElem? hg))]
  rw [this]; rfl
/-- a part of a text -/
theorem lk_ssl (p q : Nat) {t : TypeId} {x : Operand} {lo hi : Option Operand} {s : List Nat} [sc : STY P t] (hl : p ≤ q) (hh : q ≤ s.length) (hx : ∀ j, ev (mk l j) x = .string (strB s) := by intro j; rfl)
    (hlo : ∀ j, loB (mk l j) lo p := by intro j; first | rfl | exact ⟨_, rfl⟩) (hhi : ∀ j, hiB (mk l j) hi s.length q := by intro j; first | rfl | exact ⟨_, rfl⟩) :
    LookS P ⟨some d, .slice t x lo hi none, oty, pos, af, g⟩ l As (.string (strB ((s.take q).drop p))) := .mk fun j _ _ _ => by
  refine qt_exec (s := Instr.sliceAt t (ev (mk l j) x) (lo.map (ev (mk l j))) (hi.map (ev (mk l j))) none) (by unfold execOp; rfl) fun w0 w _ => ?_
  refine cst_run _ ?_ w
  rw [hx j]
  have hlo := hlo j
  have hhi := hhi j
  unfold Instr.sliceAt
  rw [cst_bind sc.h]
  dsimp only
  have hb : cst P (Instr.sliceBounds false (strB s).size (strB s).size (lo.map (ev (mk l j))) (hi.map (ev (mk l j))) none) = some (p, q, (strB s).size) := by
    rw [strB_size]
    unfold Instr.sliceBounds
    cases lo with
    | none =>
      simp only [loB] at hlo
      subst hlo
      cases hi with
      | none => simp only [hiB] at hhi; subst hhi; rfl
      | some y =>
        obtain ⟨k, hy⟩ := hhi
        simp only [Option.map_none, Option.map_some, pure_bind]
        rw [cst_bind (cst_sliceBound hy hh)]; rfl
    | some z =>
      obtain ⟨k', hz⟩ := hlo
      cases hi with
      | none =>
        simp only [hiB] at hhi
        subst hhi
        simp only [Option.map_none, Option.map_some, pure_bind]
        rw [cst_bind (cst_sliceBound hz hl)]; rfl
      | some y =>
        obtain ⟨k, hy⟩ := hhi
        simp only [Option.map_some, pure_bind]
        rw [cst_bind (cst_sliceBound hy hh), cst_bind (cst_sliceBound hz hl)]; rfl
  unfold Instr.slice
  rw [cst_bind sc.h]
  dsimp only
  simp only [Option.isSome_none, Bool.false_eq_true, if_false]
  rw [cst_bind hb]
  dsimp only
  rw [strB_part s p q hh]
  rfl
theorem lk_seq {t t2 : TypeId} {x y : Operand} {a b : List Nat} (ha : Bys a) (hb : Bys b) (hx : ∀ j, ev (mk l j) x = .string (strB a) := by intro j; rfl) (hy : ∀ j, ev (mk l j) y = .string (strB b) := by intro j; rfl) :
    LookS P ⟨some d, .binOp .eql t x y t2, oty, pos, af, g⟩ l As (.bool (decide (a = b))) := .mk fun j _ _ _ => by
  refine qs_binw rfl (by rw [hx j, hy j]; rfl) fun w => ?_
  rw [hx j, hy j, ← strB_beq ha hb]
  rfl
theorem lk_sne {t t2 : TypeId} {x y : Operand} {a b : List Nat} (ha : Bys a) (hb : Bys b) (hx : ∀ j, ev (mk l j) x = .string (strB a) := by intro j; rfl) (hy : ∀ j, ev (mk l j) y = .string (strB b) := by intro j; rfl) :
    LookS P ⟨some d, .binOp .neq t x y t2, oty, pos, af, g⟩ l As (.bool (!decide (a = b))) := .mk fun j _ _ _ => by
  refine qs_binw rfl (by rw [hx j, hy j]; rfl) fun w => ?_
  rw [hx j, hy j, ← strB_beq ha hb]
  rfl
theorem lk_cat {t t2 : TypeId} {x y : Operand} {a b : List Nat} (hl : a.length + b.length ≤ 9223372036854775807) (hx : ∀ j, ev (mk l j) x = .string (strB a) := by intro j; rfl) (hy : ∀ j, ev (mk l j) y = .string (strB b) := by intro j; rfl) :
    LookS P ⟨some d, .binOp .add t x y t2, oty, pos, af, g⟩ l As (.string (strB (a ++ b))) := .mk fun j _ _ _ => by
  refine qs_binw rfl (by rw [hx j, hy j]; rfl) fun w => ?_
  rw [hx j, hy j, ← strB_app]
  show (Op.stringOp .add (strB a) (strB b)).run P w = _
  unfold Op.stringOp
  dsimp only
  rw [if_neg]
  · rfl
  · rw [strB_size, strB_size]
    show ¬ ((a.length + b.length : Nat) : Int) > 9223372036854775807
    omega
/-- the lower half of a byte -/
theorem lk_and15 {t t2 : TypeId} {x y : Operand} {a : Nat} (ha : a < 256) (hx : ∀ j, ev (mk l j) x = .int .u8 (a : Int) := by intro j; rfl) (hy : ∀ j, ev (mk l j) y = .int .u8 15 := by intro j; rfl) :
    LookS P ⟨some d, .binOp .and t x y t2, oty, pos, af, g⟩ l As (.int .u8 ((a % 16 : Nat) : Int)) := .mk fun j _ _ _ => by
  refine qs_binw rfl (by rw [hx j, hy j]; rfl) fun w => ?_
  rw [hx j, hy j]
  have e : IntKind.u8.wrap (((BitVec.ofInt IntKind.u8.bits (a : Int) &&& BitVec.ofInt IntKind.u8.bits 15).toNat : Nat) : Int) = ((a % 16 : Nat) : Int) := by
    have h1 : (BitVec.ofInt IntKind.u8.bits (a : Int)).toNat = a := by
      rw [BitVec.toNat_ofInt]; show ((a : Int) % 256).toNat = a; omega
    have h2 : (BitVec.ofInt IntKind.u8.bits 15).toNat = 15 := by decide
    rw [BitVec.toNat_and, h1, h2, show (15 : Nat) = 2 ^ 4 - 1 from rfl, Nat.and_two_pow_sub_one_eq_mod, wrap_u8, Nat.mod_eq_of_lt (by omega)]
  show (Op.intBits .and .u8 (a : Int) 15).run P w = _
  rw [← e]; rfl
theorem lk_usd {t : TypeId} {x : Operand} {X v : Value} (hv : ∀ w, (Builtin.unsafeSliceData_ #[t] oty #[X]).run P w = .ok v w) (hx : ∀ j, ev (mk l j) x = X := by intro j; rfl) :
    LookS P ⟨some d, .call ⟨.builtin .unsafeSliceData, #[x], #[t]⟩, oty, pos, af, g⟩ l As v := .mk fun j _ _ _ => by
  refine qt_exec (s := Builtin.unsafeSliceData_ #[t] oty #[ev (mk l j) x]) ?_ fun w0 w _ => by rw [hx j]; exact hv w
  show (resolve (ev (mk l j)) ⟨.builtin .unsafeSliceData, #[x], #[t]⟩ oty >>= fun d => invoke d.target d.args) = _
  have : #[x].map (ev (mk l j)) = #[ev (mk l j) x] := by simp
  unfold resolve
  dsimp only
  rw [this]; rfl
theorem lk_usn {t t2 : TypeId} {x y : Operand} {a : Option Addr} (hx : ∀ j, ev (mk l j) x = .pointer a := by intro j; rfl) (hy : ∀ j, ev (mk l j) y = .int .i64 0 := by intro j; rfl) :
    LookS P ⟨some d, .call ⟨.builtin .unsafeString, #[x, y], #[t, t2]⟩, oty, pos, af, g⟩ l As (.string (strB [])) := .mk fun j _ _ _ => by
  refine qt_exec (s := Builtin.unsafeString_ #[t, t2] oty #[ev (mk l j) x, ev (mk l j) y]) ?_ fun w0 w _ => by rw [hx j, hy j]; exact Lib.run_unsafeString_none w t t2 oty a
  show (resolve (ev (mk l j)) ⟨.builtin .unsafeString, #[x, y], #[t, t2]⟩ oty >>= fun d => invoke d.target d.args) = _
  have : #[x, y].map (ev (mk l j)) = #[ev (mk l j) x, ev (mk l j) y] := by simp
  unfold resolve
  dsimp only
  rw [this]; rfl
/-- a function that the model carries out in place -/
theorem lk_ext {q : FuncId} {fn : Func} {E : Array Value → Sem Value} {as : List Operand} {tys : Array TypeId} {args : List Value} {v : Value} (hf : P.funcs[q]? = some fn) (hname : (fn.name == "runtime.NumGoroutine") = false) (hb : fn.body.isNone = true) (hn : Extern.findNext fn = none) (he : Extern.find fn = some E)
    (hv : ∀ w, (E args.toArray).run P w = .ok v w) (ha : ∀ j, as.map (ev (mk l j)) = args := by intro j; rfl) :
    LookS P ⟨some d, .call ⟨.value (.func q), as.toArray, tys⟩, oty, pos, af, g⟩ l As v := .mk fun j H M _ => by
  intro w0 w hh
  have e1 : execOp (ev (mk l j)) ⟨some d, .call ⟨.value (.func q), as.toArray, tys⟩, oty, pos, af, g⟩ = callFunc q args.toArray := by
    show (resolve (ev (mk l j)) ⟨.value (.func q), as.toArray, tys⟩ oty >>= fun d => invoke d.target d.args) = _
    have : as.toArray.map (ev (mk l j)) = args.toArray := by rw [← ha j]; simp
    unfold resolve
    dsimp only
    rw [this]
    show callFunc q (#[] ++ args.toArray) = _
    simp
  rw [e1, run_callFunc_extern hf hname hb hn he, hv w]
  rfl
end
theorem gs_ {A B : Prop} (a : A) (h : Hid A → B := by
    intro a_go
    repeat (first
      | refine s_nrm ?_ | refine s_true ?_ | refine s_false ?_ | refine s_seq ?_ | refine s_region ?_ | refine s_nil ?_ | refine s_skip ?_ | refine s_block ?_ | refine s_inBlock ?_ | refine s_exit ?_
      | refine s_look lk_zfa ?_ | refine s_look lk_faz ?_ | refine s_look lk_fa ?_ | refine s_look lk_fae ?_
      | refine s_look lk_ldA ?_ | refine s_look lk_ld ?_ | refine s_look lk_ldW ?_ | refine s_look lk_ldP ?_ | refine s_look lk_ldeA ?_ | refine s_look lk_lde ?_ | refine s_look lk_ldeN ?_
      | refine s_look lk_fldA ?_ | refine s_look lk_fld ?_ | refine s_look lk_fldN ?_
      | refine s_look lk_len ?_ | refine s_look lk_lenB ?_ | refine s_look (lk_seq (by assumption) (by assumption)) ?_ | refine s_look (lk_sne (by assumption) (by assumption)) ?_
      | refine s_look lk_bd0 ?_ | refine s_look lk_bd1 ?_ | refine s_look lk_bd2 ?_ | refine s_look lk_bd3 ?_ | refine s_look lk_bd4 ?_ | refine s_look lk_bd5 ?_ | refine s_look lk_bd6 ?_ | refine s_look lk_bd7 ?_ | refine s_look lk_bd8 ?_
      | refine s_look lk_inc ?_ | refine s_look lk_add ?_ | refine s_look lk_sub ?_
      | refine s_look lk_zix ?_ | refine s_look lk_ix ?_ | refine s_look lk_ixs ?_ | refine s_look lk_ixa ?_ | refine s_look lk_ixaN ?_ | refine s_look (lk_sidx (by assumption) (by assumption)) ?_
      | refine s_st ?_
      | refine s_no ?_ | refine s_p ?_ | refine s_y ?_)
    exact Hid.out a_go) : B := h ⟨a⟩
end Go.Cam
/- Texts, once more: what is looked for is told first. -/
namespace Go.Cam
section
variable {P : Program} {l : List (Nat × Value)} {As Bs : List HP} {d : Nat} {oty : TypeId} {pos : String} {af : Array Edge} {g : Option (Nat × Bool)}
theorem lk_sidx2 {t : TypeId} {x y : Operand} {kd : IntKind} {s : List Nat} {i : Nat} [sc : STY P t] (hx : ∀ j, ev (mk l j) x = .string (strB s) := by intro j; rfl) (hy : ∀ j, ev (mk l j) y = .int kd (i : Int) := by intro j; rfl) (hs : Bys s := by assumption) (hi : i < s.length := by assumption) :
    LookS P ⟨some d, .index t x y, oty, pos, af, g⟩ l As (.int .u8 ((s.getD i 0 : Nat) : Int)) := lk_sidx hs hi hx hy
theorem lk_seq2 {t t2 : TypeId} {x y : Operand} {a b : List Nat} (hx : ∀ j, ev (mk l j) x = .string (strB a) := by intro j; rfl) (hy : ∀ j, ev (mk l j) y = .string (strB b) := by intro j; rfl) (ha : Bys a := by assumption) (hb : Bys b := by assumption) :
    LookS P ⟨some d, .binOp .eql t x y t2, oty, pos, af, g⟩ l As (.bool (decide (a = b))) := lk_seq ha hb hx hy
theorem lk_sne2 {t t2 : TypeId} {x y : Operand} {a b : List Nat} (hx : ∀ j, ev (mk l j) x = .string (strB a) := by intro j; rfl) (hy : ∀ j, ev (mk l j) y = .string (strB b) := by intro j; rfl) (ha : Bys a := by assumption) (hb : Bys b := by assumption) :
    LookS P ⟨some d, .binOp .neq t x y t2, oty, pos, af, g⟩ l As (.bool (!decide (a = b))) := lk_sne ha hb hx hy
theorem lk_cat2 {t t2 : TypeId} {x y : Operand} {a b : List Nat} (hx : ∀ j, ev (mk l j) x = .string (strB a) := by intro j; rfl) (hy : ∀ j, ev (mk l j) y = .string (strB b) := by intro j; rfl) (hl : a.length + b.length ≤ 9223372036854775807 := by omega) :
    LookS P ⟨some d, .binOp .add t x y t2, oty, pos, af, g⟩ l As (.string (strB (a ++ b))) := lk_cat hl hx hy
end
theorem gt_ {A B : Prop} (a : A) (h : Hid A → B := by
    intro a_go
    repeat (first
      | refine s_nrm ?_ | refine s_true ?_ | refine s_false ?_ | refine s_seq ?_ | refine s_region ?_ | refine s_nil ?_ | refine s_skip ?_ | refine s_block ?_ | refine s_inBlock ?_ | refine s_exit ?_
      | refine s_look lk_zfa ?_ | refine s_look lk_faz ?_ | refine s_look lk_fa ?_ | refine s_look lk_fae ?_
      | refine s_look lk_ldA ?_ | refine s_look lk_ld ?_ | refine s_look lk_ldW ?_ | refine s_look lk_ldP ?_ | refine s_look lk_ldeA ?_ | refine s_look lk_lde ?_ | refine s_look lk_ldeN ?_
      | refine s_look lk_fldA ?_ | refine s_look lk_fld ?_ | refine s_look lk_fldN ?_
      | refine s_look lk_len ?_ | refine s_look lk_lenB ?_ | refine s_look lk_seq2 ?_ | refine s_look lk_sne2 ?_ | refine s_look lk_cat2 ?_
      | refine s_look lk_bd0 ?_ | refine s_look lk_bd1 ?_ | refine s_look lk_bd2 ?_ | refine s_look lk_bd3 ?_ | refine s_look lk_bd4 ?_ | refine s_look lk_bd5 ?_ | refine s_look lk_bd6 ?_ | refine s_look lk_bd7 ?_ | refine s_look lk_bd8 ?_
      | refine s_look lk_inc ?_ | refine s_look lk_add ?_ | refine s_look lk_sub ?_
      | refine s_look lk_zix ?_ | refine s_look lk_ix ?_ | refine s_look lk_ixs ?_ | refine s_look lk_ixa ?_ | refine s_look lk_ixaN ?_ | refine s_look lk_sidx2 ?_
      | refine s_st ?_
      | refine s_no ?_ | refine s_p ?_ | refine s_y ?_)
    exact Hid.out a_go) : B := h ⟨a⟩
theorem dt_ {A B : Prop} (a : A) (h : Hid A → B := by
    intro a_go
    repeat (first
      | refine d_nrm ?_ | refine d_look rfl lk_zfa ?_ | refine d_look rfl lk_faz ?_ | refine d_look rfl lk_fa ?_ | refine d_look rfl lk_fae ?_
      | refine d_look rfl lk_ldA ?_ | refine d_look rfl lk_ld ?_ | refine d_look rfl lk_ldW ?_ | refine d_look rfl lk_ldP ?_ | refine d_look rfl lk_ldeA ?_ | refine d_look rfl lk_lde ?_ | refine d_look rfl lk_ldeN ?_
      | refine d_look rfl lk_fldA ?_ | refine d_look rfl lk_fld ?_ | refine d_look rfl lk_fldN ?_
      | refine d_look rfl lk_len ?_ | refine d_look rfl lk_lenB ?_ | refine d_look rfl lk_seq2 ?_ | refine d_look rfl lk_sne2 ?_ | refine d_look rfl lk_cat2 ?_
      | refine d_look rfl lk_bd0 ?_ | refine d_look rfl lk_bd1 ?_ | refine d_look rfl lk_bd2 ?_ | refine d_look rfl lk_bd3 ?_ | refine d_look rfl lk_bd4 ?_ | refine d_look rfl lk_bd5 ?_ | refine d_look rfl lk_bd6 ?_ | refine d_look rfl lk_bd7 ?_ | refine d_look rfl lk_bd8 ?_
      | refine d_look rfl lk_inc ?_ | refine d_look rfl lk_add ?_ | refine d_look rfl lk_sub ?_
      | refine d_look rfl lk_zix ?_ | refine d_look rfl lk_ix ?_ | refine d_look rfl lk_ixs ?_ | refine d_look rfl lk_ixa ?_ | refine d_look rfl lk_ixaN ?_ | refine d_look rfl lk_sidx2 ?_
      | refine d_look rfl lk_p ?_ | refine d_no rfl ?_ | refine d_nil ?_)
    exact Hid.out a_go) : B := h ⟨a⟩
end Go.Cam
/- A part of an array, with its room. -/
namespace Go.Cam
section
variable {P : Program} {l : List (Nat × Value)} {As : List HP} {d : Nat} {oty : TypeId} {pos : String} {af : Array Edge} {g : Option (Nat × Bool)}
/-- x[:q:q] of an array -/
theorem lk_slcm (q : Nat) {t : TypeId} {x hi mx : Operand} {b m el sz : Nat} [hu : AR P t m el] [hs : SZ P el sz] (h0 : 0 < q) (hh : q ≤ m) (hx : ∀ j, ev (mk l j) x = .pointer (some ⟨b, 0, none⟩) := by intro j; rfl)
    (hhi : ∀ j, ∃ k, ev (mk l j) hi = .int k (q : Int) := by intro j; exact ⟨_, rfl⟩) (hmx : ∀ j, ∃ k, ev (mk l j) mx = .int k (q : Int) := by intro j; exact ⟨_, rfl⟩) :
    LookS P ⟨some d, .slice t x none (some hi) (some mx), oty, pos, af, g⟩ l As (.slice (some ⟨b, 0, none⟩) q q) := .mk fun j _ _ _ => by
  refine qt_exec (s := Instr.sliceAt t (ev (mk l j) x) none (some (ev (mk l j) hi)) (some (ev (mk l j) mx))) (by unfold execOp; rfl) fun w0 w _ => ?_
  refine cst_run _ ?_ w
  rw [hx j]
  obtain ⟨k1, h1⟩ := hhi j
  obtain ⟨k2, h2⟩ := hmx j
  unfold Instr.sliceAt
  rw [cst_bind hu.h]
  dsimp only
  rw [cst_bind (show cst P (Instr.sureAddr (.pointer (some ⟨b, 0, none⟩))) = some ⟨b, 0, none⟩ from rfl)]
  have hb : cst P (Instr.sliceBounds false m m none (some (ev (mk l j) hi)) (some (ev (mk l j) mx))) = some (0, q, q) := by
    unfold Instr.sliceBounds
    dsimp only
    rw [cst_bind (cst_sliceBound h2 hh)]
    rw [cst_bind (cst_sliceBound h1 (Nat.le_refl q))]
    rfl
  rw [cst_bind hb]
  dsimp only
  rw [cst_bind hs.h]
  simp only [if_neg (show ¬ q = 0 by omega), addr_add, Nat.zero_mul]; rfl
/-- an element of an array of texts -/
theorem lk_ldx {t : TypeId} {x : Operand} {b off ty : Nat} {c : List Value} {v : Value} {Bs : List HP} [hag : AG P t false] (s : Sel (Box b ty c) As Bs) (hv : c[off]? = some v) (hx : ∀ j, ev (mk l j) x = .pointer (some ⟨b, off, none⟩) := by intro j; rfl) :
    LookS P ⟨some d, .load t x, oty, pos, af, g⟩ l As v := lk_ld hx s (by rw [List.getElem?_toArray]; exact hv)
/-- a slice is copied to the head of an array -/
theorem st_cpX {dd : Option Nat} {t t2 el m c n' c' b ty : Nat} {x y : Operand} {u : Option Addr} {cs : List Value} {row : Nat → List Value} {As' : List HP} [sc : SC P t el] [hs : SZ P el 1] (hm : m ≤ n') (hl : n' ≤ cs.length)
    (up : Upd (Box b ty cs) (Box b ty (flat m row ++ cs.drop m)) As As') (hr : SelR As 1 (.slice u m c) m row) (h1 : (flat m row).all one = true)
    (hx : ∀ j, ev (mk l j) x = .slice (some ⟨b, 0, none⟩) n' c' := by intro j; rfl) (hy : ∀ j, ev (mk l j) y = .slice u m c := by intro j; rfl) :
    StepL P ⟨dd, .call ⟨.builtin .copy, #[x, y], #[t, t2]⟩, oty, pos, af, g⟩ l As (fun v Cs => v = .int .i64 (m : Nat) ∧ Cs = As') := .mk fun j Fs H M q => by
  rw [execOp_copy, hx j, hy j]
  obtain ⟨Cs, s1, s2⟩ := (up.app Fs).sels
  obtain ⟨hb, hq⟩ := own_write (o' := .cells (flat m row ++ cs.drop m).toArray ty (0, 0)) (s1.sat q)
  have hrr := (hr.app Fs).rd q
  have hrl : ∀ i, i < m → (row i).length = 1 := by obtain ⟨_, _, _, _, h, _⟩ := hrr; exact h
  have hfl := flat_len hrl
  refine hmc_of_hm (hm_bind (hm_copy (n' := n') (c' := c') (off := 0) hb hrr h1 (by simp; omega) (hm_pure ⟨_, .inl rfl, _, ⟨by rw [Nat.min_eq_left hm], rfl⟩, ?_⟩)))
  rw [Nat.min_eq_left hm, setL_list _ _ _ (by rw [hfl]; omega)]
  rw [hfl]
  simp only [List.take_zero, List.nil_append, Nat.zero_add, Nat.mul_one]
  exact s2.back hq
end
end Go.Cam
