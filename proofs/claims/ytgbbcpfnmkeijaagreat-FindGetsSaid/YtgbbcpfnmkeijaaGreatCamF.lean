/- Slices of one's own: made, appended to. -/
import Derived.Test.YtgbbcpfnmkeijaaGreatCamE
namespace Go.Cam
section
variable {P : Program} {H M : Heap} {α : Type}
theorem hm_choose {q : Question} {K : Nat → Heap → Heap → Prop} (h : ∀ t, (q.forced = true → t = 0) → (q.forced = false → ∃ s, t = q.cut s) → K t H M) : hm P (choose q) H M K := by
  intro w0 w hh
  by_cases hf : q.forced = true
  · exact ⟨0, w, H, M, by show (Sem.choose q Sem.pure).run P w = _; simp only [Sem.run, hf, if_true], hh, h 0 (fun _ => rfl) (fun h2 => by rw [hf] at h2; cases h2)⟩
  · refine ⟨q.cut (w.tape w.drawn q), { w with drawn := w.drawn + 1 }, H, M, ?_, hh.drew, h _ (fun h2 => absurd h2 hf) (fun _ => ⟨_, rfl⟩)⟩
    show (Sem.choose q Sem.pure).run P w = _
    simp only [Sem.run, hf]; rfl
theorem hm_newRow {e : TypeId} {cells : Array Value} {K : Addr → Heap → Heap → Prop} (h : ∀ r, Fresh H M r → K ⟨r, 0, none⟩ H (upd M r (.cells cells e))) : hm P (newRow e cells) H M K := by
  intro w0 w hh
  exact ⟨⟨w.heap.size, 0, none⟩, _, H, _, rfl, hh.push _, h _ hh.fresh⟩
theorem hm_loadCells {b off n : Nat} {c : Array Value} {ty : TypeId} {fr : Nat × Nat} {K : Array Value → Heap → Heap → Prop} (hb : Kn H M b (.cells c ty fr)) (hl : off + n ≤ c.size) (h : K (c.extract off (off + n)) H M) :
    hm P (loadCells ⟨b, off, none⟩ n) H M K := by
  intro w0 w hh
  refine ⟨_, w, H, M, ?_, hh, h⟩
  have := loadCells_known (P := P) hh hb n 0 #[] (by omega)
  simp only [Nat.add_zero, Array.empty_append] at this
  exact this
theorem hm_storeCells {b off : Nat} {c : Array Value} {ty : TypeId} {vs : List Value} {K : Unit → Heap → Heap → Prop} (hb : M b = some (.cells c ty (0, 0))) (hl : off + vs.length ≤ c.size) (h1 : vs.all one = true)
    (h : K () H (upd M b (.cells (setL c off vs) ty (0, 0)))) : hm P (storeCells ⟨b, off, none⟩ vs) H M K := by
  intro w0 w hh
  obtain ⟨w', hr, hw'⟩ := storeCells_known (P := P) (off := off) vs w c M 0 hh hb (by omega) (fun j _ _ h => by omega) (fun u hu => List.all_eq_true.1 h1 u hu)
  exact ⟨(), w', H, _, hr, by simpa using hw', h⟩
theorem hm_askRoom {b : Nat} {K : Unit → Heap → Heap → Prop} (h : K () H M) : hm P (askRoom b) H M K := by
  unfold askRoom
  split
  · exact hm_cst rfl h
  · exact hm_pure h
end
/-- a slice of one's own: nothing yet, or the head of a block that is owned; xs: its cells -/
def Own (M : Heap) (e sz : Nat) (v : Value) (xs : List Value) : Prop :=
  (v = .slice none 0 0 ∧ xs = []) ∨ ∃ b len cap cs, v = .slice (some ⟨b, 0, none⟩) len cap ∧ xs.length = len * sz ∧ cs.size = cap * sz ∧ len ≤ cap ∧ M b = some (.cells cs e (0, 0)) ∧ cs.toList.take xs.length = xs
def ob : Value → Option Nat
  | .slice (some a) _ _ => some a.block
  | _ => none
/-- what an append leaves of the other blocks -/
def App (M : Heap) (v : Value) (M' : Heap) (v' : Value) : Prop := ∀ c o, ob v ≠ some c → M c = some o → M' c = some o ∧ ob v' ≠ some c
theorem Own.frame {M M' : Heap} {e sz : Nat} {v : Value} {xs : List Value} (h : Own M e sz v xs) (hk : ∀ c o, ob v = some c → M c = some o → M' c = some o) : Own M' e sz v xs := by
  rcases h with h | ⟨b, len, cap, cs, rfl, h1, h2, h3, h4, h5⟩
  · exact .inl h
  · exact .inr ⟨b, len, cap, cs, rfl, h1, h2, h3, hk _ _ rfl h4, h5⟩
theorem Own.len {M : Heap} {e sz : Nat} {v : Value} {xs : List Value} (h : Own M e sz v xs) (n : Nat) (hn : xs.length = n * sz) (hz : 0 < sz) : ∃ a cap, v = .slice a n cap := by
  rcases h with ⟨rfl, rfl⟩ | ⟨b, len, cap, cs, rfl, h1, h2, h3, h4, h5⟩
  · have : n = 0 := by
      rw [List.length_nil] at hn
      rcases Nat.eq_zero_or_pos n with h | h
      · exact h
      · have := Nat.mul_pos h hz; omega
    subst this; exact ⟨none, 0, rfl⟩
  · have : len = n := Nat.eq_of_mul_eq_mul_right hz (h1 ▸ hn)
    subst this; exact ⟨_, _, rfl⟩
theorem growBy_le (need : Nat) : ∀ (r c : Nat), c ≤ 2 * need + 1024 → Builtin.growBy need r c ≤ 2 * need + 1024
  | 0, c, h => h
  | r + 1, c, h => by
    unfold Builtin.growBy
    split
    · exact h
    · exact growBy_le need r _ (by omega)
theorem nextslicecap_le (need old : Nat) (h : old ≤ need) : Builtin.nextslicecap need old ≤ 2 * need + 1024 := by
  unfold Builtin.nextslicecap
  split
  · omega
  · split
    · omega
    · exact growBy_le need 4 old (by omega)
section
variable {P : Program} {H M : Heap}
/-- append of m elements that lie in a block that is known -/
theorem hm_append {t e sz bytes m c : Nat} {s : Value} {xs ys : List Value} {bx offx : Nat} {cx : Array Value} {tx : TypeId} {fx : Nat × Nat} {i : TypeInfo} {z : Value} {K : Value → Heap → Heap → Prop}
    (hu : cst P (underlying t) = some (.slice e)) (hs : cst P (sizeOf e) = some sz) (hi : cst P (typeInfo e) = some i) (hby : i.bytes = bytes) (hb0 : 0 < bytes) (hz : cst P (zeroValue e) = some z) (hzs : z.cells.size = sz) (hsz : 0 < sz)
    (hown : Own M e sz s xs) (hx : Kn H M bx (.cells cx tx fx)) (hy : cx.extract offx (offx + m * sz) = ys.toArray) (hyl : offx + m * sz ≤ cx.size) (hys : ys.length = m * sz) (h1 : ys.all one = true)
    (hroom : (xs.length / sz + m + 512) * bytes ≤ 140737488355328)
    (h : ∀ v' M', Own M' e sz v' (xs ++ ys) → App M s M' v' → K v' H M') :
    hm P (Builtin.append_ #[t, t] t #[s, .slice (some ⟨bx, offx, none⟩) m c]) H M K := by
  have hfirst : ∀ (K : Array Value → Heap → Heap → Prop), K ys.toArray H M → hm P (Builtin.firstCells sz m (.slice (some ⟨bx, offx, none⟩) m c)) H M K := by
    intro K hk
    show hm P (loadCells ⟨bx, offx, none⟩ (m * sz)) H M K
    exact hm_loadCells hx hyl (by rw [hy]; exact hk)
  -- the slice's own parts
  obtain ⟨base, len, cap, hv, hlen, hcap, hpart⟩ : ∃ base len cap, s = .slice base len cap ∧ xs.length = len * sz ∧ len ≤ cap ∧
      ((base = none ∧ len = 0 ∧ cap = 0 ∧ xs = []) ∨ ∃ b cs, base = some ⟨b, 0, none⟩ ∧ cs.size = cap * sz ∧ M b = some (.cells cs e (0, 0)) ∧ cs.toList.take xs.length = xs) := by
    rcases hown with ⟨rfl, rfl⟩ | ⟨b, len, cap, cs, rfl, a1, a2, a3, a4, a5⟩
    · exact ⟨none, 0, 0, rfl, by simp, Nat.le_refl _, .inl ⟨rfl, rfl, rfl, rfl⟩⟩
    · exact ⟨_, len, cap, rfl, a1, a3, .inr ⟨b, cs, rfl, a2, a4, a5⟩⟩
  subst hv
  have hdiv : xs.length / sz = len := by rw [hlen]; exact Nat.mul_div_cancel _ hsz
  rw [hdiv] at hroom
  unfold Builtin.append_
  simp only [List.getElem?_toArray, List.getElem?_cons_zero, List.getElem?_cons_succ]
  refine hm_bind (hm_cst hu ?_)
  dsimp only
  refine hm_bind (hm_cst hs ?_)
  refine hm_bind (hm_cst hu ?_)
  dsimp only
  refine hm_bind (hm_pure ?_)
  simp only [Bool.false_eq_true, if_false, Bool.not_false, if_true]
  refine hm_bind (hm_pure ?_)
  by_cases hfit : len + m ≤ cap
  · rw [if_pos hfit]
    refine hm_bind (hfirst _ ?_)
    rcases hpart with ⟨rfl, rfl, rfl, rfl⟩ | ⟨b, cs, rfl, a2, a4, a5⟩
    · have hm0 : m = 0 := by omega
      subst hm0
      have hy0 : ys = [] := by simpa using hys
      subst hy0
      refine hm_bind (hm_pure (hm_pure (h _ M ?_ ?_)))
      · exact .inl ⟨rfl, rfl⟩
      · exact fun c o _ hc => ⟨hc, by simp [ob]⟩
    · have hle : (len + m) * sz ≤ cap * sz := Nat.mul_le_mul_right _ hfit
      rw [Nat.add_mul] at hle
      refine hm_bind ?_
      dsimp only
      rw [addr_add]
      refine hm_storeCells a4 (by simp only [Nat.zero_add, hys, a2]; exact hle) h1 (hm_pure (h _ _ ?_ ?_))
      · refine .inr ⟨b, len + m, cap, _, rfl, by rw [List.length_append, hlen, hys, Nat.add_mul], by rw [setL_size]; exact a2, hfit, upd_same _ _ _, ?_⟩
        apply List.ext_getElem?
        intro q
        rw [List.getElem?_take]
        have hz2 : ∀ q : Nat, (setL cs (0 + len * sz) ys).toList[q]? = (setL cs (0 + len * sz) ys)[q]? := fun q => Array.getElem?_toList
        rw [hz2]
        by_cases hq : q < (xs ++ ys).length
        · rw [if_pos hq]
          simp only [List.length_append, hlen, hys] at hq
          rw [setL_get _ _ _ _ (by rw [a2]; omega)]
          by_cases hq2 : q < len * sz
          · rw [if_neg (by omega), List.getElem?_append_left (by omega)]
            have := congrArg (fun l => l[q]?) a5
            simp only [List.getElem?_take, hlen, hq2, if_true] at this
            simpa using this
          · rw [if_pos (by omega), List.getElem?_append_right (by omega), hlen, Nat.zero_add]
        · rw [if_neg hq, List.getElem?_eq_none (by omega)]
      · intro c' o hc ho
        have hne : c' ≠ b := fun e' => hc (by rw [e']; rfl)
        exact ⟨by rw [upd_ne hne]; exact ho, fun e' => hc e'⟩
  · rw [if_neg hfit]
    refine hm_bind (hm_cst hi ?_)
    rw [if_neg (by simp [hby]; omega)]
    refine hm_bind (hm_cst hi ?_)
    have hns := nextslicecap_le (len + m) cap (by omega)
    have hle : Builtin.nextslicecap (len + m) cap * i.bytes ≤ 2 ^ 48 := by
      rw [hby]
      have h2 : Builtin.nextslicecap (len + m) cap * bytes ≤ (2 * (len + m) + 1024) * bytes := Nat.mul_le_mul_right _ hns
      have h3 : (2 * (len + m) + 1024) * bytes = 2 * ((len + m + 512) * bytes) := by rw [show 2 * (len + m) + 1024 = 2 * (len + m + 512) from by omega, Nat.mul_assoc]
      omega
    rw [if_neg (by omega)]
    refine hm_bind (hm_choose fun newCap _ hcut => ?_)
    obtain ⟨tt, rfl⟩ := hcut rfl
    refine hm_bind (hm_cst hi ?_)
    refine hm_bind (hm_askRoom ?_)
    have hnc : len + m ≤ (Question.appendCap (len + m) cap e).cut tt := by simp [Question.cut]
    generalize (Question.appendCap (len + m) cap e).cut tt = nc at hnc
    have hold : ∀ (K : Array Value → Heap → Heap → Prop), K xs.toArray H M → hm P (Builtin.firstCells sz len (.slice base len cap)) H M K := by
      intro K hk
      rcases hpart with ⟨rfl, rfl, rfl, rfl⟩ | ⟨b, cs, rfl, a2, a4, a5⟩
      · exact hm_pure hk
      · show hm P (loadCells ⟨b, 0, none⟩ (len * sz)) H M K
        have hle : len * sz ≤ cap * sz := Nat.mul_le_mul_right _ hcap
        refine hm_loadCells (.inl a4) (by omega) ?_
        have : cs.extract 0 (0 + len * sz) = xs.toArray := by
          apply Array.ext'
          rw [Array.toList_extract, List.extract_eq_take_drop]
          simp only [Nat.zero_add, Nat.sub_zero, List.drop_zero]
          rw [← hlen]; exact a5
        rw [this]; exact hk
    refine hm_bind (hold _ ?_)
    refine hm_bind (hfirst _ ?_)
    refine hm_bind (hm_cst hz ?_)
    refine hm_bind (hm_newRow fun r hr => hm_pure (h _ _ ?_ ?_))
    · refine .inr ⟨r, len + m, nc, _, rfl, by rw [List.length_append, hlen, hys, Nat.add_mul], ?_, hnc, upd_same _ _ _, ?_⟩
      · have hsz2 : (Builtin.zeroCells z.cells (nc - (len + m))).size = (nc - (len + m)) * sz := by simp [Builtin.zeroCells, hzs]
        simp only [Array.size_append, List.size_toArray, hlen, hys, hsz2]
        rw [← Nat.add_mul, ← Nat.add_mul]
        congr 1; omega
      · simp only [Array.toList_append, List.append_assoc]
        rw [← List.append_assoc]
        exact List.take_left' rfl
    · intro c' o hc ho
      exact ⟨hr.old ho, fun e' => by simp only [ob, Option.some.injEq] at e'; exact hr.ne ho e'.symm⟩
end
/-- what the table says of a slice's type: its element's number, cells, bytes -/
class SL (P : Program) (t : Nat) (e sz bytes : outParam Nat) : Prop where
  h : ∃ i z, cst P (underlying t) = some (.slice e) ∧ cst P (sizeOf e) = some sz ∧ cst P (typeInfo e) = some i ∧ i.bytes = bytes ∧ 0 < bytes ∧ cst P (zeroValue e) = some z ∧ z.cells.size = sz ∧ 0 < sz
section
variable {P : Program} {f : FuncId} {n : Nat} {R : Post} {k : List It} {l : List (Nat × Value)} {H M : Heap} {all : Array Oper} {rest : List Oper}
theorem hm_app {t e sz bytes m c : Nat} [sl : SL P t e sz bytes] {s : Value} {xs : List Value} (ys : List Value) {bx offx : Nat} {cx : Array Value} {tx : TypeId} {fx : Nat × Nat} {K : Value → Heap → Heap → Prop}
    (hown : Own M e sz s xs) (hx : Kn H M bx (.cells cx tx fx)) (hy : cx.extract offx (offx + m * sz) = ys.toArray) (hyl : offx + m * sz ≤ cx.size) (hys : ys.length = m * sz) (h1 : ys.all one = true)
    (hroom : (xs.length / sz + m + 512) * bytes ≤ 140737488355328) (h : ∀ v' M', Own M' e sz v' (xs ++ ys) → App M s M' v' → K v' H M') :
    hm P (Builtin.append_ #[t, t] t #[s, .slice (some ⟨bx, offx, none⟩) m c]) H M K := by
  obtain ⟨i, z, hu, hs, hi, hby, hb0, hz, hzs, hsz⟩ := sl.h
  exact hm_append hu hs hi hby hb0 hz hzs hsz hown hx hy hyl hys h1 hroom h
/-- append(s, x...) where x lies in a block that is known, s is one's own -/
theorem run_app {d : Nat} {pos : String} {af : Array Edge} {g : Option (Nat × Bool)} {t e sz bytes m c : Nat} [SL P t e sz bytes] {p q : Operand} {s : Value} {xs : List Value} (ys : List Value) {bx offx : Nat} {cx : Array Value} {tx : TypeId} {fx : Nat × Nat} (hd : Nat.blt d n = true)
    (hw : ∀ j, wantE ⟨some d, .call ⟨.builtin .append, #[p, q], #[t, t]⟩, t, pos, af, g⟩ all (mk l j) = true) (hp : ∀ j, ev (mk l j) p = s) (hq : ∀ j, ev (mk l j) q = .slice (some ⟨bx, offx, none⟩) m c)
    (hown : Own M e sz s xs) (hx : Kn H M bx (.cells cx tx fx)) (hy : cx.extract offx (offx + m * sz) = ys.toArray) (hyl : offx + m * sz ≤ cx.size) (hys : ys.length = m * sz) (h1 : ys.all one = true)
    (hroom : (xs.length / sz + m + 512) * bytes ≤ 140737488355328) (h : ∀ v' M', Own M' e sz v' (xs ++ ys) → App M s M' v' → Run P f n R (.ops all rest :: k) ((d, v') :: l) H M') :
    Run P f n R (.ops all (⟨some d, .call ⟨.builtin .append, #[p, q], #[t, t]⟩, t, pos, af, g⟩ :: rest) :: k) l H M := by
  refine run_hm hd hw fun j => ?_
  have e1 : execOp (ev (mk l j)) ⟨some d, .call ⟨.builtin .append, #[p, q], #[t, t]⟩, t, pos, af, g⟩ = (Builtin.append_ #[t, t] t #[ev (mk l j) p, ev (mk l j) q] >>= fun v => pure (Next.value v)) := by
    show (resolve (ev (mk l j)) ⟨.builtin .append, #[p, q], #[t, t]⟩ t >>= fun d => invoke d.target d.args) = _
    have : #[p, q].map (ev (mk l j)) = #[ev (mk l j) p, ev (mk l j) q] := by simp
    unfold resolve
    dsimp only
    rw [this]; rfl
  rw [e1, hp j, hq j]
  exact hm_bind (hm_app ys hown hx hy hyl hys h1 hroom fun v' M' ho ha => hm_pure ⟨v', .inl rfl, h v' M' ho ha⟩)
end
/-! ### A slice that is written out -/
def fillG (place : Nat → Option (Nat × Nat)) (cells : Array Value) : List (Nat × Value) → Option (Array Value)
  | [] => some cells
  | (i, v) :: rest => match place i with
    | none => none
    | some (off, size) => if v.cells.size ≠ size || off + v.cells.size > cells.size then none else fillG place (setL cells off v.cells.toList) rest
theorem fillG_eq (place : Nat → Option (Nat × Nat)) : ∀ (ps : List (Nat × Value)) (cells : Array Value), Instr.fill place cells ps = fillG place cells ps
  | [], cells => rfl
  | (i, v) :: r, cells => by
    unfold Instr.fill fillG
    cases place i with
    | none => rfl
    | some p =>
      obtain ⟨off, size⟩ := p
      dsimp only
      split
      · rfl
      · rw [fillG_eq place r]
        congr 1
        have := setL_fold v.cells.toList cells off 0
        rw [Nat.add_zero] at this
        rw [← this, ← Array.foldl_toList, Array.toList_zipIdx]
class ZV (P : Program) (t : Nat) (z : outParam Value) : Prop where
  h : cst P (zeroValue t) = some z
theorem range_map (n : Nat) (g : Nat → Value) : (Array.range n).map g = tab n g := by
  apply Array.ext'
  simp [tab, Array.toList_range]
theorem hm_bs {P : Program} {H M : Heap} {t e sz len : Nat} {z : Value} (hu : cst P (underlying t) = some (.slice e)) (hs : cst P (sizeOf e) = some sz) (hz : cst P (zeroValue e) = some z) (hlen : 0 < len * sz) (hmax : len * sz ≤ 16777216)
    (ps : List (Nat × Value)) {cells : Array Value} {K : Value → Heap → Heap → Prop} (hf : fillG (fun i => some (i * sz, sz)) (tab (len * sz) fun i => z.cells[i % z.cells.size]!) ps = some cells)
    (h : ∀ r, Fresh H M r → K (.slice (some ⟨r, 0, none⟩) len len) H (upd M r (.cells cells e))) : hm P (Instr.buildSlice t len ps.toArray) H M K := by
  unfold Instr.buildSlice
  refine hm_bind (hm_cst hu ?_)
  dsimp only
  refine hm_bind (hm_cst hs ?_)
  rw [if_neg (by omega), if_neg (by omega)]
  refine hm_bind (hm_cst hz ?_)
  refine hm_bind (hm_pure ?_)
  rw [range_map, fillG_eq, hf]
  dsimp only
  exact hm_bind (hm_newRow fun r hr => hm_pure (h r hr))
section
variable {P : Program} {f : FuncId} {n : Nat} {R : Post} {k : List It} {l : List (Nat × Value)} {H M : Heap} {all : Array Oper} {rest : List Oper}
theorem run_bs {d : Nat} {oty : TypeId} {pos : String} {af : Array Edge} {g : Option (Nat × Bool)} {t e sz bytes len : Nat} {ps : List (Nat × Operand)} {z : Value} [sl : SL P t e sz bytes] [zv : ZV P e z] (cells : Array Value) (hd : Nat.blt d n = true)
    (hw : ∀ j, wantE ⟨some d, .buildSlice t len ps.toArray, oty, pos, af, g⟩ all (mk l j) = true) (hlen : 0 < len * sz) (hmax : len * sz ≤ 16777216)
    (hf : ∀ j, fillG (fun i => some (i * sz, sz)) (tab (len * sz) fun i => z.cells[i % z.cells.size]!) (ps.map fun x => (x.1, ev (mk l j) x.2)) = some cells)
    (h : ∀ r M1, M1 r = some (.cells cells e) → New M r M1 → Run P f n R (.ops all rest :: k) ((d, .slice (some ⟨r, 0, none⟩) len len) :: l) H M1) : Run P f n R (.ops all (⟨some d, .buildSlice t len ps.toArray, oty, pos, af, g⟩ :: rest) :: k) l H M := by
  refine run_hm hd hw fun j => ?_
  have e1 : execOp (ev (mk l j)) ⟨some d, .buildSlice t len ps.toArray, oty, pos, af, g⟩ = (Instr.buildSlice t len (ps.toArray.map fun x => (x.1, ev (mk l j) x.2)) >>= fun v => pure (Next.value v)) := by
    unfold execOp; rfl
  rw [e1, List.map_toArray]
  obtain ⟨i, z', hu, hs, _, _, _, _, _, _⟩ := sl.h
  exact hm_bind (hm_bs hu hs zv.h hlen hmax _ (hf j) fun r hr => hm_pure ⟨_, .inl rfl, h r _ (upd_same _ _ _) (New.of hr _)⟩)
end
/-! ### A part of an array's value that is itself an array or a struct -/
theorem qs_ixA {P : Program} {H M : Heap} {o : Oper} {e : Nat → Value} {t : TypeId} {x y : Operand} {m : Nat} {elem : TypeId} {sz : Nat} {cs : Array Value} {kd : IntKind} {i : Int} {vs : Array Value} (ho : o.op = .index t x y) (hx : ev e x = .agg cs) (hy : ev e y = .int kd i)
    (hu : cst P (underlying t) = some (.array m elem)) (hs : cst P (sizeOf elem) = some sz) (hag : cst P (isAgg elem) = some true) (h0 : 0 ≤ i) (h1 : i < m) (hv : cs.extract (i.toNat * sz) (i.toNat * sz + sz) = vs) : Qs P o e H M (.agg vs) := by
  refine qt_exec (s := Instr.index t (ev e x) (ev e y)) (by unfold execOp; rw [ho]) fun w0 w _ => ?_
  rw [hx, hy]
  refine cst_run _ ?_ w
  unfold Instr.index
  rw [cst_bind (show cst P (asIntOf (.int kd i)) = some (kd, i) from rfl)]
  dsimp only
  rw [cst_bind hu]
  dsimp only
  rw [if_pos ⟨h0, h1⟩, cst_bind hs]
  unfold part
  rw [cst_bind hag, if_pos rfl, cst_bind hs, hv]
  rfl
theorem run_ixA {P : Program} {f : FuncId} {n : Nat} {R : Post} {k : List It} {l : List (Nat × Value)} {H M : Heap} {all : Array Oper} {rest : List Oper} {d : Nat} {oty : TypeId} {pos : String} {af : Array Edge} {g : Option (Nat × Bool)} {t : TypeId} {x y : Operand} {m : Nat} {elem : TypeId} {sz : Nat}
    {cs : Array Value} {kd : IntKind} {i : Int} (vs : Array Value) (hd : Nat.blt d n = true) (hw : ∀ j, wantE ⟨some d, .index t x y, oty, pos, af, g⟩ all (mk l j) = true)
    (hx : ∀ j, ev (mk l j) x = .agg cs) (hy : ∀ j, ev (mk l j) y = .int kd i) [hu : AR P t m elem] [hs : SZ P elem sz] [hag : AG P elem true] (h0 : 0 ≤ i) (h1 : i < m) (hv : cs.extract (i.toNat * sz) (i.toNat * sz + sz) = vs)
    (h : Run P f n R (.ops all rest :: k) ((d, .agg vs) :: l) H M) : Run P f n R (.ops all (⟨some d, .index t x y, oty, pos, af, g⟩ :: rest) :: k) l H M :=
  run_qt _ (by exact hd) hw (fun j => (qs_ixA rfl (hx j) (hy j) hu.h hs.h hag.h h0 h1 hv).qt) h
end Go.Cam
