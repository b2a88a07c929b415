/- Slices of one's own: elements that are stored; slices that may be nothing; parts with three bounds; arrays out of slices; copies. -/
import Derived.Test.YtgbbcpfnmkeijaaGreatCamAF
namespace Go.Cam
/-- cells of an element that are set anew -/
def rput (row : Nat → List Value) (i fo : Nat) (vs : List Value) : Nat → List Value := fun q => if q = i then (row q).take fo ++ vs ++ (row q).drop (fo + vs.length) else row q
theorem rput_len {row : Nat → List Value} {i fo sz n : Nat} {vs : List Value} (h : ∀ q, q < n → (row q).length = sz) (hf : fo + vs.length ≤ sz) : ∀ q, q < n → (rput row i fo vs q).length = sz := by
  intro q hq
  have := h q hq
  unfold rput
  split
  · simp; omega
  · exact this
theorem flat_get {sz : Nat} {row : Nat → List Value} {n : Nat} (h : ∀ q, q < n → (row q).length = sz) (i x : Nat) (hi : i < n) (hx : x < sz) : (flat n row)[i * sz + x]? = (row i)[x]? := by
  have h1 := flat_row h hi
  have := congrArg (fun l => l[x]?) h1
  simp only [List.getElem?_take, hx, if_true, List.getElem?_drop] at this
  exact this
theorem flat_ext {sz n : Nat} {l : List Value} {row : Nat → List Value} (hsz : 0 < sz) (hl : l.length = n * sz) (h : ∀ q, q < n → (row q).length = sz) (he : ∀ i x, i < n → x < sz → l[i * sz + x]? = (row i)[x]?) : l = flat n row := by
  apply List.ext_getElem?
  intro q
  by_cases hq : q < n * sz
  · have e : q = q / sz * sz + q % sz := by rw [Nat.mul_comm]; exact (Nat.div_add_mod q sz).symm
    have h1 : q / sz < n := Nat.div_lt_of_lt_mul (by rw [Nat.mul_comm]; exact hq)
    have h2 := Nat.mod_lt q hsz
    rw [e, he _ _ h1 h2, flat_get h _ _ h1 h2]
  · rw [List.getElem?_eq_none (by omega), List.getElem?_eq_none (by rw [flat_len h]; omega)]
theorem flat_rput {row : Nat → List Value} {i fo sz n : Nat} {vs : List Value} (hsz : 0 < sz) (hi : i < n) (h : ∀ q, q < n → (row q).length = sz) (hf : fo + vs.length ≤ sz) (c : Array Value) (hc : n * sz ≤ c.size) (hx : c.toList.take (n * sz) = flat n row) :
    (setL c (i * sz + fo) vs).toList.take (n * sz) = flat n (rput row i fo vs) := by
  refine flat_ext hsz (by simp [setL_size]; omega) (rput_len h hf) fun q x hq hxs => ?_
  have hle : (q + 1) * sz ≤ n * sz := Nat.mul_le_mul_right _ hq
  rw [Nat.add_mul, Nat.one_mul] at hle
  have hle2 : (i + 1) * sz ≤ n * sz := Nat.mul_le_mul_right _ hi
  rw [Nat.add_mul, Nat.one_mul] at hle2
  rw [List.getElem?_take, if_pos (by omega), Array.getElem?_toList, setL_get _ _ _ _ (by omega)]
  have hold : c[q * sz + x]? = (row q)[x]? := by
    rw [← flat_get h q x hq hxs, ← hx, List.getElem?_take, if_pos (by omega), Array.getElem?_toList]
  unfold rput
  by_cases e : q = i
  · subst e
    rw [if_pos rfl]
    have hrl := h q hq
    by_cases h1 : fo ≤ x ∧ x < fo + vs.length
    · rw [if_pos (by omega), List.getElem?_append_left (by simp; omega), List.getElem?_append_right (by simp; omega)]
      congr 1; simp; omega
    · rw [if_neg (by omega), hold]
      by_cases h2 : x < fo
      · rw [List.getElem?_append_left (by simp; omega), List.getElem?_append_left (by simp; omega), List.getElem?_take, if_pos h2]
      · rw [List.getElem?_append_right (by simp; omega), List.getElem?_drop]
        congr 1; simp; omega
  · rw [if_neg e, if_neg ?_, hold]
    intro ⟨h1, h2⟩
    rcases Nat.lt_or_gt_of_ne e with hl | hl
    · have : (q + 1) * sz ≤ i * sz := Nat.mul_le_mul_right _ hl
      rw [Nat.add_mul, Nat.one_mul] at this; omega
    · have : (i + 1) * sz ≤ q * sz := Nat.mul_le_mul_right _ hl
      rw [Nat.add_mul, Nat.one_mul] at this; omega
theorem flat_rput_one {row : Nat → List Value} {i fo n : Nat} {vs : List Value} (h : (flat n row).all one = true) (hv : vs.all one = true) : (flat n (rput row i fo vs)).all one = true := by
  rw [List.all_eq_true] at *
  intro u hu
  obtain ⟨q, hq, h2⟩ := List.mem_flatMap.1 hu
  unfold rput at h2
  split at h2
  · rcases List.mem_append.1 h2 with h3 | h3
    · rcases List.mem_append.1 h3 with h4 | h4
      · exact h u (List.mem_flatMap.2 ⟨q, hq, List.mem_of_mem_take h4⟩)
      · exact hv u h4
    · exact h u (List.mem_flatMap.2 ⟨q, hq, List.mem_of_mem_drop h3⟩)
  · exact h u (List.mem_flatMap.2 ⟨q, hq, h2⟩)
/-- a slice of one's own, or of no elements -/
def SO (e sz : Nat) (v : Value) (n : Nat) (row : Nat → List Value) : HP := ⟨fun _ M => SlO M e sz v n row ∨ (n = 0 ∧ ∃ a, v = .slice a 0 0), fun _ hl h => h.imp (fun ⟨h1, h2, h3, h4⟩ => ⟨h1, h2, h3.frame fun c o _ h => hl c o h, h4⟩) id⟩
theorem SO.of {e sz : Nat} {v : Value} {n : Nat} {row : Nat → List Value} (H M : Heap) (h : (SA (some e) sz v n row).p H M) : (SO e sz v n row).p H M := .inl h
theorem SO.own {e sz : Nat} {v : Value} {n : Nat} {row : Nat → List Value} (hn : 0 < n) (H M : Heap) (h : (SO e sz v n row).p H M) : (SA (some e) sz v n row).p H M := by
  rcases h with h | ⟨h, _⟩
  · exact h
  · omega
instance {e sz v n row} : Rd (SO e sz v n row) sz v n row := ⟨fun H M h => by
  rcases h with h | ⟨rfl, a, rfl⟩
  · exact SA.rd (m := some e) (H := H) h
  · exact ⟨a, 0, rfl, Nat.le_refl _, fun i hi => by omega, fun h => by omega⟩⟩
theorem SO.cg {e sz : Nat} {v : Value} {n : Nat} {row : Nat → List Value} (row' : Nat → List Value) (he : ∀ i, i < n → row i = row' i) (H M : Heap) (h : (SO e sz v n row).p H M) : (SO e sz v n row').p H M := by
  rcases h with h | h
  · exact .inl (SA.cg (m := some e) row' he H M h)
  · exact .inr h
theorem SO.val {e sz : Nat} {v : Value} {n : Nat} {row : Nat → List Value} (H M : Heap) (h : (SO e sz v n row).p H M) : ∃ a c, v = .slice a n c ∧ n ≤ c := by
  obtain ⟨a, c, h1, h2, _⟩ := Rd.h (A := SO e sz v n row) (v := v) (sz := sz) (n := n) (row := row) H M h; exact ⟨a, c, h1, h2⟩
theorem SO.cap {e sz : Nat} {a : Option Addr} {n c : Nat} {row : Nat → List Value} (H M : Heap) (h : (SO e sz (.slice a n c) n row).p H M) : n ≤ c := by
  obtain ⟨_, _, e, h2⟩ := SO.val H M h; cases e; exact h2
theorem SO.rows {e sz : Nat} {v : Value} {n : Nat} {row : Nat → List Value} (H M : Heap) (h : (SO e sz v n row).p H M) : ∀ i, i < n → (row i).length = sz := by
  obtain ⟨_, _, _, _, h, _⟩ := Rd.h (A := SO e sz v n row) (v := v) (sz := sz) (n := n) (row := row) H M h; exact h
theorem SO.ones {e sz : Nat} {v : Value} {n : Nat} {row : Nat → List Value} {H M : Heap} (h : (SO e sz v n row).p H M) : (flat n row).all one = true := by
  rcases h with h | ⟨rfl, _⟩
  · exact h.2.1
  · rfl
section
variable {P : Program} {f : FuncId} {n : Nat} {R : Value → HP} {k : List It} {l : List (Nat × Value)} {As Bs : List HP} {all : Array Oper} {rest : List Oper} {d : Nat} {dd : Option Nat} {oty : TypeId} {pos : String} {af : Array Edge} {g : Option (Nat × Bool)}
/-- what is one's own may be only read from now on -/
theorem s_fzO {e sz : Nat} {v : Value} {len : Nat} {row : Nat → List Value} (u : Sel (SO e sz v len row) As Bs) (h : RunS P f n R k l (SA none sz v len row :: Bs)) : RunS P f n R k l As := .mk fun H M s => by
  obtain ⟨M1, M2, a1, a2, dj, hA, hB⟩ := u.sat s
  rcases hA with hA | ⟨rfl, a, rfl⟩
  · exact s_fz (e := e) (As := SA (some e) sz v len row :: Bs) .here h H M ⟨M1, M2, a1, a2, dj, hA, hB⟩
  · exact h H M (per_add (M0 := M) ⟨a, 0, rfl, Nat.le_refl _, fun i hi => by omega, fun h => by omega⟩ ((Sat Bs).mono (Le.refl _) a2 hB))
theorem hm_ste {t : TypeId} {e sz m i fo m' : Nat} {v u : Value} {vs : List Value} {row : Nat → List Value} {X : HP} {H M : Heap} {K : Unit → Heap → Heap → Prop} [hs : SZ P t m'] (q : ((SA (some e) sz v m row).star X).p H M) (hi : i < m)
    (hcel : Cel u vs) (hn : vs.length = m') (hf : fo + m' ≤ sz) (hsz : 0 < sz) (hk : ∀ M', ((SA (some e) sz v m (rput row i fo vs)).star X).p H M' → K () H M') : hm P (Instr.storeAt t (eptr v sz i fo) u) H M K := by
  subst hn
  obtain ⟨M1, M2, a1, a2, dj, ⟨hr1, hr2, hown, base, cap, rfl⟩, hB⟩ := q
  rcases hown with ⟨h1, _⟩ | ⟨b, ln, cp, cs, h1, h2, h3, h4, h5, h6⟩
  · cases h1; omega
  · cases h1
    have hfl := flat_len hr1
    have hle : (i + 1) * sz ≤ m * sz := Nat.mul_le_mul_right _ hi
    rw [Nat.add_mul, Nat.one_mul] at hle
    have hle2 : m * sz ≤ cap * sz := Nat.mul_le_mul_right _ h4
    have he : eptr (.slice (some ⟨b, 0, none⟩) m cap) sz i fo = .pointer (some ⟨b, i * sz + fo, none⟩) := by simp [eptr, addr_add]
    rw [he]
    have hov : ((HP.own b (.cells cs e (0, 0))).star X).p H M := ⟨M1, M2, a1, a2, dj, h5, hB⟩
    obtain ⟨hb, hq⟩ := own_write (o' := .cells (setL cs (i * sz + fo) vs) e (0, 0)) hov
    have hcl : u.cells.size = vs.length := by rw [← hcel.h]; simp
    refine hm_st hs.h hb hcl (by rw [h3]; omega) (fun j _ _ h => by omega) (fun x hx => List.all_eq_true.1 (by rw [hcel.h]; exact hcel.o) x hx) ?_
    rw [hcel.h]
    refine hk _ (star_monoL (fun H M h => ?_) hq)
    have hx2 : cs.toList.take (m * sz) = flat m row := by rw [← hfl]; exact h6
    refine ⟨rput_len hr1 hf, flat_rput_one hr2 hcel.o, .inr ⟨b, m, cap, _, rfl, flat_len (rput_len hr1 hf), by rw [setL_size]; exact h3, h4, h, ?_⟩, _, _, rfl⟩
    rw [flat_len (rput_len hr1 hf)]
    exact flat_rput hsz hi hr1 hf cs (by omega) hx2
/-- a store into an element -/
theorem st_ste {t : TypeId} {x y : Operand} {e sz m i fo m' : Nat} {v u : Value} {vs : List Value} {row : Nat → List Value} [hs : SZ P t m'] (s : Sel (SA (some e) sz v m row) As Bs)
    (hx : ∀ j, ev (mk l j) x = eptr v sz i fo := by intro j; rfl) (hy : ∀ j, ev (mk l j) y = u := by intro j; rfl) (hi : i < m := by omega) (hcel : Cel u vs := by infer_instance) (hn : vs.length = m' := by rfl) (hf : fo + m' ≤ sz := by decide) (hsz : 0 < sz := by decide) :
    StepL P ⟨dd, .store t x y, oty, pos, af, g⟩ l As (fun _ Cs => Cs = SA (some e) sz v m (rput row i fo vs) :: Bs) := .mk fun j Fs H M q => by
  refine hmc_of_hm ?_
  show hm P (Instr.storeAt t (ev (mk l j) x) (ev (mk l j) y) >>= fun _ => pure Next.skip) H M _
  rw [hx j, hy j]
  exact hm_bind (hm_ste ((s.app Fs).sat q) hi hcel hn hf hsz fun M' h => hm_pure ⟨undef, .inr ⟨rfl, rfl⟩, _, rfl, h⟩)
theorem st_steO {t : TypeId} {x y : Operand} {e sz m i fo m' : Nat} {v u : Value} {vs : List Value} {row : Nat → List Value} [hs : SZ P t m'] (s : Sel (SO e sz v m row) As Bs)
    (hx : ∀ j, ev (mk l j) x = eptr v sz i fo := by intro j; rfl) (hy : ∀ j, ev (mk l j) y = u := by intro j; rfl) (hi : i < m := by omega) (hcel : Cel u vs := by infer_instance) (hn : vs.length = m' := by rfl) (hf : fo + m' ≤ sz := by decide) (hsz : 0 < sz := by decide) :
    StepL P ⟨dd, .store t x y, oty, pos, af, g⟩ l As (fun _ Cs => Cs = SO e sz v m (rput row i fo vs) :: Bs) := .mk fun j Fs H M q => by
  refine hmc_of_hm ?_
  show hm P (Instr.storeAt t (ev (mk l j) x) (ev (mk l j) y) >>= fun _ => pure Next.skip) H M _
  rw [hx j, hy j]
  refine hm_bind (hm_ste (star_monoL (fun H M h => SO.own (by omega) H M h) ((s.app Fs).sat q)) hi hcel hn hf hsz fun M' h => hm_pure ⟨undef, .inr ⟨rfl, rfl⟩, _, rfl, star_monoL (SO.of) h⟩)
/-! append to nothing, whatever its address -/
theorem hm_app_z {t e sz bytes m c : Nat} [sl : SL P t e sz bytes] {a : Option Addr} {ys : List Value} {bx offx : Nat} {cx : Array Value} {tx : TypeId} {fx : Nat × Nat} {H M : Heap} {K : Value → Heap → Heap → Prop} (hm0 : 0 < m)
    (hx : Kn H M bx (.cells cx tx fx)) (hy : cx.extract offx (offx + m * sz) = ys.toArray) (hyl : offx + m * sz ≤ cx.size) (hys : ys.length = m * sz) (hroom : (m + 512) * bytes ≤ 140737488355328)
    (h : ∀ r nc cs, Fresh H M r → m ≤ nc → cs.size = nc * sz → cs.toList.take (m * sz) = ys → K (.slice (some ⟨r, 0, none⟩) m nc) H (upd M r (.cells cs e))) :
    hm P (Builtin.append_ #[t, t] t #[.slice a 0 0, .slice (some ⟨bx, offx, none⟩) m c]) H M K := by
  obtain ⟨i, z, hu, hs, hi, hby, hb0, hz, hzs, hsz⟩ := sl.h
  unfold Builtin.append_
  simp only [List.getElem?_toArray, List.getElem?_cons_zero, List.getElem?_cons_succ]
  refine hm_bind (hm_cst hu ?_)
  dsimp only
  refine hm_bind (hm_cst hs ?_)
  refine hm_bind (hm_cst hu ?_)
  dsimp only
  refine hm_bind (hm_pure ?_)
  simp only [Bool.false_eq_true, if_false, Bool.not_false, if_true]
  refine hm_bind (hm_pure ?_)
  rw [if_neg (by omega)]
  refine hm_bind (hm_cst hi ?_)
  rw [if_neg (by simp [hby]; omega)]
  refine hm_bind (hm_cst hi ?_)
  have hns := nextslicecap_le (0 + m) 0 (by omega)
  have hle : Builtin.nextslicecap (0 + m) 0 * i.bytes ≤ 2 ^ 48 := by
    rw [hby]
    have h2 : Builtin.nextslicecap (0 + m) 0 * bytes ≤ (2 * (0 + m) + 1024) * bytes := Nat.mul_le_mul_right _ hns
    have h3 : (2 * (0 + m) + 1024) * bytes = 2 * ((m + 512) * bytes) := by rw [show 2 * (0 + m) + 1024 = 2 * (m + 512) from by omega, Nat.mul_assoc]
    omega
  rw [if_neg (by omega)]
  refine hm_bind (hm_choose fun newCap _ hcut => ?_)
  obtain ⟨tt, rfl⟩ := hcut rfl
  refine hm_bind (hm_cst hi ?_)
  refine hm_bind (hm_askRoom ?_)
  have hnc : 0 + m ≤ (Question.appendCap (0 + m) 0 e).cut tt := by simp [Question.cut]
  generalize (Question.appendCap (0 + m) 0 e).cut tt = nc at hnc
  have h0 : cst P (Builtin.firstCells sz 0 (.slice a 0 0)) = some #[] := by
    cases a with
    | none => rfl
    | some a => show cst P (loadCells a (0 * sz)) = _; rw [Nat.zero_mul]; rfl
  refine hm_bind (hm_cst h0 ?_)
  refine hm_bind ?_
  show hm P (loadCells ⟨bx, offx, none⟩ (m * sz)) H M _
  refine hm_loadCells hx hyl ?_
  rw [hy]
  refine hm_bind (hm_cst hz ?_)
  refine hm_bind (hm_newRow fun r hr => hm_pure ?_)
  have hsz2 : (Builtin.zeroCells z.cells (nc - (0 + m))).size = (nc - (0 + m)) * sz := by simp [Builtin.zeroCells, hzs]
  have := h r nc (#[] ++ ys.toArray ++ Builtin.zeroCells z.cells (nc - (0 + m))) hr (by omega) (by rw [Nat.zero_add] at hsz2; simp only [Array.size_append, List.size_toArray, hys, hsz2, List.length_nil, Nat.zero_add]; rw [← Nat.add_mul]; congr 1; omega) (by
    simp only [Array.toList_append]
    rw [List.nil_append]
    exact List.take_left' hys)
  simpa using this
/-- append(nothing, x...) -/
theorem st_app0 {t e sz bytes m c : Nat} {p q : Operand} {a b : Option Addr} {row2 : Nat → List Value} [sl : SL P t e sz bytes]
    (x : SelR As sz (.slice b m c) m row2) (hx1 : (flat m row2).all one = true) (hroom : (m + 512) * bytes ≤ 140737488355328 := by omega)
    (hp : ∀ j, ev (mk l j) p = .slice a 0 0 := by intro j; rfl) (hq : ∀ j, ev (mk l j) q = .slice b m c := by intro j; rfl) :
    StepL P ⟨dd, .call ⟨.builtin .append, #[p, q], #[t, t]⟩, t, pos, af, g⟩ l As (fun v Cs => ∃ a' cap', v = .slice a' m cap' ∧ Cs = SO e sz (.slice a' m cap') m row2 :: As) := .mk fun j Fs H M s => by
  rw [execOp_app, hp j, hq j]
  have hxr := (x.app Fs).rd s
  have hxl : ∀ i, i < m → (row2 i).length = sz := by obtain ⟨_, _, _, _, h1, _⟩ := hxr; exact h1
  refine hmc_of_hm (hm_bind ?_)
  rcases Nat.eq_zero_or_pos m with rfl | hm
  · refine hm_app0 (Nat.le_refl _) (hm_pure ⟨_, .inl rfl, _, ⟨a, 0, rfl, rfl⟩, ?_⟩)
    exact ⟨fun _ => none, M, (fun _ _ h => nomatch h), Le.refl _, fun _ => .inl rfl, .inr ⟨rfl, a, rfl⟩, s⟩
  · obtain ⟨base, cap2, e2, _, _, h3⟩ := hxr
    obtain ⟨bx, off, cx, tx, fx, rfl, kx, hs, hx⟩ := h3 hm
    cases e2
    refine hm_app_z (ys := flat m row2) hm kx hx hs (flat_len hxl) hroom fun r nc cs hr hnc h4 h5 => hm_pure ⟨_, .inl rfl, _, ⟨_, _, rfl, rfl⟩, star_monoL (C := SO e sz _ m row2) (fun H M h => .inl ?_) (own_new hr s)⟩
    exact ⟨hxl, hx1, .inr ⟨r, m, nc, cs, rfl, flat_len hxl, h4, hnc, h, by rw [flat_len hxl]; exact h5⟩, _, _, rfl⟩
/-- append(s, x...): s is one's own, or nothing -/
theorem st_appO {t e sz bytes m c : Nat} {p q : Operand} {a b : Option Addr} {len cap : Nat} {row row2 : Nat → List Value} [SL P t e sz bytes]
    (u : Sel (SO e sz (.slice a len cap) len row) As Bs) (x : SelR As sz (.slice b m c) m row2) (hx1 : (flat m row2).all one = true) (hroom : (len + m + 512) * bytes ≤ 140737488355328 := by omega)
    (hp : ∀ j, ev (mk l j) p = .slice a len cap := by intro j; rfl) (hq : ∀ j, ev (mk l j) q = .slice b m c := by intro j; rfl) :
    StepL P ⟨dd, .call ⟨.builtin .append, #[p, q], #[t, t]⟩, t, pos, af, g⟩ l As (fun v Cs => ∃ a' cap', v = .slice a' (len + m) cap' ∧ Cs = SO e sz (.slice a' (len + m) cap') (len + m) (rcat len row row2) :: Bs) := .mk fun j Fs H M s => by
  have hs := (u.app Fs).sat s
  obtain ⟨M1, M2, a1, a2, dj, hA, hB⟩ := hs
  rw [execOp_app, hp j, hq j]
  rcases hA with hA | ⟨rfl, a0, e0⟩
  · exact hmc_of_hm (hm_bind (hm_mono (sa_app ⟨M1, M2, a1, a2, dj, hA, hB⟩ ((x.app Fs).rd s) hx1 hroom) fun v H' M' ⟨a', cap', hv, hs⟩ => hm_pure ⟨v, .inl rfl, _, ⟨a', cap', hv, rfl⟩, star_monoL SO.of hs⟩))
  · cases e0
    have hB' := (Sat (Bs ++ Fs)).mono (Le.refl _) a2 hB
    have hxr := (x.app Fs).rd s
    have hxl : ∀ i, i < m → (row2 i).length = sz := by obtain ⟨_, _, _, _, h1, _⟩ := hxr; exact h1
    have hrc : rcat 0 row row2 = row2 := by funext i; simp [rcat]
    refine hmc_of_hm (hm_bind ?_)
    rw [hrc, Nat.zero_add]
    rcases Nat.eq_zero_or_pos m with rfl | hm
    · refine hm_app0 (Nat.le_refl _) (hm_pure ⟨_, .inl rfl, _, ⟨a, 0, rfl, rfl⟩, ?_⟩)
      exact ⟨fun _ => none, M, (fun _ _ h => nomatch h), Le.refl _, fun _ => .inl rfl, .inr ⟨rfl, a, rfl⟩, hB'⟩
    · obtain ⟨base, cap2, e2, _, _, h3⟩ := hxr
      obtain ⟨bx, off, cx, tx, fx, rfl, kx, hs, hx⟩ := h3 hm
      cases e2
      refine hm_app_z (ys := flat m row2) hm kx hx hs (flat_len hxl) (by rw [Nat.zero_add] at hroom; exact hroom) fun r nc cs hr hnc h4 h5 => hm_pure ⟨_, .inl rfl, _, ⟨_, _, rfl, rfl⟩, star_monoL (C := SO e sz _ m row2) (fun H M h => .inl ?_) (own_new hr hB')⟩
      exact ⟨hxl, hx1, .inr ⟨r, m, nc, cs, rfl, flat_len hxl, h4, hnc, h, by rw [flat_len hxl]; exact h5⟩, _, _, rfl⟩
/-! parts with three bounds -/
theorem qs_slc3 {H M : Heap} {d : Option Nat} {t : TypeId} {x : Operand} {lo : Option Operand} {hi mx : Operand} {e : Nat → Value} {a : Option Addr} {len cap el sz : Nat} (p q r : Nat) [sc : SC P t el] [hs : SZ P el sz]
    (hx : ev e x = .slice a len cap) (hlo : loB e lo p) (hhi : ∃ k, ev e hi = .int k q) (hmx : ∃ k, ev e mx = .int k r) (hl : p ≤ q) (hh : q ≤ r) (hr : r ≤ cap) :
    Qs P ⟨d, .slice t x lo (some hi) (some mx), oty, pos, af, g⟩ e H M (.slice (sladdr a sz p r) (q - p) (r - p)) := by
  refine qt_exec (s := Instr.sliceAt t (ev e x) (lo.map (ev e)) (some (ev e hi)) (some (ev e mx))) (by unfold execOp; rfl) fun w0 w _ => ?_
  refine cst_run _ ?_ w
  rw [hx]
  unfold Instr.sliceAt
  rw [cst_bind sc.h]
  dsimp only
  unfold Instr.slice
  rw [cst_bind sc.h]
  dsimp only
  obtain ⟨km, hmx⟩ := hmx
  obtain ⟨kh, hhi⟩ := hhi
  have hb : cst P (Instr.sliceBounds true len cap (lo.map (ev e)) (some (ev e hi)) (some (ev e mx))) = some (p, q, r) := by
    unfold Instr.sliceBounds
    dsimp only
    rw [cst_bind (cst_sliceBound hmx hr), cst_bind (cst_sliceBound hhi hh)]
    cases lo with
    | none => simp only [loB] at hlo; subst hlo; rfl
    | some z =>
      obtain ⟨k', hz⟩ := hlo
      simp only [Option.map_some]
      rw [cst_bind (cst_sliceBound hz hl)]; rfl
  rw [cst_bind hb]
  dsimp only
  rw [cst_bind hs.h]
  unfold sladdr
  by_cases hc : r = p
  · simp only [if_pos hc]; rfl
  · simp only [if_neg hc]; rfl
theorem lk_slc3 (p q r : Nat) {t : TypeId} {x : Operand} {lo : Option Operand} {hi mx : Operand} {a : Option Addr} {len cap el sz : Nat} [SC P t el] [SZ P el sz]
    (hl : p ≤ q) (hh : q ≤ r) (hr : r ≤ cap) (hx : ∀ j, ev (mk l j) x = .slice a len cap := by intro j; rfl) (hlo : ∀ j, loB (mk l j) lo p := by intro j; first | rfl | exact ⟨_, rfl⟩) (hhi : ∀ j, ∃ k, ev (mk l j) hi = .int k q := by intro j; exact ⟨_, rfl⟩) (hmx : ∀ j, ∃ k, ev (mk l j) mx = .int k r := by intro j; exact ⟨_, rfl⟩) :
    LookS P ⟨some d, .slice t x lo (some hi) (some mx), oty, pos, af, g⟩ l As (.slice (sladdr a sz p r) (q - p) (r - p)) := .mk fun j _ _ _ => qs_slc3 p q r (hx j) (hlo j) (hhi j) (hmx j) hl hh hr
end
end Go.Cam
/- Blocks of bytes; copies; arrays out of slices; bytes as a string; many assertions at once. -/
namespace Go.Cam
abbrev bcl (l : List Nat) : List Value := l.map fun (c : Nat) => .int .u8 (c : Int)
/-- bytes, as a slice's row -/
abbrev byR (l : List Nat) (i : Nat) : List Value := [.int .u8 ((l.getD i 0 : Nat) : Int)]
abbrev BS (v : Value) (l : List Nat) : HP := SA none 1 v l.length (byR l)
def Bys (l : List Nat) : Prop := ∀ c, c ∈ l → c < 256
theorem Bys.drop {l : List Nat} (h : Bys l) (n : Nat) : Bys (l.drop n) := fun c hc => h c (List.mem_of_mem_drop hc)
theorem Bys.take {l : List Nat} (h : Bys l) (n : Nat) : Bys (l.take n) := fun c hc => h c (List.mem_of_mem_take hc)
theorem Bys.app {l m : List Nat} (h : Bys l) (h2 : Bys m) : Bys (l ++ m) := fun c hc => (List.mem_append.1 hc).elim (h c) (h2 c)
theorem Bys.nil : Bys [] := fun c hc => (nomatch hc)
theorem Bys.zeros (n : Nat) : Bys (List.replicate n 0) := fun c hc => by rw [(List.mem_replicate.1 hc).2]; decide
theorem flat_byR' (l : List Nat) : flat l.length (byR l) = bcl l := by
  unfold flat
  apply List.ext_getElem?
  intro i
  have : ∀ (n : Nat) (f : Nat → Value), (List.range n).flatMap (fun i => [f i]) = (List.range n).map f := fun n f => by
    induction List.range n with
    | nil => rfl
    | cons x xs ih => rw [List.flatMap_cons, ih]; rfl
  show ((List.range l.length).flatMap fun i => [Value.int .u8 ((l.getD i 0 : Nat) : Int)])[i]? = _
  rw [this]
  by_cases h : i < l.length
  · simp [bcl, h, List.getD_eq_getElem?_getD]
  · simp [bcl, h]
/-- a block of bytes of one's own -/
abbrev BA (r ty : Nat) (l : List Nat) : HP := .own r (.cells (bcl l).toArray ty (0, 0))
theorem bcl_one (l : List Nat) : (bcl l).all one = true := by
  rw [List.all_eq_true]; intro u hu; obtain ⟨c, _, rfl⟩ := List.mem_map.1 hu; rfl
instance {l : List Nat} : Cel (.agg (bcl l).toArray) (bcl l) := ⟨rfl, bcl_one l⟩
theorem SA.full {e sz n : Nat} {a : Option Addr} {row : Nat → List Value} (h0 : 0 < n) {H M : Heap} (h : (SA (some e) sz (.slice a n n) n row).p H M) : ∃ r, a = some ⟨r, 0, none⟩ ∧ (HP.own r (.cells (flat n row).toArray e (0, 0))).p H M := by
  obtain ⟨h1, h2, hown, _⟩ := h
  rcases hown with ⟨h1, _⟩ | ⟨b, ln, cp, cs, e1, h3, h4, h5, h6, h7⟩
  · cases h1; omega
  · cases e1
    refine ⟨b, rfl, ?_⟩
    have : cs = (flat n row).toArray := by
      apply Array.ext'
      rw [← h7, List.take_of_length_le]
      simp [h3, h4]
    rw [← this]; exact h6
/-- bytes that are laid over others, from a place on -/
def over (l : List Nat) (off : Nat) (x : List Nat) : List Nat := l.take off ++ x ++ l.drop (off + x.length)
theorem over_len {l x : List Nat} {off : Nat} (h : off + x.length ≤ l.length) : (over l off x).length = l.length := by simp [over]; omega
theorem setL_list (l vs : List Value) (off : Nat) (h : off + vs.length ≤ l.length) : setL l.toArray off vs = (l.take off ++ vs ++ l.drop (off + vs.length)).toArray := by
  apply Array.ext_getElem?
  intro i
  by_cases hi : i < l.length
  · rw [setL_get _ _ _ _ (by simpa using hi)]
    simp only [List.getElem?_toArray]
    by_cases h1 : off ≤ i ∧ i < off + vs.length
    · rw [if_pos h1, List.getElem?_append_left (by simp; omega), List.getElem?_append_right (by simp; omega)]
      congr 1; simp; omega
    · rw [if_neg h1]
      by_cases h2 : i < off
      · rw [List.getElem?_append_left (by simp; omega), List.getElem?_append_left (by simp; omega), List.getElem?_take, if_pos h2]
      · rw [List.getElem?_append_right (by simp; omega), List.getElem?_drop]
        congr 1; simp; omega
  · rw [Array.getElem?_eq_none (by rw [setL_size]; simp; omega), Array.getElem?_eq_none (by simp; omega)]
theorem setL_bcl (l x : List Nat) (off : Nat) (h : off + x.length ≤ l.length) : setL (bcl l).toArray off (bcl x) = (bcl (over l off x)).toArray := by
  rw [setL_list _ _ _ (by simpa using h)]
  simp [over, bcl, List.map_take, List.map_drop]
section
variable {P : Program} {f : FuncId} {n : Nat} {R : Value → HP} {k : List It} {l : List (Nat × Value)} {As Bs : List HP} {all : Array Oper} {rest : List Oper} {d : Nat} {dd : Option Nat} {oty : TypeId} {pos : String} {af : Array Edge} {g : Option (Nat × Bool)}
theorem s_full {e sz m : Nat} {a : Option Addr} {row : Nat → List Value} (u : Sel (SA (some e) sz (.slice a m m) m row) As Bs) (h0 : 0 < m) (h : ∀ r, a = some ⟨r, 0, none⟩ → RunS P f n R k l (.own r (.cells (flat m row).toArray e (0, 0)) :: Bs)) : RunS P f n R k l As := .mk fun H M s => by
  obtain ⟨M1, M2, a1, a2, dj, hA, hB⟩ := u.sat s
  obtain ⟨r, h1, h2⟩ := SA.full h0 hA
  exact h r h1 H M ⟨M1, M2, a1, a2, dj, h2, hB⟩
/-- a part of a block of bytes may be only read from now on -/
theorem s_fzB (p q c : Nat) {r ty : Nat} {x : List Nat} (u : Sel (BA r ty x) As Bs) (hp : p ≤ q) (hq : q ≤ x.length) (hc : q - p ≤ c) (h : RunS P f n R k l (BS (.slice (some ⟨r, p, none⟩) (q - p) c) ((x.take q).drop p) :: Bs)) : RunS P f n R k l As := by
  have hl : ((x.take q).drop p).length = q - p := by simp; omega
  refine s_fzo (off := p) (m := q - p) (c := c) (sz := 1) (row := byR ((x.take q).drop p)) u (fun _ _ => rfl) hc (by simp; omega) ?_ ?_
  · rw [show flat (q - p) (byR ((x.take q).drop p)) = bcl ((x.take q).drop p) by rw [← hl]; exact flat_byR' _]
    apply Array.ext'
    rw [Array.toList_extract, List.extract_eq_take_drop]
    simp only [bcl, List.map_drop, List.map_take, Nat.mul_one, Nat.add_sub_cancel_left, List.drop_take]
  · have e1 : SA none 1 (.slice (some ⟨r, p, none⟩) (q - p) c) (q - p) (byR ((x.take q).drop p)) = BS (.slice (some ⟨r, p, none⟩) (q - p) c) ((x.take q).drop p) := by unfold BS; rw [hl]
    rw [e1]; exact h
/-- a whole block of bytes is loaded -/
theorem lk_ldB {t : TypeId} {x : Operand} {b m : Nat} {c : List Nat} {ty : TypeId} [hag : AG P t true] [hs : SZ P t m] (hl : c.length = m) (hx : ∀ j, ev (mk l j) x = .pointer (some ⟨b, 0, none⟩) := by intro j; rfl)
    (s : Sel (BA b ty c) As Bs := by repeat (first | with_reducible exact Sel.here | with_reducible apply Sel.there)) :
    LookS P ⟨some d, .load t x, oty, pos, af, g⟩ l As (.agg (bcl c).toArray) := .mk fun j _ _ q => qt_ldN rfl (hx j) hag.h hs.h (.inl (s.hold q)) (by simp [hl]) (extract_whole (by simp [hl]))
/-- a whole block of bytes is stored -/
theorem st_stB {t : TypeId} {x y : Operand} {b m : Nat} {c c' : List Nat} {ty : TypeId} {As' : List HP} [hs : SZ P t m] (h1 : c.length = m) (h2 : c'.length = m)
    (hx : ∀ j, ev (mk l j) x = .pointer (some ⟨b, 0, none⟩) := by intro j; rfl) (hy : ∀ j, ev (mk l j) y = .agg (bcl c').toArray := by intro j; rfl)
    (u : Upd (BA b ty c) (BA b ty c') As As' := by repeat (first | with_reducible exact Upd.here | with_reducible apply Upd.there)) :
    StepL P ⟨dd, .store t x y, oty, pos, af, g⟩ l As (fun _ Bs => Bs = As') := .mk fun j Fs H M q => by
  obtain ⟨Cs, s1, s2⟩ := (u.app Fs).sels
  obtain ⟨hb, hq⟩ := own_write (o' := .cells (bcl c').toArray ty (0, 0)) (s1.sat q)
  refine hmc_of_hm ?_
  show hm P (Instr.storeAt t (ev (mk l j) x) (ev (mk l j) y) >>= fun _ => pure Next.skip) H M _
  rw [hx j, hy j]
  refine hm_bind (hm_st hs.h hb (by simp [Value.cells, h2]) (by simp [h1]) (fun j _ _ h => by omega) (fun u hu => List.all_eq_true.1 (bcl_one c') u hu) (hm_pure ⟨undef, .inr ⟨rfl, rfl⟩, As', rfl, ?_⟩))
  have : setL (bcl c).toArray 0 (Value.agg (bcl c').toArray).cells.toList = (bcl c').toArray := by
    show setL _ 0 (bcl c') = _
    rw [setL_whole (by simp [h1, h2])]
  rw [this]; exact s2.back hq
/-- an array of bytes is made -/
theorem st_alB {t m : TypeId} [zv : ZV P t (.agg (List.replicate m (.int .u8 0)).toArray)] :
    StepL P ⟨dd, .alloc t, oty, pos, af, g⟩ l As (fun v Bs => ∃ r, v = .pointer (some ⟨r, 0, none⟩) ∧ Bs = BA r t (List.replicate m 0) :: As) := .mk fun j Fs H M s => by
  refine hmc_of_hm ?_
  show hm P (Instr.alloc t true (.tuple #[]) >>= fun v => pure (Next.value v)) H M _
  unfold Instr.alloc
  refine hm_bind (hm_bind (hm_cst zv.h ?_))
  have e : bcl (List.replicate m 0) = List.replicate m (.int .u8 0) := by simp [bcl]
  exact hm_bind (hm_newVar (c := List.replicate m (.int .u8 0)) rfl fun r hr => hm_pure (hm_pure ⟨_, .inl rfl, _, ⟨r, rfl, rfl⟩, by
    show (Sat (HP.own r (.cells (bcl (List.replicate m 0)).toArray t (0, 0)) :: (As ++ Fs))).p _ _
    rw [e]; exact own_new hr s⟩))
/-! copies -/
theorem execOp_copy (e : Nat → Value) {d : Option Nat} {pos : String} {af : Array Edge} {g : Option (Nat × Bool)} {t t2 : TypeId} {p q : Operand} : execOp (ev e) ⟨d, .call ⟨.builtin .copy, #[p, q], #[t, t2]⟩, oty, pos, af, g⟩ = (Builtin.copy_ #[t, t2] oty #[ev e p, ev e q] >>= fun v => pure (Next.value v)) := by
  show (resolve (ev e) ⟨.builtin .copy, #[p, q], #[t, t2]⟩ oty >>= fun d => invoke d.target d.args) = _
  have : #[p, q].map (ev e) = #[ev e p, ev e q] := by simp
  unfold resolve
  dsimp only
  rw [this]; rfl
theorem hm_copy {t t2 el sz b off n' c' m c : Nat} {u : Option Addr} {ty : TypeId} {cs : Array Value} {row : Nat → List Value} [sc : SC P t el] [hs : SZ P el sz] {H M : Heap} {K : Value → Heap → Heap → Prop} (hb : M b = some (.cells cs ty (0, 0))) (hr : SlK (Kn H M) sz (.slice u m c) m row) (h1 : (flat m row).all one = true)
    (hl : off + min m n' * sz ≤ cs.size) (hk : K (.int .i64 (min m n' : Nat)) H (upd M b (.cells (setL cs off (flat (min m n') row)) ty (0, 0)))) : hm P (Builtin.copy_ #[t, t2] oty #[.slice (some ⟨b, off, none⟩) n' c', .slice u m c]) H M K := by
  unfold Builtin.copy_
  simp only [List.getElem?_toArray, List.getElem?_cons_zero, List.getElem?_cons_succ]
  refine hm_bind (hm_cst sc.h ?_)
  dsimp only
  refine hm_bind (hm_cst (a := m) rfl ?_)
  refine hm_bind (hm_cst hs.h ?_)
  obtain ⟨base, cap, e, _, hrl, h3⟩ := hr
  cases e
  have hmin : Nat.min m n' = min m n' := rfl
  rw [hmin]
  generalize hm' : min m n' = m' at hl hk
  have hle : m' ≤ m := by omega
  have hfl : (flat m' row).length = m' * sz := flat_len fun i hi => hrl i (by omega)
  have hfin : ∀ (cells : Array Value), cells = (flat m' row).toArray → hm P (do storeCells ⟨b, off, none⟩ cells.toList; pure (goInt m')) H M K := fun cells hc => by
    subst hc
    refine hm_bind (hm_storeCells hb (by rw [hfl]; exact hl) ?_ (hm_pure hk))
    rw [List.all_eq_true] at *
    intro v hv
    refine h1 v ?_
    obtain ⟨i, hi, hv2⟩ := List.mem_flatMap.1 hv
    exact List.mem_flatMap.2 ⟨i, List.mem_range.2 (by have := List.mem_range.1 hi; omega), hv2⟩
  rcases Nat.eq_zero_or_pos m with h0 | h0
  · have : m' = 0 := by omega
    subst this
    have hc : cst P (Builtin.firstCells sz 0 (.slice u m c)) = some #[] := by
      cases u with
      | none => rfl
      | some a => show cst P (loadCells a (0 * sz)) = _; rw [Nat.zero_mul]; rfl
    exact hm_bind (hm_cst hc (hfin _ rfl))
  · obtain ⟨bx, ox, cx, tx, fx, rfl, kx, hsx, hx⟩ := h3 h0
    refine hm_bind ?_
    show hm P (loadCells ⟨bx, ox, none⟩ (m' * sz)) H M _
    have hle2 : m' * sz ≤ m * sz := Nat.mul_le_mul_right _ hle
    refine hm_loadCells kx (by omega) (hfin _ ?_)
    apply Array.ext'
    have := congrArg Array.toList hx
    rw [Array.toList_extract, List.extract_eq_take_drop, Nat.add_sub_cancel_left] at this ⊢
    dsimp only at this ⊢
    have e2 := congrArg (List.take (m' * sz)) this
    rw [List.take_take, Nat.min_eq_left hle2] at e2
    rw [e2]
    obtain ⟨w, rfl⟩ : ∃ w, m = m' + w := ⟨m - m', by omega⟩
    rw [flat_add, List.take_left' hfl]
/-- copy into a block of bytes -/
theorem st_cpB {t t2 el : TypeId} {x y : Operand} {b off n' c' m c : Nat} {u : Option Addr} {ty : TypeId} {o s : List Nat} {As' : List HP} [sc : SC P t el] [hs : SZ P el 1]
    (up : Upd (BA b ty o) (BA b ty (over o off (s.take n'))) As As') (hr : SelR As 1 (.slice u m c) m (byR s)) (hm : s.length = m) (hl : off + min m n' ≤ o.length)
    (hx : ∀ j, ev (mk l j) x = .slice (some ⟨b, off, none⟩) n' c' := by intro j; rfl) (hy : ∀ j, ev (mk l j) y = .slice u m c := by intro j; rfl) :
    StepL P ⟨dd, .call ⟨.builtin .copy, #[x, y], #[t, t2]⟩, oty, pos, af, g⟩ l As (fun v Bs => v = .int .i64 (min m n' : Nat) ∧ Bs = As') := .mk fun j Fs H M q => by
  rw [execOp_copy, hx j, hy j]
  obtain ⟨Cs, s1, s2⟩ := (up.app Fs).sels
  obtain ⟨hb, hq⟩ := own_write (o' := .cells (bcl (over o off (s.take n'))).toArray ty (0, 0)) (s1.sat q)
  subst hm
  refine hmc_of_hm (hm_bind (hm_copy hb ((hr.app Fs).rd q) (by rw [flat_byR']; exact bcl_one s) (by simp; omega) (hm_pure ⟨_, .inl rfl, _, ⟨rfl, rfl⟩, ?_⟩)))
  have e1 : flat (min s.length n') (byR s) = bcl (s.take n') := by
    have h1 : (s.take n').length = min s.length n' := by simp; omega
    rw [← flat_byR', h1]
    refine flat_congr fun i hi => ?_
    have : i < n' := by omega
    simp [byR, List.getD_eq_getElem?_getD, List.getElem?_take, this]
  rw [e1, setL_bcl _ _ _ (by simp; omega)]
  exact s2.back hq
/-! arrays out of slices -/
theorem lk_sap {arr m el nn c : Nat} {x : Operand} {a : Option Addr} [ar : AR P arr m el] (hn : m ≤ nn) (hx : ∀ j, ev (mk l j) x = .slice a nn c := by intro j; rfl) :
    LookS P ⟨some d, .sliceToArrayPointer arr x, oty, pos, af, g⟩ l As (.pointer a) := .mk fun j H M _ => by
  refine qt_exec (s := Instr.arrayAt arr (ev (mk l j) x)) (by unfold execOp; rfl) fun w0 w _ => ?_
  rw [hx j]
  refine cst_run _ ?_ w
  unfold Instr.arrayAt
  rw [cst_bind ar.h]
  dsimp only
  rw [if_neg (by omega)]; rfl
/-- an array of bytes is loaded at a slice's address -/
theorem lk_lds {t m nn c : Nat} {x : Operand} {a : Option Addr} {s : List Nat} [hag : AG P t true] [hs : SZ P t m] (hr : SelR As 1 (.slice a nn c) nn (byR s)) (hl : s.length = m) (hn : nn = m) (h0 : 0 < m) (hx : ∀ j, ev (mk l j) x = .pointer a := by intro j; rfl) :
    LookS P ⟨some d, .load t x, oty, pos, af, g⟩ l As (.agg (bcl s).toArray) := .mk fun j H M q => by
  obtain ⟨base, cap, e, _, _, h3⟩ := hr.rd q
  cases e
  subst hn
  obtain ⟨bx, ox, cx, tx, fx, rfl, kx, hsx, hxx⟩ := h3 h0
  refine qt_ldN rfl (hx j) hag.h hs.h kx (by omega) ?_
  rw [Nat.mul_one] at hxx
  rw [hxx, ← hl, flat_byR']
/-- an array that is written out -/
theorem lk_bda {t m el sz : Nat} {ps : List (Nat × Operand)} {z : Array Value} (cells : Array Value) [ar : AR P t m el] [hs : SZ P el sz] [zv : ZV P t (.agg z)] (hf : ∀ j, fillG (fun i => some (i * sz, sz)) z (ps.map fun x => (x.1, ev (mk l j) x.2)) = some cells := by intro j; rfl) :
    LookS P ⟨some d, .build t ps.toArray, oty, pos, af, g⟩ l As (.agg cells) := .mk fun j _ _ _ => by
  refine qt_cst ?_
  show cst P (Instr.build t (ps.toArray.map fun x => (x.1, ev (mk l j) x.2)) >>= fun v => pure (Next.value v)) = _
  have : cst P (Instr.build t (ps.map fun x => (x.1, ev (mk l j) x.2)).toArray) = some (.agg cells) := by
    unfold Instr.build
    rw [cst_bind zv.h, cst_bind ar.h]
    dsimp only
    rw [cst_bind hs.h]
    show cst P (match Instr.fill (fun i => some (i * sz, sz)) z _ with | some cells => _ | _ => _) = _
    rw [fillG_eq, hf j]; rfl
  rw [List.map_toArray, cst_bind this]
  rfl
/-! bytes as a string -/
def strB (l : List Nat) : ByteArray := ⟨(l.map UInt8.ofNat).toArray⟩
theorem strB_inj {a b : List Nat} (ha : Bys a) (hb : Bys b) (h : strB a = strB b) : a = b := by
  have h1 : a.map UInt8.ofNat = b.map UInt8.ofNat := by
    have := congrArg (fun x => x.data.toList) h
    simpa [strB] using this
  have key : ∀ {a b : List Nat}, Bys a → Bys b → a.map UInt8.ofNat = b.map UInt8.ofNat → a = b := by
    intro a
    induction a with
    | nil => intro b _ _ h; cases b with
      | nil => rfl
      | cons => cases h
    | cons x a ih =>
      intro b ha hb h
      cases b with
      | nil => cases h
      | cons y b =>
        rw [List.map_cons, List.map_cons, List.cons.injEq] at h
        have h2 := congrArg UInt8.toNat h.1
        have hx := ha x (List.mem_cons_self ..)
        have hy := hb y (List.mem_cons_self ..)
        simp at h2
        rw [Nat.mod_eq_of_lt (by omega), Nat.mod_eq_of_lt (by omega)] at h2
        rw [h2, ih (fun c hc => ha c (List.mem_cons_of_mem _ hc)) (fun c hc => hb c (List.mem_cons_of_mem _ hc)) h.2]
  exact key ha hb h1
/-! many at once -/
theorem Sat.perm {As Bs : List HP} (h : As.Perm Bs) : ∀ {H M : Heap}, (Sat As).p H M → (Sat Bs).p H M := by
  induction h with
  | nil => exact fun h => h
  | cons x _ ih => exact fun h => star_mono (fun _ _ => ih) h
  | swap x y l => exact fun h => star_swap h
  | trans _ _ ih1 ih2 => exact fun h => ih2 (ih1 h)
def All (ks : List Int) (F : Int → HP) : HP := Sat (ks.map F)
theorem All.perm {ks ks' : List Int} {F : Int → HP} (h : ks.Perm ks') (H M : Heap) (q : (All ks F).p H M) : (All ks' F).p H M := Sat.perm (h.map F) q
theorem All.cons {k : Int} {ks : List Int} {F : Int → HP} (H M : Heap) (q : (All (k :: ks) F).p H M) : ((F k).star (All ks F)).p H M := q
theorem All.snoc {k : Int} {ks : List Int} {F : Int → HP} (H M : Heap) (q : ((F k).star (All ks F)).p H M) : (All (k :: ks) F).p H M := q
theorem All.cg {F G : Int → HP} : ∀ {ks : List Int}, (∀ k ∈ ks, ∀ H M, (F k).p H M → (G k).p H M) → ∀ H M, (All ks F).p H M → (All ks G).p H M
  | [], _, _, _, q => q
  | k :: ks, h, H, M, q => star_monoL (h k (List.mem_cons_self ..)) (star_mono (fun H M q => All.cg (ks := ks) (fun k hk => h k (List.mem_cons_of_mem _ hk)) H M q) q)
theorem All.take {k : Int} {ks : List Int} {F : Int → HP} (hk : k ∈ ks) (H M : Heap) (q : (All ks F).p H M) : ((F k).star (All (ks.erase k) F)).p H M := All.perm (List.perm_cons_erase hk) H M q
end
end Go.Cam
