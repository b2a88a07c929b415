/- Regions that draw, step by step: what may be taken first, and what alone may come up. -/
import Derived.Test.YtgbbcpfnmkeijaaGreatCamN
import Derived.OrdersHeld
import Derived.Deep.Slices
namespace Go.Cam
/-- the steps of a walk: (true, i): operation i may be taken first; (false, i): it alone may come up -/
def stepsB (os : Array Oper) : List (Bool × Nat) → Array Bool → Bool
  | [], listed => (Region.ready .any os listed).isEmpty
  | (true, i) :: r, listed => (Region.ready .any os listed).contains i && Region.free .any os listed i && Nat.blt i os.size && stepsB os r (listed.setIfInBounds i true)
  | (false, i) :: r, listed => Region.ready .any os listed == [i] && Nat.blt i os.size && stepsB os r (listed.setIfInBounds i true)
def Keeps (Ms M : Heap) : Prop := ∀ b o, Ms b = some o → M b = some o
theorem Keeps.nil (M : Heap) : Keeps nil M := fun _ _ h => (nomatch h)
theorem Keeps.refl (M : Heap) : Keeps M M := fun _ _ h => h
theorem Keeps.new {Ms M M' : Heap} {r : Nat} (h : Keeps Ms M) (k : New M r M') : Keeps Ms M' := fun b o hb => (k b o (h b o hb)).1
theorem Keeps.one {M : Heap} {b : Nat} {o : Obj} (h : M b = some o) : Keeps (upd Cam.nil b o) M := fun c o' hc => by
  by_cases e : c = b
  · subst e; rw [upd_same] at hc; cases hc; exact h
  · rw [upd_ne e] at hc; cases hc
def OW (P : Program) (n : Nat) (os : List Oper) (H Ms : Heap) (steps : List (Bool × Nat)) (l : List (Nat × Value)) (M : Heap) (K : List (Nat × Value) → Heap → Prop) : Prop :=
  ∀ j w0 w a listed, Region.noSelect os.toArray = true → stepsB os.toArray steps listed = true → Has w0 w H M → Agr n a (mk l j) →
    wpAnyH P .any os.toArray (fun e a' w' => e = .normal ∧ ∃ l' M', Agr n a' (mk l' j) ∧ Has w0 w' H M' ∧ K l' M') (fun w => Has w0 w H Ms) steps.length listed a w
theorem Has.keeps {w0 w : World} {H M Ms : Heap} (h : Has w0 w H M) (k : Keeps Ms M) : Has w0 w H Ms := Sub.less k _ _ h
section
variable {P : Program} {n : Nat} {os : List Oper} {H Ms M : Heap} {l l2 : List (Nat × Value)} {steps : List (Bool × Nat)} {K : List (Nat × Value) → Heap → Prop}
theorem ow_done (h : K l M) : OW P n os H Ms [] l M K := by
  intro j w0 w a listed _ hb hh ha
  exact ⟨by simpa [stepsB] using hb, rfl, l, M, ha, hh, h⟩
theorem ow_takes (hk : Keeps Ms M) : ∀ (p : List Nat) (l : List (Nat × Value)), QL P n os.toArray H Ms (pick os p) l l2 → OW P n os H Ms steps l2 M K → OW P n os H Ms (p.map (fun i => (true, i)) ++ steps) l M K
  | [], l, hq, h => by cases hq; exact h
  | i :: r, l, hq, h => by
    intro j w0 w a listed hs hb hh ha
    simp only [List.map_cons, List.cons_append, stepsB, Bool.and_eq_true] at hb
    obtain ⟨⟨⟨hr, hf⟩, hi⟩, hb⟩ := hb
    have hlt : i < os.length := by simpa using hi
    have ho : os[i]? = some os[i] := List.getElem?_eq_getElem hlt
    rw [show pick os (i :: r) = os[i] :: pick os r by simp [pick, ho]] at hq
    cases hq with
    | yes v hd hw hqs hq =>
      refine wpAnyH_take (oi := os[i]) (v := v) (by simp [hlt]) hs hf hr (fun c a w h => absurd h.1 (by simp)) (.inl ⟨by rw [wantE_ok ha, hw j], fun w hw => ?_⟩) (hh.keeps hk) ?_
      · rw [ha.eval]; exact hqs j w0 w hw
      · exact ow_takes hk r _ hq h j w0 w _ _ hs hb hh (by rw [← putl_ok]; exact ha.put _ _ (din_ok hd))
    | no hd hw hq =>
      refine wpAnyH_take (oi := os[i]) (v := undef) (by simp [hlt]) hs hf hr (fun c a w h => absurd h.1 (by simp)) (.inr ⟨by rw [wantE_ok ha, hw j], rfl⟩) (hh.keeps hk) ?_
      exact ow_takes hk r _ hq h j w0 w _ _ hs hb hh (by rw [← putl_ok]; exact ha.put _ _ (din_ok hd))
theorem ow_only (i : Nat) (h : TL P n os.toArray (pick os [i]) l H M fun l' H' M' => H' = H ∧ Keeps Ms M' ∧ OW P n os H Ms steps l' M' K) : OW P n os H Ms ((false, i) :: steps) l M K := by
  intro j w0 w a listed hs hb hh ha
  simp only [stepsB, Bool.and_eq_true, beq_iff_eq] at hb
  obtain ⟨⟨hr, hi⟩, hb⟩ := hb
  have hlt : i < os.length := by simpa using hi
  have ho : os[i]? = some os[i] := List.getElem?_eq_getElem hlt
  rw [show pick os [i] = [os[i]] by simp [pick, ho]] at h
  have h1 := h j w0 w a hh ha
  refine wpAnyH_all hr (by simp) fun i' hi' => ?_
  rw [List.mem_singleton.1 hi']
  unfold wpList at h1
  unfold wpOp
  rw [show os.toArray[i]? = some os[i] by simp [hlt]]
  dsimp only
  have next : ∀ a' w', wpList P os.toArray (fun e a' w' => e = .normal ∧ ∃ l' H' M', Agr n a' (mk l' j) ∧ Has w0 w' H' M' ∧ H' = H ∧ Keeps Ms M' ∧ OW P n os H Ms steps l' M' K) [] a' w' →
      Has w0 w' H Ms ∧ wpAnyH P .any os.toArray (fun e a' w' => e = .normal ∧ ∃ l' M', Agr n a' (mk l' j) ∧ Has w0 w' H M' ∧ K l' M') (fun w => Has w0 w H Ms) steps.length (listed.setIfInBounds i true) a' w' := by
    intro a' w' hw
    obtain ⟨_, l', H', M', ha', hh', rfl, hk, how⟩ := hw
    exact ⟨hh'.keeps hk, how j w0 w' a' _ hs hb hh' ha'⟩
  by_cases hw : Region.wanted os[i] (yielded os.toArray a.tmps) = true
  · rw [if_pos hw] at h1 ⊢
    rcases h1 with h1 | h1
    · refine .inl ?_
      have h2 := Oper.wp_mono next h1
      unfold Oper.wp at h2 ⊢
      generalize (execOp a.eval os[i]).run P w = res at *
      cases res with
      | ok nx w1 =>
        cases nx <;> simp only [Oper.upon] at h2 ⊢ <;>
          first
            | exact h2
            | (refine Calls.mono h2 fun e w'' he => ?_
               cases e with
               | returned v => exact he
               | panicked c => exact absurd he.1 (by simp)
               | outgrown => obtain ⟨_, _, hx⟩ := he; cases hx.1)
      | halt x w1 => cases x <;> simp only [Oper.upon] at h2 ⊢ <;> first | exact h2 | exact absurd h2.1 (by simp)
    · obtain ⟨_, _, _, hx⟩ := h1; cases hx.1
  · rw [if_neg hw] at h1 ⊢
    exact next _ _ h1
end
section
variable {P : Program} {f : FuncId} {n : Nat} {R : Post} {k : List It} {l : List (Nat × Value)} {H M : Heap}
theorem run_steps {id : Nat} {ops : List Oper} (Ms : Heap) (steps : List (Bool × Nat)) (hmx : P.follows .mixedOrders = true) (hs : Region.noSelect ops.toArray = true) (hn : Nat.beq steps.length ops.length = true) (hB : stepsB ops.toArray steps (Array.replicate ops.length false) = true)
    (h : OW P n ops H Ms steps l M (fun l' M' => Run P f n R k l' H M')) : Run P f n R (.code (.region id ops.toArray true) :: k) l H M := by
  intro j w0 w a b cs k' hk hh ha hf hn'
  replace hn := Nat.eq_of_beq_eq_true hn
  cases hk with
  | @code _ _ k1 hk =>
    have h1 := wp_region_held (P := P) (id := id) (ops := ops.toArray) (Q := fun e a' w' => e = .normal ∧ ∃ l' M', Agr n a' (mk l' j) ∧ Has w0 w' H M' ∧ Run P f n R k l' H M') (S := fun w => Has w0 w H Ms) (a := a) (w := w) hmx (by
      have := h j w0 _ a _ hs hB hh.drew ha
      rw [hn] at this
      simpa using this)
    obtain ⟨e, a', w1, ⟨rfl, l', M', ha', hw1, hgo⟩, harr⟩ := h1 b k1 cs
    obtain ⟨v, w', fr, hst, r⟩ := hgo j w0 w1 a' b cs k1 hk hw1 ha' hf hn'
    exact ⟨v, w', fr, Steps.trans harr hst, r⟩
theorem tl_call {all : Array Oper} {rest : List Oper} {K : List (Nat × Value) → Heap → Heap → Prop} {d : Nat} {op : Op} {ty : TypeId} {pos : String} {af : Array Edge} {g : Option (Nat × Bool)} {q : FuncId} {args : Array Value} {R' : Post} (hd : Nat.blt d n = true) (hw : ∀ j, wantE ⟨some d, op, ty, pos, af, g⟩ all (mk l j) = true)
    (hx : ∀ j, cst P (execOp (ev (mk l j)) ⟨some d, op, ty, pos, af, g⟩) = some (.enter q args)) (hc : ACalls P q args H M R')
    (h : ∀ v H' M', R' v H' M' → TL P n all rest ((d, v) :: l) H' M' K) : TL P n all (⟨some d, op, ty, pos, af, g⟩ :: rest) l H M K := by
  intro j w0 w a hh ha
  unfold wpList
  rw [wantE_ok ha, hw j, if_pos rfl]
  refine .inl ?_
  unfold Oper.wp
  rw [ha.eval, cst_run _ (hx j) w]
  refine Calls.mono (hc w0 w hh) fun e w2 ⟨v, H', M', he, h2, hr⟩ => ?_
  subst he
  exact h v H' M' hr j w0 w2 _ h2 (ha.put (some d) v (din_ok (by exact hd)))
end
/-- what is still to be done, proved once for all ways that come there -/
theorem run_join {P : Program} {f : FuncId} {n : Nat} {R : Post} {k k' : List It} {l : List (Nat × Value)} {H M : Heap} {α : Type} (L : α → List (Nat × Value)) (Pre : α → Heap → Heap → Prop) (K : ∀ a H M, Pre a H M → Run P f n R k (L a) H M)
    (h : (∀ a H M, Pre a H M → Run P f n R k (L a) H M) → Run P f n R k' l H M) : Run P f n R k' l H M := h K
end Go.Cam
/- Arrays that begin zero; numbers that were handed in. -/
namespace Go.Cam
class ZA (P : Program) (t : Nat) (cells : outParam (Array Value)) : Prop where
  h : ∃ v, cst P (zeroValue t) = some v ∧ v.cells = cells
section
variable {P : Program} {f : FuncId} {n : Nat} {R : Post} {k : List It} {l : List (Nat × Value)} {H M : Heap} {all : Array Oper} {rest : List Oper}
theorem qs_bda {t m e sz : Nat} {cells : Array Value} {d : Option Nat} {oty : TypeId} {pos : String} {af : Array Edge} {g : Option (Nat × Bool)} {en : Nat → Value} [ar : AR P t m e] [s : SZ P e sz] [za : ZA P t cells] : Qs P ⟨d, .build t #[], oty, pos, af, g⟩ en H M (.agg cells) := by
  obtain ⟨v, hz, rfl⟩ := za.h
  refine qt_exec (s := Instr.build t ((#[] : Array (Nat × Operand)).map fun x => (x.1, ev en x.2))) (by unfold execOp; rfl) fun w0 w _ => ?_
  refine cst_run _ ?_ w
  rw [Array.map_empty]
  unfold Instr.build
  rw [cst_bind hz, cst_bind ar.h]
  dsimp only
  rw [cst_bind s.h]
  rfl
theorem run_bda {d : Nat} {oty : TypeId} {pos : String} {af : Array Edge} {g : Option (Nat × Bool)} {t m e sz : Nat} {cells : Array Value} [AR P t m e] [SZ P e sz] [ZA P t cells] (hd : Nat.blt d n = true) (hw : ∀ j, wantE ⟨some d, .build t #[], oty, pos, af, g⟩ all (mk l j) = true)
    (h : Run P f n R (.ops all rest :: k) ((d, .agg cells) :: l) H M) : Run P f n R (.ops all (⟨some d, .build t #[], oty, pos, af, g⟩ :: rest) :: k) l H M :=
  run_qt _ (by exact hd) hw (fun j => (qs_bda (e := e) (sz := sz)).qt) h
end
/-- a row of numbers that is only read -/
def Ints (H : Heap) (v : Value) (xs : List Int) : Prop := ∃ base cap, v = .slice base xs.length cap ∧ (∀ i (h : i < xs.length), ∃ b off c ty fr, base = some ⟨b, off, none⟩ ∧ H b = some (.cells c ty fr) ∧ c[off + i]? = some (.int .i64 xs[i])) ∧
  ∀ x, x ∈ xs → -9223372036854775808 ≤ x ∧ x < 9223372036854775808
theorem Mn.nil {M0 M M' : Heap} {bs : List Nat} {e sz r : Nat} (hr : M' r = some (.cells #[] e (0, 0))) (hk : New M r M') (hch : Ch bs M0 M) (hb : ∀ c, c ∈ bs → ∃ o, M c = some o) : Mn M0 bs e sz M' (.slice (some ⟨r, 0, none⟩) 0 0) [] := by
  refine ⟨own_nil hr, fun c hc => ?_⟩
  simp only [ob, Option.some.injEq] at hc
  subst hc
  have hnb : r ∉ bs := fun e => by obtain ⟨o, ho⟩ := hb r e; exact (hk _ _ ho).2 rfl
  exact ⟨hnb, hk.none hch hnb⟩
end Go.Cam
/- What was handed in, as flat rows of cells: slices of structs. -/
namespace Go.Cam
open Go.ChangeShapes Go.WideShapes Go.Deep
inductive Kd where
  | int (k : IntKind)
  | str
  | bool
def Kd.fits : Kd → Value → Prop
  | .int k, v => ∃ n, v = .int k n ∧ (Lit.int k n).wf = true
  | .str, v => ∃ s : ByteArray, v = .string s ∧ s.size ≤ maxLen
  | .bool, v => ∃ b, v = .bool b
def Fit : List Kd → List Value → Prop
  | [], [] => True
  | k :: ks, v :: vs => k.fits v ∧ Fit ks vs
  | _, _ => False
theorem Fit.append : ∀ {a b : List Kd} {x y : List Value}, Fit a x → Fit b y → Fit (a ++ b) (x ++ y)
  | [], _, [], _, _, h => h
  | _ :: _, _, _ :: _, _, h1, h2 => ⟨h1.1, h1.2.append h2⟩
  | [], _, _ :: _, _, h, _ => h.elim
  | _ :: _, _, [], _, h, _ => h.elim
theorem Fit.len : ∀ {a : List Kd} {x : List Value}, Fit a x → x.length = a.length
  | [], [], _ => rfl
  | _ :: _, _ :: _, h => by simp [h.2.len]
  | [], _ :: _, h => h.elim
  | _ :: _, [], h => h.elim
/-- a type's leaves, in the order of its cells -/
def flatF (P : Program) (rec : TypeId → Option (List Kd)) : List Field → Nat → Option (List Kd)
  | [], _ => some []
  | f :: r, off => if f.offset = off then (rec f.type).bind fun ks => if ks.length = P.cellsOf f.type then (flatF P rec r (off + P.cellsOf f.type)).map fun ks' => ks ++ ks' else none else none
def flatK (P : Program) : Nat → TypeId → Option (List Kd)
  | 0, _ => none
  | d + 1, t => match P.underlying t with
    | some (.int k) => some [.int k]
    | some .string => some [.str]
    | some .bool => some [.bool]
    | some (.struct fs) => (flatF P (flatK P d) fs.toList 0).bind fun ks => if ks.length = P.cellsOf t then some ks else none
    | _ => none
section
variable {H : Type} {enc : TypeId × Value → H} {P : Program} {w : World} {base : Nat} {spare : Nat → Bool} {held : Bool}
theorem flatF_fit {d : Nat} {n : Nat} {cs : List Value} (ih : ∀ t cs x ks, DataW.trod enc P w base spare held n t cs = some x → flatK P d t = some ks → Fit ks cs) :
    ∀ (fs : List Field) (off : Nat) (ks : List Kd), (∀ f, f ∈ fs → ∃ x, DataW.trod enc P w base spare held n f.type ((cs.drop f.offset).take (P.cellsOf f.type)) = some x) → flatF P (flatK P d) fs off = some ks → Fit ks ((cs.drop off).take ks.length)
  | [], off, ks, _, h => by
    simp only [flatF, Option.some.injEq] at h
    subst h; simp [Fit]
  | f :: r, off, ks, hf, h => by
    unfold flatF at h
    split at h
    · rename_i ho
      subst ho
      obtain ⟨k1, h1, h2⟩ := Option.bind_eq_some_iff.1 h
      split at h2
      · rename_i hl
        obtain ⟨k2, h3, rfl⟩ := Option.map_eq_some_iff.1 h2
        obtain ⟨x, hx⟩ := hf f (by simp)
        have a := ih _ _ _ _ hx h1
        have b := flatF_fit ih r _ k2 (fun g hg => hf g (by simp [hg])) h3
        have hsplit : (cs.drop f.offset).take (k1 ++ k2).length = (cs.drop f.offset).take (P.cellsOf f.type) ++ (cs.drop (f.offset + P.cellsOf f.type)).take k2.length := by
          rw [List.length_append, hl, List.take_add, List.drop_drop]
        rw [hsplit]
        exact a.append b
      · cases h2
    · cases h
theorem flatK_fit : ∀ (d : Nat) (n : Nat) (t : TypeId) (cs : List Value) (x : DataW H × List MemPlace) (ks : List Kd), DataW.trod enc P w base spare held n t cs = some x → flatK P d t = some ks → Fit ks cs
  | 0, _, _, _, _, _, _, h => by simp [flatK] at h
  | d + 1, n, t, cs, x, ks, ht, h => by
    unfold flatK at h
    split at h
    · rename_i k hu
      cases h
      obtain ⟨v, rfl, _, hw⟩ := DataW.trod_int hu ht
      exact ⟨⟨v, rfl, hw⟩, trivial⟩
    · rename_i hu
      cases h
      obtain ⟨v, rfl, _, hw⟩ := DataW.trod_string hu ht
      exact ⟨⟨v, rfl, hw⟩, trivial⟩
    · rename_i hu
      cases h
      obtain ⟨v, rfl, _⟩ := DataW.trod_bool hu ht
      exact ⟨⟨v, rfl⟩, trivial⟩
    · rename_i fs hu
      obtain ⟨k1, h1, h2⟩ := Option.bind_eq_some_iff.1 h
      split at h2
      · rename_i hl
        cases h2
        obtain ⟨xs, m, rfl, _, hlen, hxl, hf⟩ := DataW.trod_struct hu ht
        have := flatF_fit (cs := cs) (fun t cs x ks a b => flatK_fit d m t cs x ks a b) fs.toList 0 ks (fun f hfm => by
          obtain ⟨i, hi, rfl⟩ := List.getElem_of_mem hfm
          have hi' : i < fs.size := by simpa using hi
          have := hf i fs[i] (by simp [hi'])
          refine ⟨xs[i]'(by omega), ?_⟩
          rw [show fs.toList[i] = fs[i] by simp]
          rw [this]; exact List.getElem?_eq_getElem (by omega)) h1
        rw [List.drop_zero, hl, ← hlen, List.take_of_length_le (Nat.le_refl _)] at this
        exact this
      · cases h2
    · cases h
/-- a slice of structs, each a flat row of cells that are only read -/
def Rows (H0 : Heap) (v : Value) (sz len : Nat) (row : Nat → List Value) : Prop :=
  ∃ base cap, v = .slice base len cap ∧ ∀ i, i < len → ∃ b off c ty fr, base = some ⟨b, off, none⟩ ∧ H0 b = some (.cells c ty fr) ∧ off + i * sz + sz ≤ c.size ∧ c.extract (off + i * sz) (off + i * sz + sz) = (row i).toArray
theorem cell_in {W : World} {b o : Nat} {v : Value} (h : W.cell? ⟨b, o, none⟩ = some v) : ∃ c ty fr, W.heap[b]? = some (.cells c ty fr) ∧ c[o]? = some v := by
  unfold World.cell? at h
  split at h
  · rename_i c ty fr hb
    exact ⟨c, ty, fr, hb, by simpa using h⟩
  · cases h
theorem rows_of {t e : TypeId} {sz : Nat} {ks : List Kd} {v : Value} {x : DataW H} {ps : List MemPlace} (ht : P.underlying t = some (.slice e)) (hsz : P.cellsOf e = sz) (h0 : 0 < sz) (d : Nat) (hk : flatK P d e = some ks)
    (hv : ∃ a len cap, v = .slice a len cap) (h : DataW.Trod enc P w base (fun _ => true) held t v x ps) : ∃ len row, Rows (fun b => w.heap[b]?) v sz len row ∧ ∀ i, i < len → Fit ks (row i) := by
  obtain ⟨fuel, hf⟩ := h
  obtain ⟨a0, len0, cap0, rfl⟩ := hv
  rcases open_slice ht hf with ⟨hcs, hx⟩ | ⟨a, len, cap, m, n, D, Pl, hcs, _, hl, hm, hmm, hx, hi⟩
  · simp [Value.cells] at hcs
    obtain ⟨rfl, rfl, rfl⟩ := hcs
    exact ⟨0, fun _ => [], ⟨none, 0, rfl, fun i hi => by omega⟩, fun i hi => by omega⟩
  · simp [Value.cells] at hcs
    obtain ⟨rfl, rfl, rfl⟩ := hcs
    simp only [if_true] at hmm
    subst hmm
    rw [hsz] at hi
    have hch : ∀ i, ∃ cs', i < m → w.cells? base (a.add (i * sz)) sz = some cs' ∧ DataW.trod enc P w base (fun _ => true) held n e cs' = some (D i, Pl i) := fun i => by
      by_cases c : i < m
      · obtain ⟨cs', h1⟩ := hi i c; exact ⟨cs', fun _ => h1⟩
      · exact ⟨[], fun h => absurd h c⟩
    refine ⟨len0, fun i => (hch i).choose, ⟨some a, m, rfl, fun i hil => ?_⟩, fun i hil => ?_⟩
    · obtain ⟨h1, h2⟩ := (hch i).choose_spec (by omega)
      dsimp only
      generalize (hch i).choose = cs' at *
      obtain ⟨_, hlen, hat⟩ := World.cells?_some h1
      obtain ⟨cs0, hz1, _⟩ := hi 0 (by omega)
      obtain ⟨_, hlen0, hat0⟩ := World.cells?_some hz1
      have hfirst := hat0 0 h0
      rw [List.getElem?_eq_getElem (by omega)] at hfirst
      obtain ⟨b, off, spot⟩ := a
      have hspot : spot = none := by
        have := World.cell?_spot hfirst
        simpa [Addr.add] using this
      subst hspot
      have hat' : ∀ q, q < sz → w.cell? ⟨b, off + i * sz + q, none⟩ = cs'[q]? := fun q hq => by
        have := hat q hq
        rwa [addr_add, addr_add] at this
      have hf0 := hat' 0 h0
      rw [List.getElem?_eq_getElem (by omega)] at hf0
      obtain ⟨c, ty, fr, hb, _⟩ := cell_in hf0
      have hall : ∀ q, q < sz → c[off + i * sz + q]? = cs'[q]? := fun q hq => by
        have h3 := hat' q hq
        rw [List.getElem?_eq_getElem (by omega)] at h3 ⊢
        obtain ⟨c', ty', fr', hb', hc'⟩ := cell_in h3
        rw [hb] at hb'; cases hb'; exact hc'
      have hsize : off + i * sz + sz ≤ c.size := by
        have := hall (sz - 1) (by omega)
        rw [List.getElem?_eq_getElem (by omega)] at this
        have := (Array.getElem?_eq_some_iff.1 this).1
        omega
      refine ⟨b, off, c, ty, fr, rfl, hb, hsize, ?_⟩
      apply Array.ext'
      apply List.ext_getElem?
      intro q
      rw [Array.toList_extract, List.extract_eq_take_drop, List.getElem?_take]
      by_cases hq : q < sz
      · rw [if_pos (by omega), List.getElem?_drop]
        have := hall q hq
        simpa using this
      · rw [if_neg (by omega)]
        exact (List.getElem?_eq_none (by simp; omega)).symm
    · obtain ⟨h1, h2⟩ := (hch i).choose_spec (by omega)
      exact flatK_fit d n e _ _ ks h2 hk
end
end Go.Cam
/- Assertions of known blocks, laid side by side: what a walk knows of the memory, as a list. -/
namespace Go.Cam
def Le (A B : Heap) : Prop := ∀ b o, A b = some o → B b = some o
theorem Le.refl (A : Heap) : Le A A := fun _ _ h => h
theorem Le.trans {A B C : Heap} (h : Le A B) (g : Le B C) : Le A C := fun b o e => g b o (h b o e)
/-- an assertion of held blocks and owned ones -/
structure HP where
  p : Heap → Heap → Prop
  mono : ∀ {H M H' M' : Heap}, Le H H' → Le M M' → p H M → p H' M'
def HP.own (b : Nat) (o : Obj) : HP := ⟨fun _ M => M b = some o, fun _ h2 h => h2 _ _ h⟩
def HP.star (A B : HP) : HP :=
  ⟨fun H M => ∃ M1 M2, Le M1 M ∧ Le M2 M ∧ (∀ b, M1 b = none ∨ M2 b = none) ∧ A.p H M1 ∧ B.p H M2,
   fun h1 h2 ⟨M1, M2, a, b, d, x, y⟩ => ⟨M1, M2, a.trans h2, b.trans h2, d, A.mono h1 (Le.refl _) x, B.mono h1 (Le.refl _) y⟩⟩
def HP.emp : HP := ⟨fun _ _ => True, fun _ _ _ => trivial⟩
def HP.per (φ : Heap → Prop) (m : ∀ {H H' : Heap}, Le H H' → φ H → φ H') : HP := ⟨fun H _ => φ H, fun h1 _ h => m h1 h⟩
def HP.ex {α : Type} (P : α → HP) : HP := ⟨fun H M => ∃ x, (P x).p H M, fun h1 h2 ⟨x, h⟩ => ⟨x, (P x).mono h1 h2 h⟩⟩
def HP.and (φ : Prop) (A : HP) : HP := ⟨fun H M => φ ∧ A.p H M, fun h1 h2 h => ⟨h.1, A.mono h1 h2 h.2⟩⟩
/-- an assertion that needs no block of its own -/
class Per (A : HP) : Prop where
  h : ∀ {H M M' : Heap}, A.p H M → A.p H M'
instance (φ : Heap → Prop) (m) : Per (HP.per φ m) := ⟨fun h => h⟩
instance : Per HP.emp := ⟨fun h => h⟩
def Sat : List HP → HP
  | [] => .emp
  | a :: r => a.star (Sat r)
theorem star_swap {A B C : HP} {H M : Heap} (h : (A.star (B.star C)).p H M) : (B.star (A.star C)).p H M := by
  obtain ⟨M1, M2, a1, a2, d, hA, N1, N2, b1, b2, e, hB, hC⟩ := h
  refine ⟨N1, fun c => match M1 c with | some o => some o | none => N2 c, b1.trans a2, ?_, ?_, hB, M1, N2, ?_, ?_, ?_, hA, hC⟩
  · intro c o hc
    dsimp only at hc
    cases h1 : M1 c with
    | some o' => rw [h1] at hc; cases hc; exact a1 _ _ h1
    | none => rw [h1] at hc; exact a2 _ _ (b2 _ _ hc)
  · intro c
    dsimp only
    cases h1 : N1 c with
    | none => exact .inl rfl
    | some o =>
      refine .inr ?_
      rcases d c with h2 | h2
      · rw [h2]
        rcases e c with h3 | h3
        · rw [h1] at h3; cases h3
        · exact h3
      · have := b1 _ _ h1; rw [h2] at this; cases this
  · intro c o hc; dsimp only; rw [hc]
  · intro c o hc
    dsimp only
    cases h1 : M1 c with
    | none => exact hc
    | some o' =>
      rcases d c with h2 | h2
      · rw [h1] at h2; cases h2
      · have := b2 _ _ hc; rw [h2] at this; cases this
  · intro c
    rcases d c with h2 | h2
    · exact .inl h2
    · cases h3 : N2 c with
      | none => exact .inr rfl
      | some o => have := b2 _ _ h3; rw [h2] at this; cases this
theorem star_mono {A B C : HP} (hBC : ∀ H M, B.p H M → C.p H M) {H M : Heap} (h : (A.star B).p H M) : (A.star C).p H M := by
  obtain ⟨M1, M2, a1, a2, d, hA, hB⟩ := h
  exact ⟨M1, M2, a1, a2, d, hA, hBC _ _ hB⟩
theorem star_monoL {A B C : HP} (hAC : ∀ H M, A.p H M → C.p H M) {H M : Heap} (h : (A.star B).p H M) : (C.star B).p H M := by
  obtain ⟨M1, M2, a1, a2, d, hA, hB⟩ := h
  exact ⟨M1, M2, a1, a2, d, hAC _ _ hA, hB⟩
/-- one assertion is picked out of a list -/
inductive Sel (a : HP) : List HP → List HP → Prop
  | here {r} : Sel a (a :: r) r
  | there {x r s} : Sel a r s → Sel a (x :: r) (x :: s)
theorem Sel.sat {a : HP} {As Bs : List HP} (s : Sel a As Bs) : ∀ {H M : Heap}, (Sat As).p H M → (a.star (Sat Bs)).p H M := by
  induction s with
  | here => exact fun h => h
  | there s ih => exact fun h => star_swap (star_mono (fun _ _ => ih) h)
theorem Sel.back {a : HP} {As Bs : List HP} (s : Sel a As Bs) : ∀ {H M : Heap}, (a.star (Sat Bs)).p H M → (Sat As).p H M := by
  induction s with
  | here => exact fun h => h
  | there s ih => exact fun h => star_mono (fun _ _ => ih) (star_swap h)
theorem star_fst {A B : HP} {H M : Heap} (h : (A.star B).p H M) : A.p H M := by
  obtain ⟨M1, M2, a1, a2, d, hA, hB⟩ := h; exact A.mono (Le.refl _) a1 hA
theorem star_snd {A B : HP} {H M : Heap} (h : (A.star B).p H M) : B.p H M := by
  obtain ⟨M1, M2, a1, a2, d, hA, hB⟩ := h; exact B.mono (Le.refl _) a2 hB
theorem Sel.hold {a : HP} {As Bs : List HP} (s : Sel a As Bs) {H M : Heap} (h : (Sat As).p H M) : a.p H M := star_fst (s.sat h)
/-- one assertion is put in another's place -/
inductive Upd (a b : HP) : List HP → List HP → Prop
  | here {r} : Upd a b (a :: r) (b :: r)
  | there {x r s} : Upd a b r s → Upd a b (x :: r) (x :: s)
theorem Upd.sels {a b : HP} {As Bs : List HP} (u : Upd a b As Bs) : ∃ Cs, Sel a As Cs ∧ Sel b Bs Cs := by
  induction u with
  | here => exact ⟨_, .here, .here⟩
  | there _ ih => obtain ⟨Cs, h1, h2⟩ := ih; exact ⟨_, h1.there, h2.there⟩
theorem own_write {b : Nat} {o o' : Obj} {X : HP} {H M : Heap} (h : ((HP.own b o).star X).p H M) : M b = some o ∧ ((HP.own b o').star X).p H (upd M b o') := by
  have hb : M b = some o := star_fst h
  refine ⟨hb, ?_⟩
  obtain ⟨M1, M2, a1, a2, d, hA, hB⟩ := h
  have h2 : M2 b = none := (d b).resolve_left (fun e => by rw [show M1 b = some o from hA] at e; cases e)
  refine ⟨upd M1 b o', M2, ?_, ?_, ?_, upd_same _ _ _, hB⟩
  · intro c o2 hc
    by_cases e : c = b
    · subst e; rw [upd_same] at hc ⊢; exact hc
    · rw [upd_ne e] at hc ⊢; exact a1 _ _ hc
  · intro c o2 hc
    by_cases e : c = b
    · subst e; rw [h2] at hc; cases hc
    · rw [upd_ne e]; exact a2 _ _ hc
  · intro c
    by_cases e : c = b
    · subst e; exact .inr h2
    · rw [upd_ne e]; exact d c
theorem own_new {o : Obj} {X : HP} {H M : Heap} {r : Nat} (hr : Fresh H M r) (h : X.p H M) : ((HP.own r o).star X).p H (upd M r o) := by
  refine ⟨upd (fun _ => none) r o, M, ?_, ?_, ?_, upd_same _ _ _, h⟩
  · intro c o2 hc
    by_cases e : c = r
    · subst e; rw [upd_same] at hc ⊢; exact hc
    · rw [upd_ne e] at hc; cases hc
  · intro c o2 hc; exact hr.old hc
  · intro c
    by_cases e : c = r
    · subst e; exact .inr hr.2
    · rw [upd_ne e]; exact .inl rfl
theorem own_freeze {b : Nat} {o : Obj} {X : HP} {H M : Heap} (hd : ∀ b, H b ≠ none → M b = none) (h : ((HP.own b o).star X).p H M) : Sub H M (upd H b o) (del M b) ∧ X.p (upd H b o) (del M b) := by
  have hb : M b = some o := star_fst h
  obtain ⟨M1, M2, a1, a2, d, hA, hB⟩ := h
  have h2 : M2 b = none := (d b).resolve_left (fun e => by rw [show M1 b = some o from hA] at e; cases e)
  refine ⟨Sub.freeze hb, X.mono ?_ ?_ hB⟩
  · intro c o2 hc
    by_cases e : c = b
    · subst e; have := hd c (by rw [hc]; simp); rw [hb] at this; cases this
    · rw [upd_ne e]; exact hc
  · intro c o2 hc
    by_cases e : c = b
    · subst e; rw [h2] at hc; cases hc
    · rw [del_ne e]; exact a2 _ _ hc
theorem per_dup {A X : HP} [Per A] {H M : Heap} (h : (A.star X).p H M) : (A.star (A.star X)).p H M := by
  obtain ⟨M1, M2, a1, a2, d, hA, hB⟩ := h
  refine ⟨fun _ => none, M, (fun _ _ h => nomatch h), Le.refl _, fun _ => .inl rfl, Per.h hA, M1, M2, a1, a2, d, hA, hB⟩
theorem per_add {A X : HP} [Per A] {H M M0 : Heap} (hA : A.p H M0) (h : X.p H M) : (A.star X).p H M :=
  ⟨fun _ => none, M, (fun _ _ h => nomatch h), Le.refl _, fun _ => .inl rfl, Per.h hA, h⟩
/-- what is asked of a list, and what is left -/
inductive Split : List HP → List HP → List HP → Prop
  | nil {As} : Split As [] As
  | cons {a As Bs Ps Rs} : Sel a As Bs → Split Bs Ps Rs → Split As (a :: Ps) Rs
  | per {a As Bs Ps Rs} [Per a] : Sel a As Bs → Split As Ps Rs → Split As (a :: Ps) Rs
theorem Split.sat {As Ps Rs : List HP} (s : Split As Ps Rs) : ∀ {H M : Heap}, (Sat As).p H M → (Sat (Ps ++ [Sat Rs])).p H M := by
  induction s with
  | nil => exact fun {H M} h => ⟨M, fun _ => none, Le.refl _, (fun _ _ h => nomatch h), fun _ => .inr rfl, h, trivial⟩
  | cons s _ ih => exact fun h => star_mono (fun _ _ => ih) (s.sat h)
  | per s _ ih => exact fun h => per_add (s.hold h) (ih h)
theorem Split.perx {a : HP} {As Bs Ps Rs : List HP} (s : Sel a As Bs) (_ : Per a) (r : Split As Ps Rs) : Split As (a :: Ps) Rs := .per s r
theorem Sat.app {As Rs : List HP} : ∀ {H M : Heap}, (Sat (As ++ [Sat Rs])).p H M → (Sat (As ++ Rs)).p H M := by
  induction As with
  | nil => exact fun h => star_fst h
  | cons a r ih => exact fun h => star_mono (fun _ _ => ih) h
/-- one list says what another one says -/
inductive Ent : List HP → List HP → Prop
  | nil {As} : Ent As []
  | cons {a As Bs Ps} : Sel a As Bs → Ent Bs Ps → Ent As (a :: Ps)
  | per {a As Bs Ps} [Per a] : Sel a As Bs → Ent As Ps → Ent As (a :: Ps)
theorem Ent.sat {As Ps : List HP} (s : Ent As Ps) : ∀ {H M : Heap}, (Sat As).p H M → (Sat Ps).p H M := by
  induction s with
  | nil => exact fun _ => trivial
  | cons s _ ih => exact fun h => star_mono (fun _ _ => ih) (s.sat h)
  | per s _ ih => exact fun h => per_add (s.hold h) (ih h)

class AppL (A B : List HP) (C : outParam (List HP)) : Prop where
  h : A ++ B = C
instance {B} : AppL [] B B := ⟨rfl⟩
instance {a A B C} [p : AppL A B C] : AppL (a :: A) B (a :: C) := ⟨by rw [List.cons_append, p.h]⟩
/-! ### What is still to be run, over a list of assertions -/
structure RunS (P : Program) (f : FuncId) (n : Nat) (R : Value → HP) (k : List It) (l : List (Nat × Value)) (As : List HP) : Prop where
  h : ∀ H M, (Sat As).p H M → Run P f n (fun v H' M' => (R v).p H' M') k l H M
instance {P f n R k l As} : CoeFun (RunS P f n R k l As) (fun _ => ∀ H M, (Sat As).p H M → Run P f n (fun v H' M' => (R v).p H' M') k l H M) := ⟨RunS.h⟩
def post (Q : Value → List HP → Prop) (F : HP) (v : Value) : HP :=
  ⟨fun H M => ∃ Bs, Q v Bs ∧ (Sat (Bs ++ [F])).p H M, fun h1 h2 ⟨Bs, q, s⟩ => ⟨Bs, q, (Sat _).mono h1 h2 s⟩⟩
/-- a contract: what it asks for, and what it comes to -/
def Ctr (P : Program) (f : FuncId) (args : List Value) (As : List HP) (Q : Value → List HP → Prop) : Prop :=
  ∀ (F : HP) H M, (Sat (As ++ [F])).p H M → ACalls P f args.toArray H M (fun v H' M' => (post Q F v).p H' M')
section
variable {P : Program} {f : FuncId} {n : Nat} {R : Value → HP} {k : List It} {l : List (Nat × Value)} {As : List HP} {all : Array Oper} {rest : List Oper}
theorem s_seq {x y : Code} (h : RunS P f n R (.code x :: .code y :: k) l As) : RunS P f n R (.code (.seq x y) :: k) l As := .mk fun _ _ s => run_seq (h _ _ s)
theorem s_skip (h : RunS P f n R k l As) : RunS P f n R (.code .skip :: k) l As := .mk fun _ _ s => run_skip (h _ _ s)
theorem s_block {id : Nat} {c : Code} (h : RunS P f n R (.code c :: .inBlock id :: k) l As) : RunS P f n R (.code (.block id c) :: k) l As := .mk fun _ _ s => run_block (h _ _ s)
theorem s_inBlock {id : Nat} (h : RunS P f n R k l As) : RunS P f n R (.inBlock id :: k) l As := .mk fun _ _ s => run_inBlock (h _ _ s)
theorem s_exit {id : Nat} {k2 : List It} (h : RunS P f n R k2 l As) (hx : xto id k = some k2 := by rfl) : RunS P f n R (.code (.exit id) :: k) l As := .mk fun _ _ s => run_exit hx (h _ _ s)
theorem s_region {id : Nat} {ops : List Oper} (h : RunS P f n R (.ops ops.toArray ops :: k) l As) : RunS P f n R (.code (.region id ops.toArray false) :: k) l As := .mk fun _ _ s => run_region (h _ _ s)
theorem s_nil (h : RunS P f n R k l As) : RunS P f n R (.ops all [] :: k) l As := .mk fun _ _ s => run_ops_nil (h _ _ s)
theorem s_cond {c : Operand} {x y : Code} (t : Bool) (ht : t = true → RunS P f n R (.code x :: k) l As) (hf : t = false → RunS P f n R (.code y :: k) l As)
    (hc : ∀ j, ev (mk l j) c = .bool t := by intro j; rfl) : RunS P f n R (.code (.cond c x y) :: k) l As :=
  .mk fun _ _ s => run_cond t hc (fun e => ht e _ _ s) (fun e => hf e _ _ s)
theorem s_if {c : Operand} {x y : Code} {p : Prop} [Decidable p] (ht : p → RunS P f n R (.code x :: k) l As) (hf : ¬ p → RunS P f n R (.code y :: k) l As)
    (hc : ∀ j, ev (mk l j) c = .bool (decide p) := by intro j; rfl) : RunS P f n R (.code (.cond c x y) :: k) l As :=
  s_cond (decide p) (fun h => ht (of_decide_eq_true h)) (fun h => hf (of_decide_eq_false h)) hc
theorem s_ieq {c : Operand} {x y : Code} {p q : Int} (ht : p = q → RunS P f n R (.code x :: k) l As) (hf : ¬ p = q → RunS P f n R (.code y :: k) l As)
    (hc : ∀ j, ev (mk l j) c = .bool (p == q) := by intro j; rfl) : RunS P f n R (.code (.cond c x y) :: k) l As :=
  s_cond (p == q) (fun h => ht (by simpa using h)) (fun h => hf (by simpa using h)) hc
theorem s_ine {c : Operand} {x y : Code} {p q : Int} (ht : ¬ p = q → RunS P f n R (.code x :: k) l As) (hf : p = q → RunS P f n R (.code y :: k) l As)
    (hc : ∀ j, ev (mk l j) c = .bool (p != q) := by intro j; rfl) : RunS P f n R (.code (.cond c x y) :: k) l As :=
  s_cond (p != q) (fun h => ht (by simpa using h)) (fun h => hf (by simpa using h)) hc
theorem s_not {c : Operand} {x y : Code} {p : Bool} (ht : p = false → RunS P f n R (.code x :: k) l As) (hf : p = true → RunS P f n R (.code y :: k) l As)
    (hc : ∀ j, ev (mk l j) c = .bool (!p) := by intro j; rfl) : RunS P f n R (.code (.cond c x y) :: k) l As :=
  s_cond (!p) (fun h => ht (by simpa using h)) (fun h => hf (by simpa using h)) hc
/-- a condition that is known -/
theorem s_true {c : Operand} {x y : Code} (h : RunS P f n R (.code x :: k) l As) (hc : ∀ j, ev (mk l j) c = .bool true := by intro j; rfl) : RunS P f n R (.code (.cond c x y) :: k) l As :=
  s_cond true (fun _ => h) (fun e => nomatch e) hc
theorem s_false {c : Operand} {x y : Code} (h : RunS P f n R (.code y :: k) l As) (hc : ∀ j, ev (mk l j) c = .bool false := by intro j; rfl) : RunS P f n R (.code (.cond c x y) :: k) l As :=
  s_cond false (fun e => nomatch e) (fun _ => h) hc
theorem s_keep (l' : List (Nat × Value)) (h : RunS P f n R k l' As) (hl : ∀ j, agrees (mk l j) l' := by intro j; repeat (first | exact trivial | refine ⟨rfl, ?_⟩)) : RunS P f n R k l As := .mk fun _ _ s => run_keep l' hl (h _ _ s)
theorem s_ent {Bs : List HP} (h : RunS P f n R k l Bs) (he : Ent As Bs) : RunS P f n R k l As := .mk fun _ _ s => h _ _ (he.sat s)
theorem s_entF {Bs : List HP} (he : Ent As Bs) (h : RunS P f n R k l Bs) : RunS P f n R k l As := s_ent h he
theorem s_imp {Bs : List HP} (he : ∀ H M, (Sat As).p H M → (Sat Bs).p H M) (h : RunS P f n R k l Bs) : RunS P f n R k l As := .mk fun _ _ s => h _ _ (he _ _ s)
theorem s_open {A B : HP} (he : ∀ H M, A.p H M → B.p H M) (h : RunS P f n R k l (B :: As)) : RunS P f n R k l (A :: As) := .mk fun _ _ s => h _ _ (star_monoL he s)
theorem s_ex {α : Type} {A : α → HP} (h : ∀ x, RunS P f n R k l (A x :: As)) : RunS P f n R k l (HP.ex A :: As) := .mk fun _ _ s => by
  obtain ⟨M1, M2, a1, a2, d, ⟨x, hA⟩, hB⟩ := s
  exact h x _ _ ⟨M1, M2, a1, a2, d, hA, hB⟩
theorem s_and {φ : Prop} {A : HP} (h : φ → RunS P f n R k l (A :: As)) : RunS P f n R k l (HP.and φ A :: As) := .mk fun _ _ s => by
  obtain ⟨M1, M2, a1, a2, d, ⟨x, hA⟩, hB⟩ := s
  exact h x _ _ ⟨M1, M2, a1, a2, d, hA, hB⟩
theorem s_star {A B : HP} (h : RunS P f n R k l (A :: B :: As)) : RunS P f n R k l (HP.star A B :: As) := .mk fun _ _ s => by
  refine h _ _ ?_
  obtain ⟨M1, M2, a1, a2, d, ⟨N1, N2, b1, b2, e, hA, hB⟩, hC⟩ := s
  have h0 : (Sat As |>.star (A.star B)).p _ _ := ⟨M2, M1, a2, a1, fun c => (d c).symm, hC, N1, N2, b1, b2, e, hA, hB⟩
  have h1 := star_swap h0
  refine star_mono (fun H M h => ?_) h1
  obtain ⟨K1, K2, c1, c2, g, x, y⟩ := h
  exact ⟨K2, K1, c2, c1, fun c => (g c).symm, y, x⟩
/-- to the front -/
theorem s_front {a : HP} {Bs : List HP} (s : Sel a As Bs) (h : RunS P f n R k l (a :: Bs)) : RunS P f n R k l As := .mk fun _ _ q => h _ _ (s.sat q)
theorem s_dup {a : HP} [Per a] {Bs : List HP} (s : Sel a As Bs) (h : RunS P f n R k l (a :: As)) : RunS P f n R k l As := .mk fun _ _ q => h _ _ (per_add (s.hold q) q)
/-- what holds of the memory may be known -/
theorem s_know {φ : Prop} {a : HP} {Bs : List HP} (s : Sel a As Bs) (hφ : ∀ H M, a.p H M → φ) (h : φ → RunS P f n R k l As) : RunS P f n R k l As := .mk fun _ _ q => h (hφ _ _ (s.hold q)) _ _ q

theorem s_nrm {A B C : List HP} [ap : AppL A B C] (h : RunS P f n R k l C) : RunS P f n R k l (A ++ B) := by rw [ap.h]; exact h
/-! an operation that looks -/
structure LookS (P : Program) (o : Oper) (l : List (Nat × Value)) (As : List HP) (v : Value) : Prop where
  h : ∀ j H M, (Sat As).p H M → Qs P o (mk l j) H M v
instance {P o l As v} : CoeFun (LookS P o l As v) (fun _ => ∀ j H M, (Sat As).p H M → Qs P o (mk l j) H M v) := ⟨LookS.h⟩
theorem s_look {d : Nat} {op : Op} {ty : TypeId} {pos : String} {af : Array Edge} {g : Option (Nat × Bool)} {v : Value} (hv : LookS P ⟨some d, op, ty, pos, af, g⟩ l As v)
    (h : RunS P f n R (.ops all rest :: k) ((d, v) :: l) As) (hd : Nat.blt d n = true := by rfl) (hw : ∀ j, wantE ⟨some d, op, ty, pos, af, g⟩ all (mk l j) = true := by intro j; rfl) :
    RunS P f n R (.ops all (⟨some d, op, ty, pos, af, g⟩ :: rest) :: k) l As := .mk fun _ _ s => run_qt v hd hw (fun j => (hv j _ _ s).qt) (h _ _ s)
theorem s_no {d : Nat} {op : Op} {ty : TypeId} {pos : String} {af : Array Edge} {g : Option (Nat × Bool)}
    (h : RunS P f n R (.ops all rest :: k) ((d, undef) :: l) As) (hw : ∀ j, wantE ⟨some d, op, ty, pos, af, g⟩ all (mk l j) = false := by intro j; rfl) (hd : Nat.blt d n = true := by rfl) :
    RunS P f n R (.ops all (⟨some d, op, ty, pos, af, g⟩ :: rest) :: k) l As := .mk fun _ _ s => run_no hd hw (h _ _ s)
/-- a pure operation -/
theorem s_p {d : Nat} {op : Op} {ty : TypeId} {pos : String} {af : Array Edge} {v : Value}
    (h : RunS P f n R (.ops all rest :: k) ((d, v) :: l) As) (hv : ∀ j, cst P (execOp (ev (mk l j)) ⟨some d, op, ty, pos, af, none⟩) = some (.value v) := by intro j; rfl) (hd : Nat.blt d n = true := by rfl) :
    RunS P f n R (.ops all (⟨some d, op, ty, pos, af, none⟩ :: rest) :: k) l As := .mk fun _ _ s => run_p hv hd (h _ _ s)
theorem s_y {d : Nat} {op : Op} {ty : TypeId} {pos : String} {af : Array Edge} {g : Option (Nat × Bool)} {v : Value}
    (h : RunS P f n R (.ops all rest :: k) ((d, v) :: l) As) (hw : ∀ j, wantE ⟨some d, op, ty, pos, af, g⟩ all (mk l j) = true := by intro j; rfl)
    (hv : ∀ j, cst P (execOp (ev (mk l j)) ⟨some d, op, ty, pos, af, g⟩) = some (.value v) := by intro j; rfl) (hd : Nat.blt d n = true := by rfl) :
    RunS P f n R (.ops all (⟨some d, op, ty, pos, af, g⟩ :: rest) :: k) l As := .mk fun _ _ s => run_y hv hd hw (h _ _ s)
/-- one block is made -/
theorem s_new {d : Nat} {op : Op} {ty : TypeId} {pos : String} {af : Array Edge} {g : Option (Nat × Bool)} (ob : Obj) (h : ∀ r, RunS P f n R (.ops all rest :: k) ((d, .pointer (some ⟨r, 0, none⟩)) :: l) (.own r ob :: As))
    (hx : ∀ j, (cstNew P (execOp (ev (mk l j)) ⟨some d, op, ty, pos, af, g⟩)).map (fun x => (x.1, fun r => cst P (x.2 r))) = some (ob, fun r => some (.value (.pointer (some ⟨r, 0, none⟩)))) := by intro j; rfl)
    (hd : Nat.blt d n = true := by rfl) (hw : ∀ j, wantE ⟨some d, op, ty, pos, af, g⟩ all (mk l j) = true := by intro j; rfl) :
    RunS P f n R (.ops all (⟨some d, op, ty, pos, af, g⟩ :: rest) :: k) l As := .mk fun _ _ s => run_newo ob _ hd hw hx (fun r hr => h r _ _ (own_new hr s))
/-- a loop -/
theorem s_loop {α : Type} {c : Code} (L : α → List (Nat × Value)) (I : α → List HP) (Pre : α → Prop) (μ : α → Nat) (a0 : α) (hp : Pre a0) (he : Ent As (I a0))
    (round : ∀ a, Pre a → (∀ a', Pre a' → μ a' < μ a → RunS P f n R (.inLoop c :: k) (L a') (I a')) → RunS P f n R (.code c :: .inLoop c :: k) (L a) (I a))
    (hl : ∀ j, agrees (mk l j) (L a0) := by intro j; repeat (first | exact trivial | refine ⟨rfl, ?_⟩)) : RunS P f n R (.code (.loop c) :: k) l As := .mk fun H M s =>
  run_loopI L (fun a H M => Pre a ∧ (Sat (I a)).p H M) μ a0 hl ⟨hp, he.sat s⟩ fun a H M ⟨hp, hs⟩ next =>
    round a hp (fun a' hp' hlt => .mk fun _ _ hs' => next a' _ _ ⟨hp', hs'⟩ hlt) H M hs
/-- a loop's first round, carried out -/
theorem s_unroll {c : Code} (h : RunS P f n R (.code c :: .inLoop c :: k) l As) : RunS P f n R (.code (.loop c) :: k) l As := .mk fun H M s => run_loop (h H M s)
/-- what is still to be done, proved once for all ways that come there -/
theorem s_join {k' : List It} {α : Type} (L : α → List (Nat × Value)) (I : α → List HP) (Pre : α → Prop) (K : ∀ a, Pre a → RunS P f n R k (L a) (I a))
    (h : (∀ a, Pre a → RunS P f n R k (L a) (I a)) → RunS P f n R k' l As) : RunS P f n R k' l As := h K
/-- the operations from number m on, proved once for all ways that come there -/
theorem s_cut {α : Type} {os : List Oper} (m : Nat) (L : α → List (Nat × Value)) (I : α → List HP) (Pre : α → Prop) (K : ∀ a, Pre a → RunS P f n R (.ops all (os.drop m) :: k) (L a) (I a))
    (h : (∀ a, Pre a → RunS P f n R (.ops all (os.drop m) :: k) (L a) (I a)) → RunS P f n R (.ops all os :: k) l As) : RunS P f n R (.ops all os :: k) l As := h K
/-- what the program's table says of a function that is called -/
class FN (P : Program) (q : FuncId) : Prop where
  h : ∀ args, cst P (callFunc q args) = some (.enter q args)
theorem exec_call {q : FuncId} [fn : FN P q] {e : Nat → Value} {as : List Operand} {tys : Array TypeId} {d : Option Nat} {ty : TypeId} {pos : String} {af : Array Edge} {g : Option (Nat × Bool)} :
    cst P (execOp (ev e) ⟨d, .call ⟨.value (.func q), as.toArray, tys⟩, ty, pos, af, g⟩) = some (.enter q (as.map (ev e)).toArray) := by
  show cst P (callFunc q (#[] ++ as.toArray.map (ev e) ++ #[])) = _
  rw [fn.h]
  simp
theorem s_call {d : Nat} {ty : TypeId} {pos : String} {af : Array Edge} {g : Option (Nat × Bool)} {q : FuncId} {as : List Operand} {tys : Array TypeId} {args : List Value} {Ps Rs : List HP} {Q : Value → List HP → Prop} [FN P q]
    (ha : ∀ j, as.map (ev (mk l j)) = args := by intro j; rfl) (sp : Split As Ps Rs) (hs : Ctr P q args Ps Q) (h : ∀ v Bs, Q v Bs → RunS P f n R (.ops all rest :: k) ((d, v) :: l) (Bs ++ Rs))
    (hd : Nat.blt d n = true := by rfl)
    (hw : ∀ j, wantE ⟨some d, .call ⟨.value (.func q), as.toArray, tys⟩, ty, pos, af, g⟩ all (mk l j) = true := by intro j; rfl) :
    RunS P f n R (.ops all (⟨some d, .call ⟨.value (.func q), as.toArray, tys⟩, ty, pos, af, g⟩ :: rest) :: k) l As := .mk fun _ _ s =>
  run_callo hd hw (fun j => by rw [exec_call, ha j]) (hs (Sat Rs) _ _ (sp.sat s)) fun v _ _ ⟨Bs, hq, hb⟩ => h v Bs hq _ _ (Sat.app hb)
theorem s_enter {fn : Func} {c : Code} {args : List Value} {Ps : List HP} {Q : Value → List HP → Prop} (n : Nat) (l : List (Nat × Value)) (Cs : HP → List HP) (hf : P.funcs[f]? = some fn) (h : ∀ F, RunS P f n (post Q F) [.code c] l (Cs F))
    (hb : fn.body = some c := by rfl) (hn : fn.ntmps = n := by rfl) (hl : Nat.ble args.length n = true := by rfl) (hz : zipArgs 0 args = l := by rfl) (hC : ∀ F, Ps ++ [F] = Cs F := by intro F; rfl) : Ctr P f args Ps Q :=
  fun F _ _ s => enter hf hb hn (Nat.le_of_ble_eq_true hl) (by rw [hz]; exact h F _ _ (by rw [← hC F]; exact s))
theorem s_ret {fn : Func} {v : Value} {Q : Value → List HP → Prop} {F : HP} {Bs : List HP} (hf : P.funcs[f]? = some fn) (hr : ∀ j, cst P (resE fn (mk l j)) = some v) (hq : Q v Bs) (he : Ent As (Bs ++ [F])) :
    RunS P f n (post Q F) (.code .ret :: k) l As := .mk fun _ _ s => run_retc hf hr ⟨Bs, hq, he.sat s⟩
/-- owned blocks may be frozen -/
theorem s_freeze {b : Nat} {o : Obj} {A : HP} [Per A] {Bs : List HP} (u : Sel (.own b o) As Bs) (hA : ∀ H M, H b = some o → A.p H M) (h : RunS P f n R k l (A :: Bs)) : RunS P f n R k l As := .mk fun H M s => by
  intro j w0 w a bb cs k' hk hh ha hf hn
  obtain ⟨h1, h2⟩ := own_freeze hh.d (u.sat s)
  have h3 : (A.star (Sat Bs)).p (upd H b o) (del M b) := per_add (M0 := M) (hA (upd H b o) M (upd_same _ _ _)) h2
  exact h _ _ h3 j w0 w a bb cs k' hk (h1 _ _ hh) ha hf hn
end
end Go.Cam
