/- Blocks of bytes; copies; arrays out of slices; bytes as a string; many assertions at once. -/
import Derived.Test.YtgbbcpfnmkeijaaCamAG
namespace Go.Cam
abbrev bcl (l : List Nat) : List Value := l.map fun (c : Nat) => .int .u8 (c : Int)
/-- bytes, as a slice's row -/
abbrev byR (l : List Nat) (i : Nat) : List Value := [.int .u8 ((l.getD i 0 : Nat) : Int)]
abbrev BS (v : Value) (l : List Nat) : HP := SA none 1 v l.length (byR l)
def Bys (l : List Nat) : Prop := ∀ c, c ∈ l → c < 256
theorem Bys.drop {l : List Nat} (h : Bys l) (n : Nat) : Bys (l.drop n) := fun c hc => h c (List.mem_of_mem_drop hc)
theorem Bys.take {l : List Nat} (h : Bys l) (n : Nat) : Bys (l.take n) := fun c hc => h c (List.mem_of_mem_take hc)
theorem Bys.app {l m : List Nat} (h : Bys l) (h2 : Bys m) : Bys (l ++ m) := fun c hc => (List.mem_append.1 hc).elim (h c) (h2 c)
theorem Bys.nil : Bys [] := fun c hc => (nomatch hc)
theorem Bys.zeros (n : Nat) : Bys (List.replicate n 0) := fun c hc => by rw [(List.mem_replicate.1 hc).2]; decide
theorem flat_byR' (l : List Nat) : flat l.length (byR l) = bcl l := by
  unfold flat
  apply List.ext_getElem?
  intro i
  have : ∀ (n : Nat) (f : Nat → Value), (List.range n).flatMap (fun i => [f i]) = (List.range n).map f := fun n f => by
    induction List.range n with
    | nil => rfl
    | cons x xs ih => rw [List.flatMap_cons, ih]; rfl
  show ((List.range l.length).flatMap fun i => [Value.int .u8 ((l.getD i 0 : Nat) : Int)])[i]? = _
  rw [this]
  by_cases h : i < l.length
  · simp [bcl, h, List.getD_eq_getElem?_getD]
  · simp [bcl, h]
/-- a block of bytes of one's own -/
abbrev BA (r ty : Nat) (l : List Nat) : HP := .own r (.cells (bcl l).toArray ty (0, 0))
theorem bcl_one (l : List Nat) : (bcl l).all one = true := by
  rw [List.all_eq_true]; intro u hu; obtain ⟨c, _, rfl⟩ := List.mem_map.1 hu; rfl
instance {l : List Nat} : Cel (.agg (bcl l).toArray) (bcl l) := ⟨rfl, bcl_one l⟩
theorem SA.full {e sz n : Nat} {a : Option Addr} {row : Nat → List Value} (h0 : 0 < n) {H M : Heap} (h : (SA (some e) sz (.slice a n n) n row).p H M) : ∃ r, a = some ⟨r, 0, none⟩ ∧ (HP.own r (.cells (flat n row).toArray e (0, 0))).p H M := by
  obtain ⟨h1, h2, hown, _⟩ := h
  rcases hown with ⟨h1, _⟩ | ⟨b, ln, cp, cs, e1, h3, h4, h5, h6, h7⟩
  · cases h1; omega
  · cases e1
    refine ⟨b, rfl, ?_⟩
    have : cs = (flat n row).toArray := by
      apply Array.ext'
      rw [← h7, List.take_of_length_le]
      simp [h3, h4]
    rw [← this]; exact h6
/-- bytes that are laid over others, from a place on -/
def over (l : List Nat) (off : Nat) (x : List Nat) : List Nat := l.take off ++ x ++ l.drop (off + x.length)
theorem over_len {l x : List Nat} {off : Nat} (h : off + x.length ≤ l.length) : (over l off x).length = l.length := by simp [over]; omega
theorem setL_list (l vs : List Value) (off : Nat) (h : off + vs.length ≤ l.length) : setL l.toArray off vs = (l.take off ++ vs ++ l.drop (off + vs.length)).toArray := by
  apply Array.ext_getElem?
  intro i
  by_cases hi : i < l.length
  · rw [setL_get _ _ _ _ (by simpa using hi)]
    simp only [List.getElem?_toArray]
    by_cases h1 : off ≤ i ∧ i < off + vs.length
    · rw [if_pos h1, List.getElem?_append_left (by simp; omega), List.getElem?_append_right (by simp; omega)]
      congr 1; simp; omega
    · rw [if_neg h1]
      by_cases h2 : i < off
      · rw [List.getElem?_append_left (by simp; omega), List.getElem?_append_left (by simp; omega), List.getElem?_take, if_pos h2]
      · rw [List.getElem?_append_right (by simp; omega), List.getElem?_drop]
        congr 1; simp; omega
  · rw [Array.getElem?_eq_none (by rw [setL_size]; simp; omega), Array.getElem?_eq_none (by simp; omega)]
theorem setL_bcl (l x : List Nat) (off : Nat) (h : off + x.length ≤ l.length) : setL (bcl l).toArray off (bcl x) = (bcl (over l off x)).toArray := by
  rw [setL_list _ _ _ (by simpa using h)]
  simp [over, bcl, List.map_take, List.map_drop]
section
variable {P : Program} {f : FuncId} {n : Nat} {R : Value → HP} {k : List It} {l : List (Nat × Value)} {As Bs : List HP} {all : Array Oper} {rest : List Oper} {d : Nat} {dd : Option Nat} {oty : TypeId} {pos : String} {af : Array Edge} {g : Option (Nat × Bool)}
theorem s_full {e sz m : Nat} {a : Option Addr} {row : Nat → List Value} (u : Sel (SA (some e) sz (.slice a m m) m row) As Bs) (h0 : 0 < m) (h : ∀ r, a = some ⟨r, 0, none⟩ → RunS P f n R k l (.own r (.cells (flat m row).toArray e (0, 0)) :: Bs)) : RunS P f n R k l As := .mk fun H M s => by
  obtain ⟨M1, M2, a1, a2, dj, hA, hB⟩ := u.sat s
  obtain ⟨r, h1, h2⟩ := SA.full h0 hA
  exact h r h1 H M ⟨M1, M2, a1, a2, dj, h2, hB⟩
/-- a part of a block of bytes may be only read from now on -/
theorem s_fzB (p q c : Nat) {r ty : Nat} {x : List Nat} (u : Sel (BA r ty x) As Bs) (hp : p ≤ q) (hq : q ≤ x.length) (hc : q - p ≤ c) (h : RunS P f n R k l (BS (.slice (some ⟨r, p, none⟩) (q - p) c) ((x.take q).drop p) :: Bs)) : RunS P f n R k l As := by
  have hl : ((x.take q).drop p).length = q - p := by simp; omega
  refine s_fzo (off := p) (m := q - p) (c := c) (sz := 1) (row := byR ((x.take q).drop p)) u (fun _ _ => rfl) hc (by simp; omega) ?_ ?_
  · rw [show flat (q - p) (byR ((x.take q).drop p)) = bcl ((x.take q).drop p) by rw [← hl]; exact flat_byR' _]
    apply Array.ext'
    rw [Array.toList_extract, List.extract_eq_take_drop]
    simp only [bcl, List.map_drop, List.map_take, Nat.mul_one, Nat.add_sub_cancel_left, List.drop_take]
  · have e1 : SA none 1 (.slice (some ⟨r, p, none⟩) (q - p) c) (q - p) (byR ((x.take q).drop p)) = BS (.slice (some ⟨r, p, none⟩) (q - p) c) ((x.take q).drop p) := by unfold BS; rw [hl]
    rw [e1]; exact h
/-- a whole block of bytes is loaded -/
theorem lk_ldB {t : TypeId} {x : Operand} {b m : Nat} {c : List Nat} {ty : TypeId} [hag : AG P t true] [hs : SZ P t m] (hl : c.length = m) (hx : ∀ j, ev (mk l j) x = .pointer (some ⟨b, 0, none⟩) := by intro j; rfl)
    (s : Sel (BA b ty c) As Bs := by repeat (first | with_reducible exact Sel.here | with_reducible apply Sel.there)) :
    LookS P ⟨some d, .load t x, oty, pos, af, g⟩ l As (.agg (bcl c).toArray) := .mk fun j _ _ q => qt_ldN rfl (hx j) hag.h hs.h (.inl (s.hold q)) (by simp [hl]) (extract_whole (by simp [hl]))
/-- a whole block of bytes is stored -/
theorem st_stB {t : TypeId} {x y : Operand} {b m : Nat} {c c' : List Nat} {ty : TypeId} {As' : List HP} [hs : SZ P t m] (h1 : c.length = m) (h2 : c'.length = m)
    (hx : ∀ j, ev (mk l j) x = .pointer (some ⟨b, 0, none⟩) := by intro j; rfl) (hy : ∀ j, ev (mk l j) y = .agg (bcl c').toArray := by intro j; rfl)
    (u : Upd (BA b ty c) (BA b ty c') As As' := by repeat (first | with_reducible exact Upd.here | with_reducible apply Upd.there)) :
    StepL P ⟨dd, .store t x y, oty, pos, af, g⟩ l As (fun _ Bs => Bs = As') := .mk fun j Fs H M q => by
  obtain ⟨Cs, s1, s2⟩ := (u.app Fs).sels
  obtain ⟨hb, hq⟩ := own_write (o' := .cells (bcl c').toArray ty (0, 0)) (s1.sat q)
  refine hmc_of_hm ?_
  show hm P (Instr.storeAt t (ev (mk l j) x) (ev (mk l j) y) >>= fun _ => pure Next.skip) H M _
  rw [hx j, hy j]
  refine hm_bind (hm_st hs.h hb (by simp [Value.cells, h2]) (by simp [h1]) (fun j _ _ h => by omega) (fun u hu => List.all_eq_true.1 (bcl_one c') u hu) (hm_pure ⟨undef, .inr ⟨rfl, rfl⟩, As', rfl, ?_⟩))
  have : setL (bcl c).toArray 0 (Value.agg (bcl c').toArray).cells.toList = (bcl c').toArray := by
    show setL _ 0 (bcl c') = _
    rw [setL_whole (by simp [h1, h2])]
  rw [this]; exact s2.back hq
/-- an array of bytes is made -/
theorem st_alB {t m : TypeId} [zv : ZV P t (.agg (List.replicate m (.int .u8 0)).toArray)] :
    StepL P ⟨dd, .alloc t, oty, pos, af, g⟩ l As (fun v Bs => ∃ r, v = .pointer (some ⟨r, 0, none⟩) ∧ Bs = BA r t (List.replicate m 0) :: As) := .mk fun j Fs H M s => by
  refine hmc_of_hm ?_
  show hm P (Instr.alloc t true (.tuple #[]) >>= fun v => pure (Next.value v)) H M _
  unfold Instr.alloc
  refine hm_bind (hm_bind (hm_cst zv.h ?_))
  have e : bcl (List.replicate m 0) = List.replicate m (.int .u8 0) := by simp [bcl]
  exact hm_bind (hm_newVar (c := List.replicate m (.int .u8 0)) rfl fun r hr => hm_pure (hm_pure ⟨_, .inl rfl, _, ⟨r, rfl, rfl⟩, by
    show (Sat (HP.own r (.cells (bcl (List.replicate m 0)).toArray t (0, 0)) :: (As ++ Fs))).p _ _
    rw [e]; exact own_new hr s⟩))
/-! copies -/
theorem execOp_copy (e : Nat → Value) {d : Option Nat} {pos : String} {af : Array Edge} {g : Option (Nat × Bool)} {t t2 : TypeId} {p q : Operand} : execOp (ev e) ⟨d, .call ⟨.builtin .copy, #[p, q], #[t, t2]⟩, oty, pos, af, g⟩ = (Builtin.copy_ #[t, t2] oty #[ev e p, ev e q] >>= fun v => pure (Next.value v)) := by
  show (resolve (ev e) ⟨.builtin .copy, #[p, q], #[t, t2]⟩ oty >>= fun d => invoke d.target d.args) = _
  have : #[p, q].map (ev e) = #[ev e p, ev e q] := by simp
  unfold resolve
  dsimp only
  rw [this]; rfl
theorem hm_copy {t t2 el sz b off n' c' m c : Nat} {u : Option Addr} {ty : TypeId} {cs : Array Value} {row : Nat → List Value} [sc : SC P t el] [hs : SZ P el sz] {H M : Heap} {K : Value → Heap → Heap → Prop} (hb : M b = some (.cells cs ty (0, 0))) (hr : SlK (Kn H M) sz (.slice u m c) m row) (h1 : (flat m row).all one = true)
    (hl : off + min m n' * sz ≤ cs.size) (hk : K (.int .i64 (min m n' : Nat)) H (upd M b (.cells (setL cs off (flat (min m n') row)) ty (0, 0)))) : hm P (Builtin.copy_ #[t, t2] oty #[.slice (some ⟨b, off, none⟩) n' c', .slice u m c]) H M K := by
  unfold Builtin.copy_
  simp only [List.getElem?_toArray, List.getElem?_cons_zero, List.getElem?_cons_succ]
  refine hm_bind (hm_cst sc.h ?_)
  dsimp only
  refine hm_bind (hm_cst (a := m) rfl ?_)
  refine hm_bind (hm_cst hs.h ?_)
  obtain ⟨base, cap, e, _, hrl, h3⟩ := hr
  cases e
  have hmin : Nat.min m n' = min m n' := rfl
  rw [hmin]
  generalize hm' : min m n' = m' at hl hk
  have hle : m' ≤ m := by omega
  have hfl : (flat m' row).length = m' * sz := flat_len fun i hi => hrl i (by omega)
  have hfin : ∀ (cells : Array Value), cells = (flat m' row).toArray → hm P (do storeCells ⟨b, off, none⟩ cells.toList; pure (goInt m')) H M K := fun cells hc => by
    subst hc
    refine hm_bind (hm_storeCells hb (by rw [hfl]; exact hl) ?_ (hm_pure hk))
    rw [List.all_eq_true] at *
    intro v hv
    refine h1 v ?_
    obtain ⟨i, hi, hv2⟩ := List.mem_flatMap.1 hv
    exact List.mem_flatMap.2 ⟨i, List.mem_range.2 (by have := List.mem_range.1 hi; omega), hv2⟩
  rcases Nat.eq_zero_or_pos m with h0 | h0
  · have : m' = 0 := by omega
    subst this
    have hc : cst P (Builtin.firstCells sz 0 (.slice u m c)) = some #[] := by
      cases u with
      | none => rfl
      | some a => show cst P (loadCells a (0 * sz)) = _; rw [Nat.zero_mul]; rfl
    exact hm_bind (hm_cst hc (hfin _ rfl))
  · obtain ⟨bx, ox, cx, tx, fx, rfl, kx, hsx, hx⟩ := h3 h0
    refine hm_bind ?_
    show hm P (loadCells ⟨bx, ox, none⟩ (m' * sz)) H M _
    have hle2 : m' * sz ≤ m * sz := Nat.mul_le_mul_right _ hle
    refine hm_loadCells kx (by omega) (hfin _ ?_)
    apply Array.ext'
    have := congrArg Array.toList hx
    rw [Array.toList_extract, List.extract_eq_take_drop, Nat.add_sub_cancel_left] at this ⊢
    dsimp only at this ⊢
    have e2 := congrArg (List.take (m' * sz)) this
    rw [List.take_take, Nat.min_eq_left hle2] at e2
    rw [e2]
    obtain ⟨w, rfl⟩ : ∃ w, m = m' + w := ⟨m - m', by omega⟩
    rw [flat_add, List.take_left' hfl]
/-- copy into a block of bytes -/
theorem st_cpB {t t2 el : TypeId} {x y : Operand} {b off n' c' m c : Nat} {u : Option Addr} {ty : TypeId} {o s : List Nat} {As' : List HP} [sc : SC P t el] [hs : SZ P el 1]
    (up : Upd (BA b ty o) (BA b ty (over o off (s.take n'))) As As') (hr : SelR As 1 (.slice u m c) m (byR s)) (hm : s.length = m) (hl : off + min m n' ≤ o.length)
    (hx : ∀ j, ev (mk l j) x = .slice (some ⟨b, off, none⟩) n' c' := by intro j; rfl) (hy : ∀ j, ev (mk l j) y = .slice u m c := by intro j; rfl) :
    StepL P ⟨dd, .call ⟨.builtin .copy, #[x, y], #[t, t2]⟩, oty, pos, af, g⟩ l As (fun v Bs => v = .int .i64 (min m n' : Nat) ∧ Bs = As') := .mk fun j Fs H M q => by
  rw [execOp_copy, hx j, hy j]
  obtain ⟨Cs, s1, s2⟩ := (up.app Fs).sels
  obtain ⟨hb, hq⟩ := own_write (o' := .cells (bcl (over o off (s.take n'))).toArray ty (0, 0)) (s1.sat q)
  subst hm
  refine hmc_of_hm (hm_bind (hm_copy hb ((hr.app Fs).rd q) (by rw [flat_byR']; exact bcl_one s) (by simp; omega) (hm_pure ⟨_, .inl rfl, _, ⟨rfl, rfl⟩, ?_⟩)))
  have e1 : flat (min s.length n') (byR s) = bcl (s.take n') := by
    have h1 : (s.take n').length = min s.length n' := by simp; omega
    rw [← flat_byR', h1]
    refine flat_congr fun i hi => ?_
    have : i < n' := by omega
    simp [byR, List.getD_eq_getElem?_getD, List.getElem?_take, this]
  rw [e1, setL_bcl _ _ _ (by simp; omega)]
  exact s2.back hq
/-! arrays out of slices -/
theorem lk_sap {arr m el nn c : Nat} {x : Operand} {a : Option Addr} [ar : AR P arr m el] (hn : m ≤ nn) (hx : ∀ j, ev (mk l j) x = .slice a nn c := by intro j; rfl) :
    LookS P ⟨some d, .sliceToArrayPointer arr x, oty, pos, af, g⟩ l As (.pointer a) := .mk fun j H M _ => by
  refine qt_exec (s := Instr.arrayAt arr (ev (mk l j) x)) (by unfold execOp; rfl) fun w0 w _ => ?_
  rw [hx j]
  refine cst_run _ ?_ w
  unfold Instr.arrayAt
  rw [cst_bind ar.h]
  dsimp only
  rw [if_neg (by omega)]; rfl
/-- an array of bytes is loaded at a slice's address -/
theorem lk_lds {t m nn c : Nat} {x : Operand} {a : Option Addr} {s : List Nat} [hag : AG P t true] [hs : SZ P t m] (hr : SelR As 1 (.slice a nn c) nn (byR s)) (hl : s.length = m) (hn : nn = m) (h0 : 0 < m) (hx : ∀ j, ev (mk l j) x = .pointer a := by intro j; rfl) :
    LookS P ⟨some d, .load t x, oty, pos, af, g⟩ l As (.agg (bcl s).toArray) := .mk fun j H M q => by
  obtain ⟨base, cap, e, _, _, h3⟩ := hr.rd q
  cases e
  subst hn
  obtain ⟨bx, ox, cx, tx, fx, rfl, kx, hsx, hxx⟩ := h3 h0
  refine qt_ldN rfl (hx j) hag.h hs.h kx (by omega) ?_
  rw [Nat.mul_one] at hxx
  rw [hxx, ← hl, flat_byR']
/-- an array that is written out -/
theorem lk_bda {t m el sz : Nat} {ps : List (Nat × Operand)} {z : Array Value} (cells : Array Value) [ar : AR P t m el] [hs : SZ P el sz] [zv : ZV P t (.agg z)] (hf : ∀ j, fillG (fun i => some (i * sz, sz)) z (ps.map fun x => (x.1, ev (mk l j) x.2)) = some cells := by intro j; rfl) :
    LookS P ⟨some d, .build t ps.toArray, oty, pos, af, g⟩ l As (.agg cells) := .mk fun j _ _ _ => by
  refine qt_cst ?_
  show cst P (Instr.build t (ps.toArray.map fun x => (x.1, ev (mk l j) x.2)) >>= fun v => pure (Next.value v)) = _
  have : cst P (Instr.build t (ps.map fun x => (x.1, ev (mk l j) x.2)).toArray) = some (.agg cells) := by
    unfold Instr.build
    rw [cst_bind zv.h, cst_bind ar.h]
    dsimp only
    rw [cst_bind hs.h]
    show cst P (match Instr.fill (fun i => some (i * sz, sz)) z _ with | some cells => _ | _ => _) = _
    rw [fillG_eq, hf j]; rfl
  rw [List.map_toArray, cst_bind this]
  rfl
/-! bytes as a string -/
def strB (l : List Nat) : ByteArray := ⟨(l.map UInt8.ofNat).toArray⟩
theorem strB_inj {a b : List Nat} (ha : Bys a) (hb : Bys b) (h : strB a = strB b) : a = b := by
  have h1 : a.map UInt8.ofNat = b.map UInt8.ofNat := by
    have := congrArg (fun x => x.data.toList) h
    simpa [strB] using this
  have key : ∀ {a b : List Nat}, Bys a → Bys b → a.map UInt8.ofNat = b.map UInt8.ofNat → a = b := by
    intro a
    induction a with
    | nil => intro b _ _ h; cases b with
      | nil => rfl
      | cons => cases h
    | cons x a ih =>
      intro b ha hb h
      cases b with
      | nil => cases h
      | cons y b =>
        rw [List.map_cons, List.map_cons, List.cons.injEq] at h
        have h2 := congrArg UInt8.toNat h.1
        have hx := ha x (List.mem_cons_self ..)
        have hy := hb y (List.mem_cons_self ..)
        simp at h2
        rw [Nat.mod_eq_of_lt (by omega), Nat.mod_eq_of_lt (by omega)] at h2
        rw [h2, ih (fun c hc => ha c (List.mem_cons_of_mem _ hc)) (fun c hc => hb c (List.mem_cons_of_mem _ hc)) h.2]
  exact key ha hb h1
/-! many at once -/
theorem Sat.perm {As Bs : List HP} (h : As.Perm Bs) : ∀ {H M : Heap}, (Sat As).p H M → (Sat Bs).p H M := by
  induction h with
  | nil => exact fun h => h
  | cons x _ ih => exact fun h => star_mono (fun _ _ => ih) h
  | swap x y l => exact fun h => star_swap h
  | trans _ _ ih1 ih2 => exact fun h => ih2 (ih1 h)
def All (ks : List Int) (F : Int → HP) : HP := Sat (ks.map F)
theorem All.perm {ks ks' : List Int} {F : Int → HP} (h : ks.Perm ks') (H M : Heap) (q : (All ks F).p H M) : (All ks' F).p H M := Sat.perm (h.map F) q
theorem All.cons {k : Int} {ks : List Int} {F : Int → HP} (H M : Heap) (q : (All (k :: ks) F).p H M) : ((F k).star (All ks F)).p H M := q
theorem All.snoc {k : Int} {ks : List Int} {F : Int → HP} (H M : Heap) (q : ((F k).star (All ks F)).p H M) : (All (k :: ks) F).p H M := q
theorem All.cg {F G : Int → HP} : ∀ {ks : List Int}, (∀ k ∈ ks, ∀ H M, (F k).p H M → (G k).p H M) → ∀ H M, (All ks F).p H M → (All ks G).p H M
  | [], _, _, _, q => q
  | k :: ks, h, H, M, q => star_monoL (h k (List.mem_cons_self ..)) (star_mono (fun H M q => All.cg (ks := ks) (fun k hk => h k (List.mem_cons_of_mem _ hk)) H M q) q)
theorem All.take {k : Int} {ks : List Int} {F : Int → HP} (hk : k ∈ ks) (H M : Heap) (q : (All ks F).p H M) : ((F k).star (All (ks.erase k) F)).p H M := All.perm (List.perm_cons_erase hk) H M q
end
end Go.Cam
/- slices.Grow and slices.Concat of bytes. -/
namespace Go.Proofs.Ytgbbcpfnmkeijaa
open Go.Cam
set_option maxRecDepth 100000
theorem grow_c (m : Nat) (hm : m + 512 ≤ 140737488355328) : Ctr Try.prog 140 [.slice none 0 0, .int .i64 (m : Int)] [] (fun v Bs => ∃ a cap, v = .slice a 0 cap ∧ Bs = [SA (some 5) 1 (.slice a 0 cap) 0 (fun _ => [])]) := by
  refine s_enter 27 [(0, _), (1, _)] (fun F => [F]) Try.func140 fun F => ?_
  refine go_ ?_
  rw [show decide ((m : Int) < 0) = false from decide_eq_false (by omega)]
  refine go_ ?_
  refine s_look lk_cap ?_
  refine go_ ?_
  rw [show (m : Int) - (((0 : Nat) : Int) - ((0 : Nat) : Int)) = (m : Int) by omega]
  refine go_ ?_
  refine s_if (fun h1 => ?_) (fun h1 => ?_)
  · refine go_ ?_
    refine s_look lk_cap ?_
    refine s_look (lk_slc 0 0 (by omega) (by omega)) ?_
    rw [show Value.slice (sladdr none 1 0 0) (0 - 0) (0 - 0) = Value.slice none 0 0 from rfl]
    refine go_ ?_
    refine s_step (st_appz (m := m) (it := .i64) (o1 := ⟨rfl⟩) (by kernel_rfl) (by omega)) ?_
    rintro _ _ ⟨a, cap, rfl, hc, rfl⟩
    refine go_ ?_
    refine s_open (SA.cut 0 (by omega)) ?_
    refine s_open (SA.cg (fun _ => []) fun i hi => by omega) ?_
    exact s_ret1 (rs := [.tmp 4]) Try.func140 rfl (by intro j; refine RVS.tmp _ rfl ?_; exact RVS.nil) (⟨a, cap, by cases a <;> simp [Addr.add], rfl⟩) (by repeat (first | exact Ent.nil | refine Ent.per (by repeat (first | with_reducible exact Sel.here | with_reducible apply Sel.there)) ?_ | refine Ent.cons (by repeat (first | with_reducible exact Sel.here | with_reducible apply Sel.there)) ?_))
  · refine go_ ?_
    refine s_new0 (e := 5) (sz := 1) (row := fun _ => []) ?_
    exact s_ret1 (rs := [.tmp 4]) Try.func140 rfl (by intro j; refine RVS.tmp _ rfl ?_; exact RVS.nil) (⟨_, _, rfl, rfl⟩) (by repeat (first | exact Ent.nil | refine Ent.per (by repeat (first | with_reducible exact Sel.here | with_reducible apply Sel.there)) ?_ | refine Ent.cons (by repeat (first | with_reducible exact Sel.here | with_reducible apply Sel.there)) ?_))
theorem byR_one (l : List Nat) (n : Nat) : (flat n (byR l)).all one = true := by
  rw [List.all_eq_true]
  intro u hu
  obtain ⟨i, _, h2⟩ := List.mem_flatMap.1 hu
  simp at h2; subst h2; rfl
theorem byR_cat (l m : List Nat) : ∀ i, i < (l ++ m).length → rcat l.length (byR l) (byR m) i = byR (l ++ m) i := by
  intro i hi
  unfold rcat byR
  by_cases h : i < l.length
  · simp [h, List.getD_eq_getElem?_getD, List.getElem?_append_left h]
  · simp [h, List.getD_eq_getElem?_getD, List.getElem?_append_right (Nat.le_of_not_lt h)]
set_option maxHeartbeats 1000000 in
theorem concat_c {o a1 a2 : Option Addr} {c1 c2 : Nat} (l1 l2 : List Nat) (hl : l1.length + l2.length < 1099511627776) : Ctr Try.prog 126 [.slice o 2 2] [SA (some 44) 1 (.slice o 2 2) 2 (rowsOf 1 [.slice a1 l1.length c1, .slice a2 l2.length c2]), BS (.slice a1 l1.length c1) l1, BS (.slice a2 l2.length c2) l2]
    (fun v Bs => ∃ a cap, v = .slice a (l1 ++ l2).length cap ∧ Bs = [SA (some 5) 1 (.slice a (l1 ++ l2).length cap) (l1 ++ l2).length (byR (l1 ++ l2))]) := by
  refine s_enter 36 [(0, _)] (fun F => [_, _, _, F]) Try.func126 fun F => ?_
  refine go_ ?_
  refine s_unroll ?_
  refine go_ ?_
  refine s_look (lk_ixs (v := .slice o 2 2) (i := 0)) ?_
  refine s_look (lk_lde (v := .slice o 2 2) (u := .slice a1 l1.length c1)) ?_
  refine go_ ?_
  refine s_again ?_
  refine go_ ?_
  refine s_look (lk_ixs (v := .slice o 2 2) (i := 1)) ?_
  refine s_look (lk_lde (v := .slice o 2 2) (u := .slice a2 l2.length c2)) ?_
  refine go_ ?_
  refine s_again ?_
  refine go_ ?_
  rw [show (0 : Int) + (l1.length : Int) + (l2.length : Int) = ((l1.length + l2.length : Nat) : Int) by omega]
  refine s_call (sp := (by repeat (first | exact Split.nil | apply Split.perx (by repeat (first | with_reducible exact Sel.here | with_reducible apply Sel.there)) (by infer_instance) | apply Split.cons (by repeat (first | with_reducible exact Sel.here | with_reducible apply Sel.there))))) (hs := grow_c _ (by omega)) (h := ?_)
  rintro v Bs ⟨a, cap, rfl, rfl⟩
  refine go_ ?_
  refine s_unroll ?_
  refine go_ ?_
  refine s_look (lk_ixs (v := .slice o 2 2) (i := 0)) ?_
  refine s_look (lk_lde (v := .slice o 2 2) (u := .slice a1 l1.length c1)) ?_
  refine go_ ?_
  refine s_app (a := a) (len := 0) (cap := cap) (b := a1) (m := l1.length) (c := c1) (by repeat (first | with_reducible exact Sel.here | with_reducible apply Sel.there)) (by repeat (first | with_reducible exact SelR.here | with_reducible apply SelR.there)) (byR_one l1 _) (fun a3 cap3 => ?_)
  refine go_ ?_
  refine s_again ?_
  refine go_ ?_
  refine s_look (lk_ixs (v := .slice o 2 2) (i := 1)) ?_
  refine s_look (lk_lde (v := .slice o 2 2) (u := .slice a2 l2.length c2)) ?_
  refine go_ ?_
  refine s_app (a := a3) (len := 0 + l1.length) (cap := cap3) (b := a2) (m := l2.length) (c := c2) (by repeat (first | with_reducible exact Sel.here | with_reducible apply Sel.there)) (by repeat (first | with_reducible exact SelR.here | with_reducible apply SelR.there)) (byR_one l2 _) (fun a4 cap4 => ?_)
  refine go_ ?_
  refine s_again ?_
  refine go_ ?_
  refine s_open (SA.cg (byR (l1 ++ l2)) fun i hi => ?_) ?_
  · rw [← byR_cat l1 l2 i (by simp; omega)]
    unfold rcat
    simp
  rw [show 0 + l1.length + l2.length = (l1 ++ l2).length by simp]
  exact s_ret1 (rs := [.tmp 2]) Try.func126 rfl (by intro j; refine RVS.tmp _ rfl ?_; exact RVS.nil) (⟨_, _, rfl, rfl⟩) (by repeat (first | exact Ent.nil | refine Ent.per (by repeat (first | with_reducible exact Sel.here | with_reducible apply Sel.there)) ?_ | refine Ent.cons (by repeat (first | with_reducible exact Sel.here | with_reducible apply Sel.there)) ?_))
/-- bytes behind others, in memory of its own -/
theorem join_c {a1 a2 : Option Addr} {c1 c2 : Nat} (l1 l2 : List Nat) (hl : l1.length + l2.length < 1099511627776) : Ctr Try.prog 114 [.slice a1 l1.length c1, .slice a2 l2.length c2] [BS (.slice a1 l1.length c1) l1, BS (.slice a2 l2.length c2) l2]
    (fun v Bs => ∃ a cap, v = .slice a (l1 ++ l2).length cap ∧ Bs = [SA (some 5) 1 (.slice a (l1 ++ l2).length cap) (l1 ++ l2).length (byR (l1 ++ l2))]) := by
  refine s_enter 9 [(0, _), (1, _)] (fun F => [_, _, F]) Try.func114 fun F => ?_
  refine go_ ?_
  refine s_bs (cells := [.slice a1 l1.length c1, .slice a2 l2.length c2]) (fun o => ?_) (fun j => rfl)
  refine s_call (sp := (by repeat (first | exact Split.nil | apply Split.perx (by repeat (first | with_reducible exact Sel.here | with_reducible apply Sel.there)) (by infer_instance) | apply Split.cons (by repeat (first | with_reducible exact Sel.here | with_reducible apply Sel.there))))) (hs := concat_c l1 l2 hl) (h := ?_)
  rintro v Bs ⟨a, cap, rfl, rfl⟩
  refine go_ ?_
  exact s_ret1 (rs := [.tmp 4]) Try.func114 rfl (by intro j; refine RVS.tmp _ rfl ?_; exact RVS.nil) (⟨_, _, rfl, rfl⟩) (by repeat (first | exact Ent.nil | refine Ent.per (by repeat (first | with_reducible exact Sel.here | with_reducible apply Sel.there)) ?_ | refine Ent.cons (by repeat (first | with_reducible exact Sel.here | with_reducible apply Sel.there)) ?_))
end Go.Proofs.Ytgbbcpfnmkeijaa
/- What may be seen otherwise between two steps: frozen slices. -/
namespace Go.Cam
theorem sat1 {F : HP} {H M : Heap} (h : F.p H M) : (Sat [F]).p H M := ⟨M, fun _ => none, Le.refl _, (fun _ _ h => nomatch h), fun _ => .inr rfl, h, trivial⟩
/-- what holds may be seen otherwise, whatever stands beside it -/
def View (Bs Cs : List HP) : Prop := ∀ (F : HP) w0 w H M, Has w0 w H M → ((Sat Bs).star F).p H M → ∃ H' M', Has w0 w H' M' ∧ ((Sat Cs).star F).p H' M'
theorem View.refl (Bs : List HP) : View Bs Bs := fun _ _ _ H M hh q => ⟨H, M, hh, q⟩
theorem View.trans {A B C : List HP} (h : View A B) (g : View B C) : View A C := fun F w0 w H M hh q => by
  obtain ⟨H1, M1, h1, q1⟩ := h F w0 w H M hh q
  exact g F w0 w H1 M1 h1 q1
theorem View.imp {A B : List HP} (h : ∀ H M, (Sat A).p H M → (Sat B).p H M) : View A B := fun F w0 w H M hh q => ⟨H, M, hh, star_monoL h q⟩
theorem star_assoc {A B C : HP} {H M : Heap} (h : ((A.star B).star C).p H M) : (A.star (B.star C)).p H M := by
  have h1 := star_comm h
  have h2 := star_swap h1
  exact star_mono (fun _ _ q => star_comm q) h2
theorem star_assoc' {A B C : HP} {H M : Heap} (h : (A.star (B.star C)).p H M) : ((A.star B).star C).p H M := by
  have h1 : (A.star (C.star B)).p H M := star_mono (fun _ _ q => star_comm q) h
  exact star_comm (star_swap h1)
theorem View.cons {a : HP} {A B : List HP} (h : View A B) : View (a :: A) (a :: B) := fun F w0 w H M hh q => by
  obtain ⟨H1, M1, h1, q1⟩ := h (a.star F) w0 w H M hh (star_swap (star_assoc q))
  exact ⟨H1, M1, h1, star_assoc' (star_swap q1)⟩
theorem View.head {a b : HP} {A : List HP} (h : View [a] [b]) : View (a :: A) (b :: A) := fun F w0 w H M hh q => by
  have q1 : ((Sat [a]).star ((Sat A).star F)).p H M := star_monoL (fun H M h => sat1 h) (star_assoc q)
  obtain ⟨H1, M1, h1, q2⟩ := h _ w0 w H M hh q1
  exact ⟨H1, M1, h1, star_assoc' (star_monoL (fun H M h => star_fst h) q2)⟩
theorem View.fz {e sz : Nat} {v : Value} {len : Nat} {row : Nat → List Value} : View [SA (some e) sz v len row] [SA none sz v len row] := fun F w0 w H M hh q => by
  obtain ⟨M1, M2, a1, a2, dj, hA0, hB⟩ := q
  obtain ⟨hr1, hr2, hown, base, cap, hv⟩ := star_fst hA0
  subst hv
  rcases hown with ⟨h1, h2⟩ | ⟨b, ln, cp, cs, h1, h2, h3, h4, h5, h6⟩
  · cases h1
    exact ⟨H, M, hh, star_monoL (fun _ _ h => sat1 h) (per_add (A := SA none sz (.slice none 0 0) 0 row) (M0 := M) ⟨none, 0, rfl, Nat.le_refl _, hr1, fun h => by omega⟩ (F.mono (Le.refl _) a2 hB))⟩
  · cases h1
    obtain ⟨g1, g2⟩ := own_freeze (b := b) (o := .cells cs e (0, 0)) (X := F) hh.d ⟨M1, M2, a1, a2, dj, h5, hB⟩
    refine ⟨_, _, g1 _ _ hh, star_monoL (fun _ _ h => sat1 h) (per_add (A := SA none sz (.slice (some ⟨b, 0, none⟩) len cap) len row) (M0 := M) ⟨_, _, rfl, h4, hr1, fun h0 => ⟨b, 0, cs, e, (0, 0), rfl, upd_same _ _ _, ?_, ?_⟩⟩ g2)⟩
    · rw [h3]; have := Nat.mul_le_mul_right sz h4; omega
    · apply Array.ext'
      rw [Array.toList_extract, List.extract_eq_take_drop]
      rw [flat_len hr1] at h6
      simpa using h6
theorem View.fzO {e sz : Nat} {v : Value} {len : Nat} {row : Nat → List Value} : View [SO e sz v len row] [SA none sz v len row] := fun F w0 w H M hh q => by
  obtain ⟨M1, M2, a1, a2, dj, hA0, hB⟩ := q
  rcases star_fst hA0 with hA | ⟨rfl, a, rfl⟩
  · exact View.fz (e := e) F w0 w H M hh ⟨M1, M2, a1, a2, dj, sat1 hA, hB⟩
  · exact ⟨H, M, hh, star_monoL (fun _ _ h => sat1 h) (per_add (A := SA none sz (.slice a 0 0) 0 row) (M0 := M) ⟨a, 0, rfl, Nat.le_refl _, fun i hi => by omega, fun h => by omega⟩ (F.mono (Le.refl _) a2 hB))⟩
theorem Ctr.view {P : Program} {f : FuncId} {args : List Value} {As : List HP} {Q Q' : Value → List HP → Prop} (h : Ctr P f args As Q) (hv : ∀ v Bs, Q v Bs → ∃ Cs, Q' v Cs ∧ View Bs Cs) : Ctr P f args As Q' := fun F H M s w0 w hh => by
  refine (h F H M s w0 w hh).mono fun e w2 ⟨r, H', M', he, h2, Bs, hq, hb⟩ => ?_
  obtain ⟨Cs, hq', hw⟩ := hv r Bs hq
  obtain ⟨H3, M3, h3, h4⟩ := hw F w0 w2 H' M' h2 (star_mono (fun _ _ => sat_one) (Sat.part hb))
  exact ⟨r, H3, M3, he, h3, Cs, hq', Sat.join h4⟩
theorem Ctr.pre {P : Program} {f : FuncId} {args : List Value} {As Bs : List HP} {Q : Value → List HP → Prop} (h : Ctr P f args As Q) (he : ∀ H M, (Sat Bs).p H M → (Sat As).p H M) : Ctr P f args Bs Q := fun F H M s =>
  h F H M (Sat.join (star_monoL he (star_mono (fun _ _ => sat_one) (Sat.part s))))
/-- what the contract does not ask for stays beside it -/
theorem Ctr.frame {P : Program} {f : FuncId} {args : List Value} {As : List HP} {Q : Value → List HP → Prop} (h : Ctr P f args As Q) (X : List HP) : Ctr P f args (As ++ X) (fun v Bs => ∃ Cs, Q v Cs ∧ Bs = Cs ++ X) := fun F H M s => by
  have s1 : (Sat (As ++ [Sat (X ++ [F])])).p H M := by
    rw [List.append_assoc] at s
    exact Sat.join (Sat.part s)
  refine fun w0 w hh => (h (Sat (X ++ [F])) H M s1 w0 w hh).mono fun e w2 ⟨r, H', M', he, h2, Bs, hq, hb⟩ => ⟨r, H', M', he, h2, Bs ++ X, ⟨Bs, hq, rfl⟩, ?_⟩
  rw [List.append_assoc]; exact Sat.app hb
theorem s_view {P : Program} {f : FuncId} {n : Nat} {R : Value → HP} {k : List It} {l : List (Nat × Value)} {As Bs : List HP} (hv : View As Bs) (h : RunS P f n R k l Bs) : RunS P f n R k l As := .mk fun H M s => by
  intro j w0 w a bb cs' k' hk hh ha hf hn
  obtain ⟨H1, M1, h1, h2⟩ := hv .emp w0 w H M hh ⟨M, fun _ => none, Le.refl _, (fun _ _ h => nomatch h), fun _ => .inr rfl, s, trivial⟩
  exact h _ _ (star_fst h2) j w0 w a bb cs' k' hk h1 ha hf hn
/-- a block of bytes, read as a slice -/
theorem rd_BA {r ty : Nat} {x : List Nat} (p m c : Nat) (h : p + m ≤ x.length) (hc : m ≤ c) : Rd (BA r ty x) 1 (.slice (some ⟨r, p, none⟩) m c) m (byR ((x.drop p).take m)) := ⟨fun H M q => ⟨_, _, rfl, hc, fun _ _ => rfl, fun _ => ⟨r, p, _, ty, (0, 0), rfl, .inl q, by simp; omega, by
  have hl : ((x.drop p).take m).length = m := by simp; omega
  have := flat_byR' ((x.drop p).take m)
  rw [hl] at this
  rw [this, Nat.mul_one, extract_list]
  simp [bcl, List.map_drop, List.map_take]⟩⟩⟩
section
variable {P : Program} {l : List (Nat × Value)} {As : List HP} {d : Nat} {oty : TypeId} {pos : String} {af : Array Edge} {g : Option (Nat × Bool)}
/-- a closure is made -/
theorem lk_mkf {fn : Fn} {cs : List Operand} {vs : List Value} (h : ∀ j, cs.map (ev (mk l j)) = vs := by intro j; rfl) :
    LookS P ⟨some d, .makeFunc fn #[] cs.toArray, oty, pos, af, g⟩ l As (.func fn #[] vs.toArray) := .mk fun j H M _ => by
  refine qt_cst ?_
  show cst P (Instr.makeFunc fn (#[].map (ev (mk l j))) (cs.toArray.map (ev (mk l j))) >>= fun v => pure (Next.value v)) = _
  have e : cs.toArray.map (ev (mk l j)) = vs.toArray := by rw [List.map_toArray, h j]
  rw [e]; simp [Instr.makeFunc]; rfl
theorem lk_mkf1 {fn : Fn} {x0 : Operand} {v0 : Value} (h0 : ∀ j, ev (mk l j) x0 = v0 := by intro j; rfl) :
    LookS P ⟨some d, .makeFunc fn #[] #[x0], oty, pos, af, g⟩ l As (.func fn #[] #[v0]) := lk_mkf (cs := [x0]) (vs := [v0]) (by intro j; simp only [List.map_cons, List.map_nil, h0 j])
theorem lk_mkf2 {fn : Fn} {x0 x1 : Operand} {v0 v1 : Value} (h0 : ∀ j, ev (mk l j) x0 = v0 := by intro j; rfl) (h1 : ∀ j, ev (mk l j) x1 = v1 := by intro j; rfl) :
    LookS P ⟨some d, .makeFunc fn #[] #[x0, x1], oty, pos, af, g⟩ l As (.func fn #[] #[v0, v1]) := lk_mkf (cs := [x0, x1]) (vs := [v0, v1]) (by intro j; simp only [List.map_cons, List.map_nil, h0 j, h1 j])
theorem lk_mkf3 {fn : Fn} {x0 x1 x2 : Operand} {v0 v1 v2 : Value} (h0 : ∀ j, ev (mk l j) x0 = v0 := by intro j; rfl) (h1 : ∀ j, ev (mk l j) x1 = v1 := by intro j; rfl) (h2 : ∀ j, ev (mk l j) x2 = v2 := by intro j; rfl) :
    LookS P ⟨some d, .makeFunc fn #[] #[x0, x1, x2], oty, pos, af, g⟩ l As (.func fn #[] #[v0, v1, v2]) := lk_mkf (cs := [x0, x1, x2]) (vs := [v0, v1, v2]) (by intro j; simp only [List.map_cons, List.map_nil, h0 j, h1 j, h2 j])
theorem lk_mkf4 {fn : Fn} {x0 x1 x2 x3 : Operand} {v0 v1 v2 v3 : Value} (h0 : ∀ j, ev (mk l j) x0 = v0 := by intro j; rfl) (h1 : ∀ j, ev (mk l j) x1 = v1 := by intro j; rfl) (h2 : ∀ j, ev (mk l j) x2 = v2 := by intro j; rfl) (h3 : ∀ j, ev (mk l j) x3 = v3 := by intro j; rfl) :
    LookS P ⟨some d, .makeFunc fn #[] #[x0, x1, x2, x3], oty, pos, af, g⟩ l As (.func fn #[] #[v0, v1, v2, v3]) := lk_mkf (cs := [x0, x1, x2, x3]) (vs := [v0, v1, v2, v3]) (by intro j; simp only [List.map_cons, List.map_nil, h0 j, h1 j, h2 j, h3 j])
theorem lk_mkf5 {fn : Fn} {x0 x1 x2 x3 x4 : Operand} {v0 v1 v2 v3 v4 : Value} (h0 : ∀ j, ev (mk l j) x0 = v0 := by intro j; rfl) (h1 : ∀ j, ev (mk l j) x1 = v1 := by intro j; rfl) (h2 : ∀ j, ev (mk l j) x2 = v2 := by intro j; rfl) (h3 : ∀ j, ev (mk l j) x3 = v3 := by intro j; rfl) (h4 : ∀ j, ev (mk l j) x4 = v4 := by intro j; rfl) :
    LookS P ⟨some d, .makeFunc fn #[] #[x0, x1, x2, x3, x4], oty, pos, af, g⟩ l As (.func fn #[] #[v0, v1, v2, v3, v4]) := lk_mkf (cs := [x0, x1, x2, x3, x4]) (vs := [v0, v1, v2, v3, v4]) (by intro j; simp only [List.map_cons, List.map_nil, h0 j, h1 j, h2 j, h3 j, h4 j])
theorem lk_mkf6 {fn : Fn} {x0 x1 x2 x3 x4 x5 : Operand} {v0 v1 v2 v3 v4 v5 : Value} (h0 : ∀ j, ev (mk l j) x0 = v0 := by intro j; rfl) (h1 : ∀ j, ev (mk l j) x1 = v1 := by intro j; rfl) (h2 : ∀ j, ev (mk l j) x2 = v2 := by intro j; rfl) (h3 : ∀ j, ev (mk l j) x3 = v3 := by intro j; rfl) (h4 : ∀ j, ev (mk l j) x4 = v4 := by intro j; rfl) (h5 : ∀ j, ev (mk l j) x5 = v5 := by intro j; rfl) :
    LookS P ⟨some d, .makeFunc fn #[] #[x0, x1, x2, x3, x4, x5], oty, pos, af, g⟩ l As (.func fn #[] #[v0, v1, v2, v3, v4, v5]) := lk_mkf (cs := [x0, x1, x2, x3, x4, x5]) (vs := [v0, v1, v2, v3, v4, v5]) (by intro j; simp only [List.map_cons, List.map_nil, h0 j, h1 j, h2 j, h3 j, h4 j, h5 j])
/-- a part of a slice, told as one likes -/
theorem lk_slv (p q : Nat) {t : TypeId} {x : Operand} {lo hi : Option Operand} {a : Option Addr} {len cap el sz : Nat} (v : Value) [SC P t el] [SZ P el sz]
    (hx : ∀ j, ev (mk l j) x = .slice a len cap := by intro j; rfl) (hl : p ≤ q := by omega) (hh : q ≤ cap := by omega) (hlo : ∀ j, loB (mk l j) lo p := by intro j; first | rfl | exact ⟨_, rfl⟩) (hhi : ∀ j, hiB (mk l j) hi len q := by intro j; first | rfl | exact ⟨_, rfl⟩) (he : Value.slice (sladdr a sz p cap) (q - p) (cap - p) = v := by rfl) :
    LookS P ⟨some d, .slice t x lo hi none, oty, pos, af, g⟩ l As v := by
  rw [← he]; exact lk_slc p q hl hh hx hlo hhi
end
end Go.Cam
/- Assertions that hide what they are made of. -/
namespace Go.Cam
def EX {α : Type} (φ : α → Prop) (X : α → List HP) : HP := ⟨fun H M => ∃ x, φ x ∧ (Sat (X x)).p H M, fun h1 h2 ⟨x, h, q⟩ => ⟨x, h, (Sat (X x)).mono h1 h2 q⟩⟩
theorem EX.mk {α : Type} {φ : α → Prop} {X : α → List HP} (x : α) (h : φ x) (H M : Heap) (q : (Sat (X x)).p H M) : (EX φ X).p H M := ⟨x, h, q⟩
theorem Sat.pushL {As Bs : List HP} {H M : Heap} (q : ((Sat As).star (Sat Bs)).p H M) : (Sat (As ++ Bs)).p H M := Sat.app (Sat.join q)
section
variable {P : Program} {f : FuncId} {n : Nat} {R : Value → HP} {k : List It} {l : List (Nat × Value)} {As Bs Rs Zs : List HP} {all : Array Oper} {rest os : List Oper} {d : Nat} {dd : Option Nat} {oty : TypeId} {pos : String} {af : Array Edge} {g : Option (Nat × Bool)}
theorem s_opn {α : Type} {φ : α → Prop} {X : α → List HP} (u : Sel (EX φ X) As Bs) (h : ∀ x, φ x → RunS P f n R k l (X x ++ Bs)) : RunS P f n R k l As := .mk fun H M s => by
  obtain ⟨M1, M2, a1, a2, d, ⟨x, hφ, hA⟩, hB⟩ := u.sat s
  exact h x hφ H M (Sat.pushL ⟨M1, M2, a1, a2, d, hA, hB⟩)
theorem s_cls {α : Type} {φ : α → Prop} {X : α → List HP} (x : α) (hφ : φ x) (sp : Split As (X x) Rs) (h : RunS P f n R k l (EX φ X :: Rs)) : RunS P f n R k l As := .mk fun H M s => by
  have h1 := sp.sat s
  have h2 : ((Sat (X x)).star (Sat Rs)).p H M := star_mono (fun _ _ => sat_one) (Sat.part h1)
  exact h H M (star_monoL (C := EX φ X) (fun H M q => ⟨x, hφ, q⟩) h2)
/-- many at once: one of them -/
theorem s_take {ks : List Int} {F : Int → HP} {kk : Int} (u : Sel (All ks F) As Bs) (hk : kk ∈ ks) (h : RunS P f n R k l (F kk :: All (ks.erase kk) F :: Bs)) : RunS P f n R k l As := .mk fun H M s =>
  h H M (star_assoc (star_monoL (fun H M q => All.take hk H M q) (u.sat s)))
theorem s_put {ks : List Int} {F : Int → HP} {kk : Int} (u : Sel (All ks F) As Bs) (u2 : Sel (F kk) Bs Rs) (h : RunS P f n R k l (All (kk :: ks) F :: Rs)) : RunS P f n R k l As := .mk fun H M s => by
  have h1 := star_mono (fun _ _ q => u2.sat q) (u.sat s)
  exact h H M (star_assoc' (star_swap h1))
theorem s_allp {ks ks' : List Int} {F : Int → HP} (u : Sel (All ks F) As Bs) (hp : ks.Perm ks') (h : RunS P f n R k l (All ks' F :: Bs)) : RunS P f n R k l As := .mk fun H M s => h H M (star_monoL (All.perm hp) (u.sat s))
theorem s_allc {ks : List Int} {F : Int → HP} (G : Int → HP) (u : Sel (All ks F) As Bs) (hc : ∀ k ∈ ks, ∀ H M, (F k).p H M → (G k).p H M) (h : RunS P f n R k l (All ks G :: Bs)) : RunS P f n R k l As := .mk fun H M s => h H M (star_monoL (All.cg hc) (u.sat s))
theorem s_all0 {F : Int → HP} (h : RunS P f n R k l (All [] F :: As)) : RunS P f n R k l As := .mk fun H M s => h H M (per_add (A := .emp) (M0 := M) trivial s)
/-- nothing, as a slice of one's own -/
theorem s_newO {e : Nat} {sz : Nat} {row : Nat → List Value} (h : RunS P f n R k l (SO e sz (.slice none 0 0) 0 row :: As)) : RunS P f n R k l As := s_new0 (e := e) (sz := sz) (row := row) (s_open SO.of h)
/-- a slice of one element is written out -/
theorem st_bs1 {t e sz bytes : Nat} {x : Operand} {v z : Value} {cells : List Value} [sl : SL P t e sz bytes] [zv : ZV P e z] (hn : cells.length = sz) (hx : ∀ j, ev (mk l j) x = v := by intro j; rfl) (hc : Cel v cells := by infer_instance) (hm : sz ≤ 16777216 := by decide) :
    StepL P ⟨dd, .buildSlice t 1 #[(0, x)], oty, pos, af, g⟩ l As (fun v Bs => ∃ a, v = .slice a 1 1 ∧ Bs = SA (some e) sz (.slice a 1 1) 1 (fun _ => cells) :: As) := .mk fun j Fs H M s => by
  have hsz : 0 < sz := by obtain ⟨_, _, _, _, _, _, _, _, _, h⟩ := sl.h; exact h
  haveI : OneL cells := ⟨hc.o⟩
  have e0 : v.cells.size = sz := by have := hc.h; rw [← hn, ← this]; simp
  have hf : ∀ j, fillG (fun i => some (i * sz, sz)) (tab (1 * sz) fun i => z.cells[i % z.cells.size]!) ([(0, x)].map fun x => (x.1, ev (mk l j) x.2)) = some cells.toArray := fun j => by
    simp only [List.map_cons, List.map_nil, hx j]
    simp only [fillG, Nat.zero_mul, Nat.one_mul]
    rw [if_neg (by simp [e0, tab_size]), hc.h, setL_whole (by rw [tab_size, hn])]
  have h1 := st_bs (P := P) (l := l) (As := As) (dd := dd) (oty := oty) (pos := pos) (af := af) (g := g) (t := t) (len := 1) (ps := [(0, x)]) (cells := cells) hf (by omega) (by omega) (by rw [Nat.one_mul, hn]; simp)
  refine hmc_mono (h1.h j Fs H M s) fun v H' M' ⟨Bs, ⟨a, hv, hb⟩, hq⟩ => ⟨_, ⟨a, hv, rfl⟩, ?_⟩
  subst hb
  refine star_monoL (fun H M q => ?_) hq
  exact SA_cg1 (fun i hi => by
    have : i = 0 := by omega
    subst this; rw [← hn]; exact rowsOf_one cells) q
/-- an element of a slice, its number told otherwise -/
theorem lk_ixz (i : Nat) {t : TypeId} {x y : Operand} {elem sz m : Nat} {z : Int} {kd : IntKind} {v : Value} {row : Nat → List Value} [hu : SC P t elem] [hs : SZ P elem sz] (s : SelR As sz v m row) (hx : ∀ j, ev (mk l j) x = v := by intro j; rfl)
    (hy : ∀ j, ev (mk l j) y = .int kd z := by intro j; rfl) (hz : z = (i : Int) := by omega) (hi : i < m := by omega) :
    LookS P ⟨some d, .indexAddr t x y, oty, pos, af, g⟩ l As (eptr v sz i 0) := lk_ixs hx (by intro j; rw [hy j, hz]) s hi
/-- a whole element is loaded -/
theorem lk_lde1 {t : TypeId} {x : Operand} {sz m i : Nat} {v : Value} {row : Nat → List Value} [hag : AG P t true] [hs : SZ P t sz] (s : SelR As sz v m row) (hx : ∀ j, ev (mk l j) x = eptr v sz i 0 := by intro j; rfl) (hi : i < m := by omega) :
    LookS P ⟨some d, .load t x, oty, pos, af, g⟩ l As (.agg (row i).toArray) := .mk fun j H M q => by
  have hl : (row i).length = sz := by obtain ⟨_, _, _, _, h, _⟩ := s.rd q; exact h i hi
  haveI : PartL (row i) 0 sz (row i) := ⟨by rw [List.drop_zero, ← hl, List.take_length]⟩
  exact (lk_ldeN (fo := 0) hx s this (by omega) hi).h j H M q
theorem s_steps {K : Value → List HP → Prop} {op : Op} (hs : StepL P ⟨some d, op, oty, pos, af, g⟩ l As K) (h : ∀ v Bs, K v Bs → RunS P f n R (.ops all rest :: k) ((d, v) :: l) Bs) (hd : Nat.blt d n = true := by rfl)
    (hw : ∀ j, wantE ⟨some d, op, oty, pos, af, g⟩ all (mk l j) = true := by intro j; rfl) : RunS P f n R (.ops all (⟨some d, op, oty, pos, af, g⟩ :: rest) :: k) l As := s_step hs h hd hw
end
/-- a stronger end of a contract -/
theorem Ctr.post {P : Program} {f : FuncId} {args : List Value} {As : List HP} {Q Q' : Value → List HP → Prop} (h : Ctr P f args As Q) (hq : ∀ v Bs, Q v Bs → ∃ Cs, Q' v Cs ∧ ∀ H M, (Sat Bs).p H M → (Sat Cs).p H M) : Ctr P f args As Q' :=
  h.view fun v Bs q => by obtain ⟨Cs, h1, h2⟩ := hq v Bs q; exact ⟨Cs, h1, View.imp h2⟩
end Go.Cam
