/- Blocks of bytes; copies; arrays out of slices; bytes as a string; many assertions at once. -/
import Derived.Test.YtldonbnjefhfdaaCamAG
namespace Go.Cam
abbrev bcl (l : List Nat) : List Value := l.map fun (c : Nat) => .int .u8 (c : Int)
/-- bytes, as a slice's row -/
abbrev byR (l : List Nat) (i : Nat) : List Value := [.int .u8 ((l.getD i 0 : Nat) : Int)]
abbrev BS (v : Value) (l : List Nat) : HP := SA none 1 v l.length (byR l)
def Bys (l : List Nat) : Prop := ∀ c, c ∈ l → c < 256
theorem Bys.drop {l : List Nat} (h : Bys l) (n : Nat) : Bys (l.drop n) := fun c hc => h c (List.mem_of_mem_drop hc)
theorem Bys.take {l : List Nat} (h : Bys l) (n : Nat) : Bys (l.take n) := fun c hc => h c (List.mem_of_mem_take hc)
theorem Bys.app {l m : List Nat} (h : Bys l) (h2 : Bys m) : Bys (l ++ m) := fun c hc => (List.mem_append.1 hc).elim (h c) (h2 c)
theorem Bys.nil : Bys [] := fun c hc => (nomatch hc)
theorem Bys.zeros (n : Nat) : Bys (List.replicate n 0) := fun c hc => by rw [(List.mem_replicate.1 hc).2]; decide
theorem flat_byR' (l : List Nat) : flat l.length (byR l) = bcl l := by
  unfold flat
  apply List.ext_getElem?
  intro i
  have : ∀ (n : Nat) (f : Nat → Value), (List.range n).flatMap (fun i => [f i]) = (List.range n).map f := fun n f => by
    induction List.range n with
    | nil => rfl
    | cons x xs ih => rw [List.flatMap_cons, ih]; rfl
  show ((List.range l.length).flatMap fun i => [Value.int .u8 ((l.getD i 0 : Nat) : Int)])[i]? = _
  rw [this]
  by_cases h : i < l.length
  · simp [bcl, h, List.getD_eq_getElem?_getD]
  · simp [bcl, h]
/-- a block of bytes of one's own -/
abbrev BA (r ty : Nat) (l : List Nat) : HP := .own r (.cells (bcl l).toArray ty (0, 0))
theorem bcl_one (l : List Nat) : (bcl l).all one = true := by
  rw [List.all_eq_true]; intro u hu; obtain ⟨c, _, rfl⟩ := List.mem_map.1 hu; rfl
instance {l : List Nat} : Cel (.agg (bcl l).toArray) (bcl l) := ⟨rfl, bcl_one l⟩
theorem SA.full {e sz n : Nat} {a : Option Addr} {row : Nat → List Value} (h0 : 0 < n) {H M : Heap} (h : (SA (some e) sz (.slice a n n) n row).p H M) : ∃ r, a = some ⟨r, 0, none⟩ ∧ (HP.own r (.cells (flat n row).toArray e (0, 0))).p H M := by
  obtain ⟨h1, h2, hown, _⟩ := h
  rcases hown with ⟨h1, _⟩ | ⟨b, ln, cp, cs, e1, h3, h4, h5, h6, h7⟩
  · cases h1; omega
  · cases e1
    refine ⟨b, rfl, ?_⟩
    have : cs = (flat n row).toArray := by
      apply Array.ext'
      rw [← h7, List.take_of_length_le]
      simp [h3, h4]
    rw [← this]; exact h6
/-- bytes that are laid over others, from a place on -/
def over (l : List Nat) (off : Nat) (x : List Nat) : List Nat := l.take off ++ x ++ l.drop (off + x.length)
theorem over_len {l x : List Nat} {off : Nat} (h : off + x.length ≤ l.length) : (over l off x).length = l.length := by simp [over]; omega
theorem setL_list (l vs : List Value) (off : Nat) (h : off + vs.length ≤ l.length) : setL l.toArray off vs = (l.take off ++ vs ++ l.drop (off + vs.length)).toArray := by
  apply Array.ext_getElem?
  intro i
  by_cases hi : i < l.length
  · rw [setL_get _ _ _ _ (by simpa using hi)]
    simp only [List.getElem?_toArray]
    by_cases h1 : off ≤ i ∧ i < off + vs.length
    · rw [if_pos h1, List.getElem?_append_left (by simp; omega), List.getElem?_append_right (by simp; omega)]
      congr 1; simp; omega
    · rw [if_neg h1]
      by_cases h2 : i < off
      · rw [List.getElem?_append_left (by simp; omega), List.getElem?_append_left (by simp; omega), List.getElem?_take, if_pos h2]
      · rw [List.getElem?_append_right (by simp; omega), List.getElem?_drop]
        congr 1; simp; omega
  · rw [Array.getElem?_eq_none (by rw [setL_size]; simp; omega), Array.getElem?_eq_none (by simp; omega)]
theorem setL_bcl (l x : List Nat) (off : Nat) (h : off + x.length ≤ l.length) : setL (bcl l).toArray off (bcl x) = (bcl (over l off x)).toArray := by
  rw [setL_list _ _ _ (by simpa using h)]
  simp [over, bcl, List.map_take, List.map_drop]
section
variable {P : Program} {f : FuncId} {n : Nat} {R : Value → HP} {k : List It} {l : List (Nat × Value)} {As Bs : List HP} {all : Array Oper} {rest : List Oper} {d : Nat} {dd : Option Nat} {oty : TypeId} {pos : String} {af : Array Edge} {g : Option (Nat × Bool)}
theorem s_full {e sz m : Nat} {a : Option Addr} {row : Nat → List Value} (u : Sel (SA (some e) sz (.slice a m m) m row) As Bs) (h0 : 0 < m) (h : ∀ r, a = some ⟨r, 0, none⟩ → RunS P f n R k l (.own r (.cells (flat m row).toArray e (0, 0)) :: Bs)) : RunS P f n R k l As := .mk fun H M s => by
  obtain ⟨M1, M2, a1, a2, dj, hA, hB⟩ := u.sat s
  obtain ⟨r, h1, h2⟩ := SA.full h0 hA
  exact h r h1 H M ⟨M1, M2, a1, a2, dj, h2, hB⟩
/-- a part of a block of bytes may be only read from now on -/
theorem s_fzB (p q c : Nat) {r ty : Nat} {x : List Nat} (u : Sel (BA r ty x) As Bs) (hp : p ≤ q) (hq : q ≤ x.length) (hc : q - p ≤ c) (h : RunS P f n R k l (BS (.slice (some ⟨r, p, none⟩) (q - p) c) ((x.take q).drop p) :: Bs)) : RunS P f n R k l As := by
  have hl : ((x.take q).drop p).length = q - p := by simp; omega
  refine s_fzo (off := p) (m := q - p) (c := c) (sz := 1) (row := byR ((x.take q).drop p)) u (fun _ _ => rfl) hc (by simp; omega) ?_ ?_
  · rw [show flat (q - p) (byR ((x.take q).drop p)) = bcl ((x.take q).drop p) by rw [← hl]; exact flat_byR' _]
    apply Array.ext'
    rw [Array.toList_extract, List.extract_eq_take_drop]
    simp only [bcl, List.map_drop, List.map_take, Nat.mul_one, Nat.add_sub_cancel_left, List.drop_take]
  · have e1 : SA none 1 (.slice (some ⟨r, p, none⟩) (q - p) c) (q - p) (byR ((x.take q).drop p)) = BS (.slice (some ⟨r, p, none⟩) (q - p) c) ((x.take q).drop p) := by unfold BS; rw [hl]
    rw [e1]; exact h
/-- a whole block of bytes is stored -/
theorem st_stB {t : TypeId} {x y : Operand} {b m : Nat} {c c' : List Nat} {ty : TypeId} {As' : List HP} [hs : SZ P t m] (h1 : c.length = m) (h2 : c'.length = m)
    (hx : ∀ j, ev (mk l j) x = .pointer (some ⟨b, 0, none⟩) := by intro j; rfl) (hy : ∀ j, ev (mk l j) y = .agg (bcl c').toArray := by intro j; rfl)
    (u : Upd (BA b ty c) (BA b ty c') As As' := by repeat (first | with_reducible exact Upd.here | with_reducible apply Upd.there)) :
    StepL P ⟨dd, .store t x y, oty, pos, af, g⟩ l As (fun _ Bs => Bs = As') := .mk fun j Fs H M q => by
  obtain ⟨Cs, s1, s2⟩ := (u.app Fs).sels
  obtain ⟨hb, hq⟩ := own_write (o' := .cells (bcl c').toArray ty (0, 0)) (s1.sat q)
  refine hmc_of_hm ?_
  show hm P (Instr.storeAt t (ev (mk l j) x) (ev (mk l j) y) >>= fun _ => pure Next.skip) H M _
  rw [hx j, hy j]
  refine hm_bind (hm_st hs.h hb (by simp [Value.cells, h2]) (by simp [h1]) (fun j _ _ h => by omega) (fun u hu => List.all_eq_true.1 (bcl_one c') u hu) (hm_pure ⟨undef, .inr ⟨rfl, rfl⟩, As', rfl, ?_⟩))
  have : setL (bcl c).toArray 0 (Value.agg (bcl c').toArray).cells.toList = (bcl c').toArray := by
    show setL _ 0 (bcl c') = _
    rw [setL_whole (by simp [h1, h2])]
  rw [this]; exact s2.back hq
/-- an array of bytes is made -/
theorem st_alB {t m : TypeId} [zv : ZV P t (.agg (List.replicate m (.int .u8 0)).toArray)] :
    StepL P ⟨dd, .alloc t, oty, pos, af, g⟩ l As (fun v Bs => ∃ r, v = .pointer (some ⟨r, 0, none⟩) ∧ Bs = BA r t (List.replicate m 0) :: As) := .mk fun j Fs H M s => by
  refine hmc_of_hm ?_
  show hm P (Instr.alloc t true (.tuple #[]) >>= fun v => pure (Next.value v)) H M _
  unfold Instr.alloc
  refine hm_bind (hm_bind (hm_cst zv.h ?_))
  have e : bcl (List.replicate m 0) = List.replicate m (.int .u8 0) := by simp [bcl]
  exact hm_bind (hm_newVar (c := List.replicate m (.int .u8 0)) rfl fun r hr => hm_pure (hm_pure ⟨_, .inl rfl, _, ⟨r, rfl, rfl⟩, by
    show (Sat (HP.own r (.cells (bcl (List.replicate m 0)).toArray t (0, 0)) :: (As ++ Fs))).p _ _
    rw [e]; exact own_new hr s⟩))
theorem execOp_copy (e : Nat → Value) {d : Option Nat} {pos : String} {af : Array Edge} {g : Option (Nat × Bool)} {t t2 : TypeId} {p q : Operand} : execOp (ev e) ⟨d, .call ⟨.builtin .copy, #[p, q], #[t, t2]⟩, oty, pos, af, g⟩ = (Builtin.copy_ #[t, t2] oty #[ev e p, ev e q] >>= fun v => pure (Next.value v)) := by
  show (resolve (ev e) ⟨.builtin .copy, #[p, q], #[t, t2]⟩ oty >>= fun d => invoke d.target d.args) = _
  have : #[p, q].map (ev e) = #[ev e p, ev e q] := by simp
  unfold resolve
  dsimp only
  rw [this]; rfl
theorem hm_copy {t t2 el sz b off n' c' m c : Nat} {u : Option Addr} {ty : TypeId} {cs : Array Value} {row : Nat → List Value} [sc : SC P t el] [hs : SZ P el sz] {H M : Heap} {K : Value → Heap → Heap → Prop} (hb : M b = some (.cells cs ty (0, 0))) (hr : SlK (Kn H M) sz (.slice u m c) m row) (h1 : (flat m row).all one = true)
    (hl : off + min m n' * sz ≤ cs.size) (hk : K (.int .i64 (min m n' : Nat)) H (upd M b (.cells (setL cs off (flat (min m n') row)) ty (0, 0)))) : hm P (Builtin.copy_ #[t, t2] oty #[.slice (some ⟨b, off, none⟩) n' c', .slice u m c]) H M K := by
  unfold Builtin.copy_
  simp only [List.getElem?_toArray, List.getElem?_cons_zero, List.getElem?_cons_succ]
  refine hm_bind (hm_cst sc.h ?_)
  dsimp only
  refine hm_bind (hm_cst (a := m) rfl ?_)
  refine hm_bind (hm_cst hs.h ?_)
  obtain ⟨base, cap, e, _, hrl, h3⟩ := hr
  cases e
  have hmin : Nat.min m n' = min m n' := rfl
  rw [hmin]
  generalize hm' : min m n' = m' at hl hk
  have hle : m' ≤ m := by omega
  have hfl : (flat m' row).length = m' * sz := flat_len fun i hi => hrl i (by omega)
  have hfin : ∀ (cells : Array Value), cells = (flat m' row).toArray → hm P (do storeCells ⟨b, off, none⟩ cells.toList; pure (goInt m')) H M K := fun cells hc => by
    subst hc
    refine hm_bind (hm_storeCells hb (by rw [hfl]; exact hl) ?_ (hm_pure hk))
    rw [List.all_eq_true] at *
    intro v hv
    refine h1 v ?_
    obtain ⟨i, hi, hv2⟩ := List.mem_flatMap.1 hv
    exact List.mem_flatMap.2 ⟨i, List.mem_range.2 (by have := List.mem_range.1 hi; omega), hv2⟩
  rcases Nat.eq_zero_or_pos m with h0 | h0
  · have : m' = 0 := by omega
    subst this
    have hc : cst P (Builtin.firstCells sz 0 (.slice u m c)) = some #[] := by
      cases u with
      | none => rfl
      | some a => show cst P (loadCells a (0 * sz)) = _; rw [Nat.zero_mul]; rfl
    exact hm_bind (hm_cst hc (hfin _ rfl))
  · obtain ⟨bx, ox, cx, tx, fx, rfl, kx, hsx, hx⟩ := h3 h0
    refine hm_bind ?_
    show hm P (loadCells ⟨bx, ox, none⟩ (m' * sz)) H M _
    have hle2 : m' * sz ≤ m * sz := Nat.mul_le_mul_right _ hle
    refine hm_loadCells kx (by omega) (hfin _ ?_)
    apply Array.ext'
    have := congrArg Array.toList hx
    rw [Array.toList_extract, List.extract_eq_take_drop, Nat.add_sub_cancel_left] at this ⊢
    dsimp only at this ⊢
    have e2 := congrArg (List.take (m' * sz)) this
    rw [List.take_take, Nat.min_eq_left hle2] at e2
    rw [e2]
    obtain ⟨w, rfl⟩ : ∃ w, m = m' + w := ⟨m - m', by omega⟩
    rw [flat_add, List.take_left' hfl]
/-- copy into a block of bytes -/
theorem st_cpB {t t2 el : TypeId} {x y : Operand} {b off n' c' m c : Nat} {u : Option Addr} {ty : TypeId} {o s : List Nat} {As' : List HP} [sc : SC P t el] [hs : SZ P el 1]
    (up : Upd (BA b ty o) (BA b ty (over o off (s.take n'))) As As') (hr : SelR As 1 (.slice u m c) m (byR s)) (hm : s.length = m) (hl : off + min m n' ≤ o.length)
    (hx : ∀ j, ev (mk l j) x = .slice (some ⟨b, off, none⟩) n' c' := by intro j; rfl) (hy : ∀ j, ev (mk l j) y = .slice u m c := by intro j; rfl) :
    StepL P ⟨dd, .call ⟨.builtin .copy, #[x, y], #[t, t2]⟩, oty, pos, af, g⟩ l As (fun v Bs => v = .int .i64 (min m n' : Nat) ∧ Bs = As') := .mk fun j Fs H M q => by
  rw [execOp_copy, hx j, hy j]
  obtain ⟨Cs, s1, s2⟩ := (up.app Fs).sels
  obtain ⟨hb, hq⟩ := own_write (o' := .cells (bcl (over o off (s.take n'))).toArray ty (0, 0)) (s1.sat q)
  subst hm
  refine hmc_of_hm (hm_bind (hm_copy hb ((hr.app Fs).rd q) (by rw [flat_byR']; exact bcl_one s) (by simp; omega) (hm_pure ⟨_, .inl rfl, _, ⟨rfl, rfl⟩, ?_⟩)))
  have e1 : flat (min s.length n') (byR s) = bcl (s.take n') := by
    have h1 : (s.take n').length = min s.length n' := by simp; omega
    rw [← flat_byR', h1]
    refine flat_congr fun i hi => ?_
    have : i < n' := by omega
    simp [byR, List.getD_eq_getElem?_getD, List.getElem?_take, this]
  rw [e1, setL_bcl _ _ _ (by simp; omega)]
  exact s2.back hq
/-- an array of bytes is loaded at a slice's address -/
theorem lk_lds {t m nn c : Nat} {x : Operand} {a : Option Addr} {s : List Nat} [hag : AG P t true] [hs : SZ P t m] (hr : SelR As 1 (.slice a nn c) nn (byR s)) (hl : s.length = m) (hn : nn = m) (h0 : 0 < m) (hx : ∀ j, ev (mk l j) x = .pointer a := by intro j; rfl) :
    LookS P ⟨some d, .load t x, oty, pos, af, g⟩ l As (.agg (bcl s).toArray) := .mk fun j H M q => by
  obtain ⟨base, cap, e, _, _, h3⟩ := hr.rd q
  cases e
  subst hn
  obtain ⟨bx, ox, cx, tx, fx, rfl, kx, hsx, hxx⟩ := h3 h0
  refine qt_ldN rfl (hx j) hag.h hs.h kx (by omega) ?_
  rw [Nat.mul_one] at hxx
  rw [hxx, ← hl, flat_byR']
/-- an array that is written out -/
theorem lk_bda {t m el sz : Nat} {ps : List (Nat × Operand)} {z : Array Value} (cells : Array Value) [ar : AR P t m el] [hs : SZ P el sz] [zv : ZV P t (.agg z)] (hf : ∀ j, fillG (fun i => some (i * sz, sz)) z (ps.map fun x => (x.1, ev (mk l j) x.2)) = some cells := by intro j; rfl) :
    LookS P ⟨some d, .build t ps.toArray, oty, pos, af, g⟩ l As (.agg cells) := .mk fun j _ _ _ => by
  refine qt_cst ?_
  show cst P (Instr.build t (ps.toArray.map fun x => (x.1, ev (mk l j) x.2)) >>= fun v => pure (Next.value v)) = _
  have : cst P (Instr.build t (ps.map fun x => (x.1, ev (mk l j) x.2)).toArray) = some (.agg cells) := by
    unfold Instr.build
    rw [cst_bind zv.h, cst_bind ar.h]
    dsimp only
    rw [cst_bind hs.h]
    show cst P (match Instr.fill (fun i => some (i * sz, sz)) z _ with | some cells => _ | _ => _) = _
    rw [fillG_eq, hf j]; rfl
  rw [List.map_toArray, cst_bind this]
  rfl
def strB (l : List Nat) : ByteArray := ⟨(l.map UInt8.ofNat).toArray⟩
theorem Sat.perm {As Bs : List HP} (h : As.Perm Bs) : ∀ {H M : Heap}, (Sat As).p H M → (Sat Bs).p H M := by
  induction h with
  | nil => exact fun h => h
  | cons x _ ih => exact fun h => star_mono (fun _ _ => ih) h
  | swap x y l => exact fun h => star_swap h
  | trans _ _ ih1 ih2 => exact fun h => ih2 (ih1 h)
def All (ks : List Int) (F : Int → HP) : HP := Sat (ks.map F)
theorem All.perm {ks ks' : List Int} {F : Int → HP} (h : ks.Perm ks') (H M : Heap) (q : (All ks F).p H M) : (All ks' F).p H M := Sat.perm (h.map F) q
theorem All.cons {k : Int} {ks : List Int} {F : Int → HP} (H M : Heap) (q : (All (k :: ks) F).p H M) : ((F k).star (All ks F)).p H M := q
theorem All.cg {F G : Int → HP} : ∀ {ks : List Int}, (∀ k ∈ ks, ∀ H M, (F k).p H M → (G k).p H M) → ∀ H M, (All ks F).p H M → (All ks G).p H M
  | [], _, _, _, q => q
  | k :: ks, h, H, M, q => star_monoL (h k (List.mem_cons_self ..)) (star_mono (fun H M q => All.cg (ks := ks) (fun k hk => h k (List.mem_cons_of_mem _ hk)) H M q) q)
theorem All.take {k : Int} {ks : List Int} {F : Int → HP} (hk : k ∈ ks) (H M : Heap) (q : (All ks F).p H M) : ((F k).star (All (ks.erase k) F)).p H M := All.perm (List.perm_cons_erase hk) H M q
end
end Go.Cam
/- What may be seen otherwise between two steps: frozen slices. -/
namespace Go.Cam
theorem sat1 {F : HP} {H M : Heap} (h : F.p H M) : (Sat [F]).p H M := ⟨M, fun _ => none, Le.refl _, (fun _ _ h => nomatch h), fun _ => .inr rfl, h, trivial⟩
/-- what holds may be seen otherwise, whatever stands beside it -/
def View (Bs Cs : List HP) : Prop := ∀ (F : HP) w0 w H M, Has w0 w H M → ((Sat Bs).star F).p H M → ∃ H' M', Has w0 w H' M' ∧ ((Sat Cs).star F).p H' M'
theorem View.refl (Bs : List HP) : View Bs Bs := fun _ _ _ H M hh q => ⟨H, M, hh, q⟩
theorem View.trans {A B C : List HP} (h : View A B) (g : View B C) : View A C := fun F w0 w H M hh q => by
  obtain ⟨H1, M1, h1, q1⟩ := h F w0 w H M hh q
  exact g F w0 w H1 M1 h1 q1
theorem View.imp {A B : List HP} (h : ∀ H M, (Sat A).p H M → (Sat B).p H M) : View A B := fun F w0 w H M hh q => ⟨H, M, hh, star_monoL h q⟩
theorem star_assoc {A B C : HP} {H M : Heap} (h : ((A.star B).star C).p H M) : (A.star (B.star C)).p H M := by
  have h1 := star_comm h
  have h2 := star_swap h1
  exact star_mono (fun _ _ q => star_comm q) h2
theorem star_assoc' {A B C : HP} {H M : Heap} (h : (A.star (B.star C)).p H M) : ((A.star B).star C).p H M := by
  have h1 : (A.star (C.star B)).p H M := star_mono (fun _ _ q => star_comm q) h
  exact star_comm (star_swap h1)
theorem View.cons {a : HP} {A B : List HP} (h : View A B) : View (a :: A) (a :: B) := fun F w0 w H M hh q => by
  obtain ⟨H1, M1, h1, q1⟩ := h (a.star F) w0 w H M hh (star_swap (star_assoc q))
  exact ⟨H1, M1, h1, star_assoc' (star_swap q1)⟩
theorem View.head {a b : HP} {A : List HP} (h : View [a] [b]) : View (a :: A) (b :: A) := fun F w0 w H M hh q => by
  have q1 : ((Sat [a]).star ((Sat A).star F)).p H M := star_monoL (fun H M h => sat1 h) (star_assoc q)
  obtain ⟨H1, M1, h1, q2⟩ := h _ w0 w H M hh q1
  exact ⟨H1, M1, h1, star_assoc' (star_monoL (fun H M h => star_fst h) q2)⟩
theorem View.fz {e sz : Nat} {v : Value} {len : Nat} {row : Nat → List Value} : View [SA (some e) sz v len row] [SA none sz v len row] := fun F w0 w H M hh q => by
  obtain ⟨M1, M2, a1, a2, dj, hA0, hB⟩ := q
  obtain ⟨hr1, hr2, hown, base, cap, hv⟩ := star_fst hA0
  subst hv
  rcases hown with ⟨h1, h2⟩ | ⟨b, ln, cp, cs, h1, h2, h3, h4, h5, h6⟩
  · cases h1
    exact ⟨H, M, hh, star_monoL (fun _ _ h => sat1 h) (per_add (A := SA none sz (.slice none 0 0) 0 row) (M0 := M) ⟨none, 0, rfl, Nat.le_refl _, hr1, fun h => by omega⟩ (F.mono (Le.refl _) a2 hB))⟩
  · cases h1
    obtain ⟨g1, g2⟩ := own_freeze (b := b) (o := .cells cs e (0, 0)) (X := F) hh.d ⟨M1, M2, a1, a2, dj, h5, hB⟩
    refine ⟨_, _, g1 _ _ hh, star_monoL (fun _ _ h => sat1 h) (per_add (A := SA none sz (.slice (some ⟨b, 0, none⟩) len cap) len row) (M0 := M) ⟨_, _, rfl, h4, hr1, fun h0 => ⟨b, 0, cs, e, (0, 0), rfl, upd_same _ _ _, ?_, ?_⟩⟩ g2)⟩
    · rw [h3]; have := Nat.mul_le_mul_right sz h4; omega
    · apply Array.ext'
      rw [Array.toList_extract, List.extract_eq_take_drop]
      rw [flat_len hr1] at h6
      simpa using h6
theorem Ctr.view {P : Program} {f : FuncId} {args : List Value} {As : List HP} {Q Q' : Value → List HP → Prop} (h : Ctr P f args As Q) (hv : ∀ v Bs, Q v Bs → ∃ Cs, Q' v Cs ∧ View Bs Cs) : Ctr P f args As Q' := fun F H M s w0 w hh => by
  refine (h F H M s w0 w hh).mono fun e w2 ⟨r, H', M', he, h2, Bs, hq, hb⟩ => ?_
  obtain ⟨Cs, hq', hw⟩ := hv r Bs hq
  obtain ⟨H3, M3, h3, h4⟩ := hw F w0 w2 H' M' h2 (star_mono (fun _ _ => sat_one) (Sat.part hb))
  exact ⟨r, H3, M3, he, h3, Cs, hq', Sat.join h4⟩
theorem Ctr.pre {P : Program} {f : FuncId} {args : List Value} {As Bs : List HP} {Q : Value → List HP → Prop} (h : Ctr P f args As Q) (he : ∀ H M, (Sat Bs).p H M → (Sat As).p H M) : Ctr P f args Bs Q := fun F H M s =>
  h F H M (Sat.join (star_monoL he (star_mono (fun _ _ => sat_one) (Sat.part s))))
/-- what the contract does not ask for stays beside it -/
theorem Ctr.frame {P : Program} {f : FuncId} {args : List Value} {As : List HP} {Q : Value → List HP → Prop} (h : Ctr P f args As Q) (X : List HP) : Ctr P f args (As ++ X) (fun v Bs => ∃ Cs, Q v Cs ∧ Bs = Cs ++ X) := fun F H M s => by
  have s1 : (Sat (As ++ [Sat (X ++ [F])])).p H M := by
    rw [List.append_assoc] at s
    exact Sat.join (Sat.part s)
  refine fun w0 w hh => (h (Sat (X ++ [F])) H M s1 w0 w hh).mono fun e w2 ⟨r, H', M', he, h2, Bs, hq, hb⟩ => ⟨r, H', M', he, h2, Bs ++ X, ⟨Bs, hq, rfl⟩, ?_⟩
  rw [List.append_assoc]; exact Sat.app hb
/-- a block of bytes, read as a slice -/
theorem rd_BA {r ty : Nat} {x : List Nat} (p m c : Nat) (h : p + m ≤ x.length) (hc : m ≤ c) : Rd (BA r ty x) 1 (.slice (some ⟨r, p, none⟩) m c) m (byR ((x.drop p).take m)) := ⟨fun H M q => ⟨_, _, rfl, hc, fun _ _ => rfl, fun _ => ⟨r, p, _, ty, (0, 0), rfl, .inl q, by simp; omega, by
  have hl : ((x.drop p).take m).length = m := by simp; omega
  have := flat_byR' ((x.drop p).take m)
  rw [hl] at this
  rw [this, Nat.mul_one, extract_list]
  simp [bcl, List.map_drop, List.map_take]⟩⟩⟩
section
variable {P : Program} {l : List (Nat × Value)} {As : List HP} {d : Nat} {oty : TypeId} {pos : String} {af : Array Edge} {g : Option (Nat × Bool)}
/-- a closure is made -/
theorem lk_mkf {fn : Fn} {cs : List Operand} {vs : List Value} (h : ∀ j, cs.map (ev (mk l j)) = vs := by intro j; rfl) :
    LookS P ⟨some d, .makeFunc fn #[] cs.toArray, oty, pos, af, g⟩ l As (.func fn #[] vs.toArray) := .mk fun j H M _ => by
  refine qt_cst ?_
  show cst P (Instr.makeFunc fn (#[].map (ev (mk l j))) (cs.toArray.map (ev (mk l j))) >>= fun v => pure (Next.value v)) = _
  have e : cs.toArray.map (ev (mk l j)) = vs.toArray := by rw [List.map_toArray, h j]
  rw [e]; simp [Instr.makeFunc]; rfl
theorem lk_mkf1 {fn : Fn} {x0 : Operand} {v0 : Value} (h0 : ∀ j, ev (mk l j) x0 = v0 := by intro j; rfl) :
    LookS P ⟨some d, .makeFunc fn #[] #[x0], oty, pos, af, g⟩ l As (.func fn #[] #[v0]) := lk_mkf (cs := [x0]) (vs := [v0]) (by intro j; simp only [List.map_cons, List.map_nil, h0 j])
end
end Go.Cam
/- Assertions that hide what they are made of. -/
namespace Go.Cam
def EX {α : Type} (φ : α → Prop) (X : α → List HP) : HP := ⟨fun H M => ∃ x, φ x ∧ (Sat (X x)).p H M, fun h1 h2 ⟨x, h, q⟩ => ⟨x, h, (Sat (X x)).mono h1 h2 q⟩⟩
theorem EX.mk {α : Type} {φ : α → Prop} {X : α → List HP} (x : α) (h : φ x) (H M : Heap) (q : (Sat (X x)).p H M) : (EX φ X).p H M := ⟨x, h, q⟩
theorem Sat.pushL {As Bs : List HP} {H M : Heap} (q : ((Sat As).star (Sat Bs)).p H M) : (Sat (As ++ Bs)).p H M := Sat.app (Sat.join q)
section
variable {P : Program} {f : FuncId} {n : Nat} {R : Value → HP} {k : List It} {l : List (Nat × Value)} {As Bs Rs Zs : List HP} {all : Array Oper} {rest os : List Oper} {d : Nat} {dd : Option Nat} {oty : TypeId} {pos : String} {af : Array Edge} {g : Option (Nat × Bool)}
theorem s_opn {α : Type} {φ : α → Prop} {X : α → List HP} (u : Sel (EX φ X) As Bs) (h : ∀ x, φ x → RunS P f n R k l (X x ++ Bs)) : RunS P f n R k l As := .mk fun H M s => by
  obtain ⟨M1, M2, a1, a2, d, ⟨x, hφ, hA⟩, hB⟩ := u.sat s
  exact h x hφ H M (Sat.pushL ⟨M1, M2, a1, a2, d, hA, hB⟩)
theorem s_cls {α : Type} {φ : α → Prop} {X : α → List HP} (x : α) (hφ : φ x) (sp : Split As (X x) Rs) (h : RunS P f n R k l (EX φ X :: Rs)) : RunS P f n R k l As := .mk fun H M s => by
  have h1 := sp.sat s
  have h2 : ((Sat (X x)).star (Sat Rs)).p H M := star_mono (fun _ _ => sat_one) (Sat.part h1)
  exact h H M (star_monoL (C := EX φ X) (fun H M q => ⟨x, hφ, q⟩) h2)
/-- many at once: one of them -/
theorem s_take {ks : List Int} {F : Int → HP} {kk : Int} (u : Sel (All ks F) As Bs) (hk : kk ∈ ks) (h : RunS P f n R k l (F kk :: All (ks.erase kk) F :: Bs)) : RunS P f n R k l As := .mk fun H M s =>
  h H M (star_assoc (star_monoL (fun H M q => All.take hk H M q) (u.sat s)))
theorem s_put {ks : List Int} {F : Int → HP} {kk : Int} (u : Sel (All ks F) As Bs) (u2 : Sel (F kk) Bs Rs) (h : RunS P f n R k l (All (kk :: ks) F :: Rs)) : RunS P f n R k l As := .mk fun H M s => by
  have h1 := star_mono (fun _ _ q => u2.sat q) (u.sat s)
  exact h H M (star_assoc' (star_swap h1))
theorem s_allp {ks ks' : List Int} {F : Int → HP} (u : Sel (All ks F) As Bs) (hp : ks.Perm ks') (h : RunS P f n R k l (All ks' F :: Bs)) : RunS P f n R k l As := .mk fun H M s => h H M (star_monoL (All.perm hp) (u.sat s))
theorem s_allc {ks : List Int} {F : Int → HP} (G : Int → HP) (u : Sel (All ks F) As Bs) (hc : ∀ k ∈ ks, ∀ H M, (F k).p H M → (G k).p H M) (h : RunS P f n R k l (All ks G :: Bs)) : RunS P f n R k l As := .mk fun H M s => h H M (star_monoL (All.cg hc) (u.sat s))
theorem s_all0 {F : Int → HP} (h : RunS P f n R k l (All [] F :: As)) : RunS P f n R k l As := .mk fun H M s => h H M (per_add (A := .emp) (M0 := M) trivial s)
/-- nothing, as a slice of one's own -/
theorem s_newO {e : Nat} {sz : Nat} {row : Nat → List Value} (h : RunS P f n R k l (SO e sz (.slice none 0 0) 0 row :: As)) : RunS P f n R k l As := s_new0 (e := e) (sz := sz) (row := row) (s_open SO.of h)
/-- a slice of one element is written out -/
theorem st_bs1 {t e sz bytes : Nat} {x : Operand} {v z : Value} {cells : List Value} [sl : SL P t e sz bytes] [zv : ZV P e z] (hn : cells.length = sz) (hx : ∀ j, ev (mk l j) x = v := by intro j; rfl) (hc : Cel v cells := by infer_instance) (hm : sz ≤ 16777216 := by decide) :
    StepL P ⟨dd, .buildSlice t 1 #[(0, x)], oty, pos, af, g⟩ l As (fun v Bs => ∃ a, v = .slice a 1 1 ∧ Bs = SA (some e) sz (.slice a 1 1) 1 (fun _ => cells) :: As) := .mk fun j Fs H M s => by
  have hsz : 0 < sz := by obtain ⟨_, _, _, _, _, _, _, _, _, h⟩ := sl.h; exact h
  haveI : OneL cells := ⟨hc.o⟩
  have e0 : v.cells.size = sz := by have := hc.h; rw [← hn, ← this]; simp
  have hf : ∀ j, fillG (fun i => some (i * sz, sz)) (tab (1 * sz) fun i => z.cells[i % z.cells.size]!) ([(0, x)].map fun x => (x.1, ev (mk l j) x.2)) = some cells.toArray := fun j => by
    simp only [List.map_cons, List.map_nil, hx j]
    simp only [fillG, Nat.zero_mul, Nat.one_mul]
    rw [if_neg (by simp [e0, tab_size]), hc.h, setL_whole (by rw [tab_size, hn])]
  have h1 := st_bs (P := P) (l := l) (As := As) (dd := dd) (oty := oty) (pos := pos) (af := af) (g := g) (t := t) (len := 1) (ps := [(0, x)]) (cells := cells) hf (by omega) (by omega) (by rw [Nat.one_mul, hn]; simp)
  refine hmc_mono (h1.h j Fs H M s) fun v H' M' ⟨Bs, ⟨a, hv, hb⟩, hq⟩ => ⟨_, ⟨a, hv, rfl⟩, ?_⟩
  subst hb
  refine star_monoL (fun H M q => ?_) hq
  exact SA_cg1 (fun i hi => by
    have : i = 0 := by omega
    subst this; rw [← hn]; exact rowsOf_one cells) q
/-- an element of a slice, its number told otherwise -/
theorem lk_ixz (i : Nat) {t : TypeId} {x y : Operand} {elem sz m : Nat} {z : Int} {kd : IntKind} {v : Value} {row : Nat → List Value} [hu : SC P t elem] [hs : SZ P elem sz] (s : SelR As sz v m row) (hx : ∀ j, ev (mk l j) x = v := by intro j; rfl)
    (hy : ∀ j, ev (mk l j) y = .int kd z := by intro j; rfl) (hz : z = (i : Int) := by omega) (hi : i < m := by omega) :
    LookS P ⟨some d, .indexAddr t x y, oty, pos, af, g⟩ l As (eptr v sz i 0) := lk_ixs hx (by intro j; rw [hy j, hz]) s hi
/-- a whole element is loaded -/
theorem lk_lde1 {t : TypeId} {x : Operand} {sz m i : Nat} {v : Value} {row : Nat → List Value} [hag : AG P t true] [hs : SZ P t sz] (s : SelR As sz v m row) (hx : ∀ j, ev (mk l j) x = eptr v sz i 0 := by intro j; rfl) (hi : i < m := by omega) :
    LookS P ⟨some d, .load t x, oty, pos, af, g⟩ l As (.agg (row i).toArray) := .mk fun j H M q => by
  have hl : (row i).length = sz := by obtain ⟨_, _, _, _, h, _⟩ := s.rd q; exact h i hi
  haveI : PartL (row i) 0 sz (row i) := ⟨by rw [List.drop_zero, ← hl, List.take_length]⟩
  exact (lk_ldeN (fo := 0) hx s this (by omega) hi).h j H M q
end
/-- a stronger end of a contract -/
theorem Ctr.post {P : Program} {f : FuncId} {args : List Value} {As : List HP} {Q Q' : Value → List HP → Prop} (h : Ctr P f args As Q) (hq : ∀ v Bs, Q v Bs → ∃ Cs, Q' v Cs ∧ ∀ H M, (Sat Bs).p H M → (Sat Cs).p H M) : Ctr P f args As Q' :=
  h.view fun v Bs q => by obtain ⟨Cs, h1, h2⟩ := hq v Bs q; exact ⟨Cs, h1, View.imp h2⟩
end Go.Cam
/- Families of assertions that are only read; slices of slices of bytes. -/
namespace Go.Cam
def Fam (n : Nat) (F : Nat → HP) : HP := ⟨fun H M => ∀ i, i < n → (F i).p H M, fun h1 h2 h i hi => (F i).mono h1 h2 (h i hi)⟩
instance {n : Nat} {F : Nat → HP} [hp : ∀ i, Per (F i)] : Per (Fam n F) := ⟨fun h i hi => (hp i).h (h i hi)⟩
theorem Fam.get {n : Nat} {F : Nat → HP} {i : Nat} (hi : i < n) (H M : Heap) (h : (Fam n F).p H M) : (F i).p H M := h i hi
section
variable {P : Program} {f : FuncId} {n : Nat} {R : Value → HP} {k : List It} {l : List (Nat × Value)} {As Bs Rs Zs : List HP}
theorem s_get {m : Nat} {F : Nat → HP} [hp : ∀ i, Per (F i)] (i : Nat) (u : Sel (Fam m F) As Bs) (hi : i < m) (h : RunS P f n R k l (F i :: As)) : RunS P f n R k l As := s_dup u (s_open (Fam.get hi) h)
theorem s_fam0 {F : Nat → HP} (h : RunS P f n R k l (Fam 0 F :: As)) : RunS P f n R k l As := .mk fun H M s => h H M ⟨fun _ => none, M, (fun _ _ h => nomatch h), Le.refl _, fun _ => .inl rfl, fun i hi => by omega, s⟩
theorem s_famS {m : Nat} {F : Nat → HP} [hp : ∀ i, Per (F i)] (u : Sel (Fam m F) As Bs) (u2 : Sel (F m) Bs Rs) (h : RunS P f n R k l (Fam (m + 1) F :: Rs)) : RunS P f n R k l As := .mk fun H M s => by
  have h1 := u.hold s
  have h2 := star_snd (u.sat s)
  have h3 := u2.hold h2
  refine h H M (per_add (M0 := M) (fun i hi => ?_) (star_snd (u2.sat h2)))
  by_cases e : i = m
  · subst e; exact h3
  · exact h1 i (by omega)
theorem Fam.cg {m : Nat} {F : Nat → HP} (G : Nat → HP) (hc : ∀ i, i < m → ∀ H M, (F i).p H M → (G i).p H M) (H M : Heap) (h : (Fam m F).p H M) : (Fam m G).p H M := fun i hi => hc i hi H M (h i hi)
/-- copy of as many elements as there are -/
theorem st_cpA {dd : Option Nat} {oty : TypeId} {pos : String} {af : Array Edge} {g : Option (Nat × Bool)} {t t2 el e sz m c c' : Nat} {x y : Operand} {a u : Option Addr} {r1 r2 : Nat → List Value} [sc : SC P t el] [hs : SZ P el sz] (h0 : 0 < m) (hsz : 0 < sz)
    (up : Sel (SA (some e) sz (.slice a m c) m r1) As Bs) (hr : SelR As sz (.slice u m c') m r2) (h1 : (flat m r2).all one = true)
    (hx : ∀ j, ev (mk l j) x = .slice a m c := by intro j; rfl) (hy : ∀ j, ev (mk l j) y = .slice u m c' := by intro j; rfl) :
    StepL P ⟨dd, .call ⟨.builtin .copy, #[x, y], #[t, t2]⟩, oty, pos, af, g⟩ l As (fun v Cs => v = .int .i64 (m : Nat) ∧ Cs = SA (some e) sz (.slice a m c) m r2 :: Bs) := .mk fun j Fs H M q => by
  rw [execOp_copy, hx j, hy j]
  obtain ⟨M1, M2, a1, a2, dj, ⟨hr1, hr2, hown, _⟩, hB⟩ := (up.app Fs).sat q
  have hrr := (hr.app Fs).rd q
  have hrl : ∀ i, i < m → (r2 i).length = sz := by obtain ⟨_, _, _, _, h, _⟩ := hrr; exact h
  rcases hown with ⟨h2, _⟩ | ⟨b, ln, cp, cs, e1, h3, h4, h5, h6, h7⟩
  · cases h2; omega
  · cases e1
    have hov : ((HP.own b (.cells cs e (0, 0))).star (Sat (Bs ++ Fs))).p H M := ⟨M1, M2, a1, a2, dj, h6, hB⟩
    obtain ⟨hb, hq⟩ := own_write (o' := .cells (setL cs 0 (flat m r2)) e (0, 0)) hov
    have hle : m * sz ≤ c * sz := Nat.mul_le_mul_right _ h5
    refine hmc_of_hm (hm_bind (hm_copy (n' := m) (c' := c) (off := 0) hb hrr h1 (by rw [Nat.min_self, h4]; omega) (hm_pure ⟨_, .inl rfl, _, ⟨by rw [Nat.min_self], rfl⟩, ?_⟩)))
    rw [Nat.min_self]
    refine star_monoL (fun H M h => ?_) hq
    have hfl := flat_len hrl
    refine ⟨hrl, h1, .inr ⟨b, m, c, _, rfl, hfl, by rw [setL_size]; exact h4, h5, h, ?_⟩, _, _, rfl⟩
    have e2 : cs = cs.toList.toArray := by simp
    rw [e2, setL_list _ _ _ (by rw [hfl]; simp [h4]; omega)]
    simp only [List.take_zero, List.nil_append]
    exact List.take_left' rfl
theorem lk_min {d : Nat} {oty : TypeId} {pos : String} {af : Array Edge} {g : Option (Nat × Bool)} {t t2 : TypeId} {x y : Operand} {kd k2 : IntKind} {a b : Int} (c : Int) (hx : ∀ j, ev (mk l j) x = .int kd a := by intro j; rfl) (hy : ∀ j, ev (mk l j) y = .int k2 b := by intro j; rfl) (hc : (if b < a then b else a) = c := by first | (split <;> omega) | simp) :
    LookS P ⟨some d, .call ⟨.builtin .min, #[x, y], #[t, t2]⟩, oty, pos, af, g⟩ l As (.int kd c) := .mk fun j _ _ _ => by
  refine qt_cst ?_
  show cst P (resolve (ev (mk l j)) ⟨.builtin .min, #[x, y], #[t, t2]⟩ oty >>= fun d => invoke d.target d.args) = _
  have e1 : #[x, y].map (ev (mk l j)) = #[ev (mk l j) x, ev (mk l j) y] := by simp
  unfold resolve
  dsimp only
  rw [e1, hx j, hy j, ← hc]
  rfl
theorem lk_max {d : Nat} {oty : TypeId} {pos : String} {af : Array Edge} {g : Option (Nat × Bool)} {t t2 : TypeId} {x y : Operand} {kd k2 : IntKind} {a b : Int} (c : Int) (hx : ∀ j, ev (mk l j) x = .int kd a := by intro j; rfl) (hy : ∀ j, ev (mk l j) y = .int k2 b := by intro j; rfl) (hc : (if b > a then b else a) = c := by first | (split <;> omega) | simp) :
    LookS P ⟨some d, .call ⟨.builtin .max, #[x, y], #[t, t2]⟩, oty, pos, af, g⟩ l As (.int kd c) := .mk fun j _ _ _ => by
  refine qt_cst ?_
  show cst P (resolve (ev (mk l j)) ⟨.builtin .max, #[x, y], #[t, t2]⟩ oty >>= fun d => invoke d.target d.args) = _
  have e1 : #[x, y].map (ev (mk l j)) = #[ev (mk l j) x, ev (mk l j) y] := by simp
  unfold resolve
  dsimp only
  rw [e1, hx j, hy j, ← hc]
  rfl
theorem strB_snoc (l : List Nat) (c : Nat) : strB (l ++ [c]) = (strB l).push (UInt8.ofNat c) := by
  unfold strB
  apply ByteArray.ext
  show _ = ((l.map UInt8.ofNat).toArray).push (UInt8.ofNat c)
  simp
theorem hq_b2s {H M : Heap} {n c : Nat} {a : Option Addr} {s : List Nat} (hr : SlK (Kn H M) 1 (.slice a n c) n (byR s)) (hl : s.length = n) : hq P (Conv.bytesToString (.slice a n c)) H M (.string (strB s)) := by
  obtain ⟨base, cap, e, _, _, h3⟩ := hr
  cases e
  cases a with
  | none =>
    have : n = 0 := by
      rcases Nat.eq_zero_or_pos n with h | h
      · exact h
      · obtain ⟨_, _, _, _, _, h4, _⟩ := h3 h; cases h4
    subst this
    have : s = [] := List.eq_nil_of_length_eq_zero hl
    subst this
    exact hq_pure
  | some a =>
    unfold Conv.bytesToString
    dsimp only
    have hload : hq P (loadCells a n) H M (bcl s).toArray := by
      rcases Nat.eq_zero_or_pos n with h | h
      · subst h
        have : s = [] := List.eq_nil_of_length_eq_zero hl
        subst this
        exact hq_cst rfl
      · obtain ⟨bx, ox, cx, tx, fx, e, kx, hsx, hxx⟩ := h3 h
        cases e
        intro w0 w hh
        have h4 := loadCells_known (P := P) (off := ox) hh kx n 0 #[] (by omega)
        simp only [Nat.add_zero, Array.empty_append] at h4
        rw [Nat.mul_one] at hxx
        rw [hxx] at h4
        have : flat n (byR s) = bcl s := by rw [← hl]; exact flat_byR' s
        rw [this] at h4
        exact h4
    refine hq_bind hload ?_
    have hloop : ∀ (r d : List Nat), s = d ++ r → hq P (forIn (bcl r) (strB d) (fun c (s : ByteArray) => match c with
        | .int .u8 n => (pure (ForInStep.yield (s.push (UInt8.ofNat n.toNat))) : Sem _)
        | _ => stuck "bytesToString: byte expected")) H M (strB s) := by
      intro r
      induction r with
      | nil => intro d e; rw [List.append_nil] at e; subst e; exact hq_pure
      | cons x r ih =>
        intro d e
        have := ih (d ++ [x]) (by rw [e]; simp)
        rw [strB_snoc] at this
        show hq P (forIn (.int .u8 (x : Int) :: bcl r) _ _) H M _
        rw [List.forIn_cons]
        exact hq_bind hq_pure this
    have h5 := hloop s [] rfl
    rw [List.forIn_toArray]
    refine hq_bind (a := strB s) ?_ hq_pure
    exact h5
end
theorem fill_cons {pl : List (Nat × Nat)} {z : List Value} {i : Nat} {v : Value} {ps : List (Nat × Value)} {r : List Value} {off sz : Nat} {vs z' : List Value} (a : AtP pl i off sz) (c : Cel v vs) (n : LenL vs sz) (f : FitsL z off sz) (s : SetsL z off vs z') (q : FillL pl z' ps r) : FillL pl z ((i, v) :: ps) r := inferInstance
section
variable {P : Program} {f : FuncId} {n : Nat} {R : Value → HP} {k : List It} {l : List (Nat × Value)} {As Bs Rs Zs : List HP}
class U8T (P : Program) (e : Nat) : Prop where
  h : cst P (underlying e) = some (.int .u8)
/-- bytes as a text -/
theorem lk_b2s {d : Nat} {oty : TypeId} {pos : String} {af : Array Edge} {g : Option (Nat × Bool)} {t t2 e m c : Nat} {x : Operand} {a : Option Addr} {s : List Nat} [sc : SC P t e] [sy : STY P t2] [u8 : U8T P e] (hr : SelR As 1 (.slice a m c) m (byR s)) (hl : s.length = m) (hx : ∀ j, ev (mk l j) x = .slice a m c := by intro j; rfl) :
    LookS P ⟨some d, .convert t t2 x, oty, pos, af, g⟩ l As (.string (strB s)) := .mk fun j H M q => by
  refine qt_exec (s := convert t t2 (ev (mk l j) x)) (by unfold execOp; rfl) ?_
  rw [hx j]
  unfold convert
  refine hq_bind (hq_cst sc.h) (hq_bind (hq_cst sy.h) ?_)
  dsimp only
  refine hq_bind (hq_cst u8.h) ?_
  exact hq_b2s (hr.rd q) hl
/-- copy of an empty text: nothing -/
theorem st_cpE {dd : Option Nat} {oty : TypeId} {pos : String} {af : Array Edge} {g : Option (Nat × Bool)} {t t2 el sz m c b off : Nat} {x y : Operand} {cs : Array Value} {ty : TypeId} {s : ByteArray} [sc : SC P t el] [hs : SZ P el sz] (he : s.size = 0) (u : Sel (.own b (.cells cs ty (0, 0))) As Bs)
    (hx : ∀ j, ev (mk l j) x = .slice (some ⟨b, off, none⟩) m c := by intro j; rfl) (hy : ∀ j, ev (mk l j) y = .string s := by intro j; rfl) (hl : off ≤ cs.size := by first | (simp; done) | omega) :
    StepL P ⟨dd, .call ⟨.builtin .copy, #[x, y], #[t, t2]⟩, oty, pos, af, g⟩ l As (fun v Cs => v = .int .i64 ((0 : Nat) : Int) ∧ Cs = As) := .mk fun j Fs H M q => by
  rw [execOp_copy, hx j, hy j]
  have hb : M b = some (.cells cs ty (0, 0)) := star_fst ((u.app Fs).sat q)
  refine hmc_of_hm (hm_bind ?_)
  unfold Builtin.copy_
  simp only [List.getElem?_toArray, List.getElem?_cons_zero, List.getElem?_cons_succ]
  refine hm_bind (hm_cst sc.h ?_)
  dsimp only
  refine hm_bind (hm_cst (a := s.size) rfl ?_)
  refine hm_bind (hm_cst hs.h ?_)
  have hmin : Nat.min s.size m = 0 := by rw [he]; exact Nat.zero_min _
  rw [hmin]
  have hex : (s.extract 0 0).data.map (fun b : UInt8 => Value.int .u8 b.toNat) = #[] := by
    have : (s.extract 0 0).data = #[] := by
      have h1 : (s.extract 0 0).size = 0 := by simp
      exact Array.size_eq_zero_iff.1 h1
    rw [this]; simp
  refine hm_bind ?_
  show hm P (pure ((s.extract 0 0).data.map fun b : UInt8 => Value.int .u8 b.toNat)) H M _
  rw [hex]
  refine hm_pure ?_
  refine hm_bind ?_
  have e0 : upd M b (.cells (setL cs off []) ty (0, 0)) = M := by
    funext q
    by_cases h : q = b
    · subst h; rw [upd_same, hb]; rfl
    · rw [upd_ne h]
  refine hm_storeCells (vs := (#[] : Array Value).toList) hb (by simpa using hl) rfl ?_
  refine hm_pure (hm_pure ⟨_, .inl rfl, _, ⟨rfl, rfl⟩, ?_⟩)
  show (Sat (As ++ Fs)).p H (upd M b (.cells (setL cs off []) ty (0, 0)))
  rw [e0]; exact q
/-- a function that tells nothing comes to its end -/
theorem s_end {fn : Func} {Q : Value → List HP → Prop} {F : HP} (hf : P.funcs[f]? = some fn) (hq : Q (.tuple #[]) Bs) (he : Ent As (Bs ++ [F])) (hr : ∀ j, cst P (resE fn (mk l j)) = some (.tuple #[]) := by intro j; rfl) :
    RunS P f n (post Q F) [] l As := .mk fun _ _ s => run_end hf (fun j _ w _ => cst_run _ (hr j) w) ⟨Bs, hq, he.sat s⟩
end
theorem SlK.pure {K : Nat → Obj → Prop} {sz : Nat} {a : Option Addr} {n c : Nat} {row : Nat → List Value} (h : SlK K sz (.slice a n c) n row) : n ≤ c ∧ (a = none → n = 0) := by
  obtain ⟨b, cap, e, hc, _, h3⟩ := h
  cases e
  refine ⟨hc, fun ha => ?_⟩
  rcases Nat.eq_zero_or_pos n with h | h
  · exact h
  · obtain ⟨_, _, _, _, _, e, _⟩ := h3 h; rw [ha] at e; cases e
theorem rd_pure {A : HP} {sz : Nat} {a : Option Addr} {n c : Nat} {row : Nat → List Value} [r : Rd A sz (.slice a n c) n row] (H M : Heap) (h : A.p H M) : n ≤ c ∧ (a = none → n = 0) := (r.h H M h).pure
end Go.Cam
/- The address of an element, where only the slice itself is known to be there. -/
namespace Go.Cam
section
variable {P : Program} {l : List (Nat × Value)} {As Bs : List HP} {d : Nat} {oty : TypeId} {pos : String} {af : Array Edge} {g : Option (Nat × Bool)}
end
end Go.Cam
/- An empty slice is written out, as a step. -/
namespace Go.Cam
section
variable {P : Program} {l : List (Nat × Value)} {As : List HP} {dd : Option Nat} {oty : TypeId} {pos : String} {af : Array Edge} {g : Option (Nat × Bool)}
/-- a text that is written out, as bytes: its row is marked -/
theorem st_cvb {t e : TypeId} {b m c : Nat} {x : Operand} {cs : Array Value} {ty : TypeId} {As' : List HP} [sc : SC P t e] [u8 : U8T P e] (u : Upd (.own b (.cells cs ty (0, 0))) (.own b (.cells cs ty (cs.size, cs.size + 1))) As As')
    (hx : ∀ j, ev (mk l j) x = .slice (some ⟨b, 0, none⟩) m c := by intro j; rfl) :
    StepL P ⟨dd, .convert t t x, oty, pos, af, g⟩ l As (fun v Bs => v = .slice (some ⟨b, 0, none⟩) m c ∧ Bs = As') := .mk fun j Fs H M q => by
  obtain ⟨Cs, s1, s2⟩ := (u.app Fs).sels
  obtain ⟨hb, hq⟩ := own_write (o' := .cells cs ty (cs.size, cs.size + 1)) (s1.sat q)
  refine hmc_of_hm ?_
  show hm P (convert t t (ev (mk l j) x) >>= fun v => pure (Next.value v)) H M _
  rw [hx j]
  refine hm_bind (fun w0 w hh => ?_)
  have h1 := hh.m b _ hb
  have hsh : w.shape? b = some (ty, cs.size) := by unfold World.shape?; rw [h1]
  refine ⟨.slice (some ⟨b, 0, none⟩) m c, w.freeze ⟨b, cs.size, none⟩ 1, H, upd M b (.cells cs ty (cs.size, cs.size + 1)), ?_, ?_, hm_pure ⟨_, .inl rfl, _, ⟨rfl, rfl⟩, s2.back hq⟩⟩
  · simp [convert, cst_run _ sc.h w, cst_run _ u8.h w, markStringish, hsh]
  · have := hh.modify hb (fun o => match o with | .cells c elem (lo, hi) => .cells c elem (if lo == hi then (cs.size, cs.size + 1) else (min lo cs.size, max hi (cs.size + 1))) | o => o)
    exact this
end
end Go.Cam
