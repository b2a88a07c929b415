/- From what a row of the law hands over to assertions, and from a contract to what the row asks. -/
import Derived.Test.YtldonbnjefhfdaaCamAA
import Derived.Test.YtldonbnjefhfdaaCamS
namespace Go.Cam
open Go.ChangeShapes Go.WideShapes Go.ChangeAt Go.RowKit Go.Deep
theorem extract_rows {c : Array Value} {off sz : Nat} {row : Nat → List Value} : ∀ {n : Nat}, (∀ i, i < n → c.extract (off + i * sz) (off + i * sz + sz) = (row i).toArray ∧ off + i * sz + sz ≤ c.size) → c.extract off (off + n * sz) = (flat n row).toArray
  | 0, _ => by simp [flat]; omega
  | n + 1, h => by
    have ih := extract_rows (n := n) fun i hi => h i (by omega)
    obtain ⟨h1, h2⟩ := h n (by omega)
    have e1 := congrArg Array.toList ih
    have e2 := congrArg Array.toList h1
    rw [Array.toList_extract, List.extract_eq_take_drop, Nat.add_sub_cancel_left] at e1 e2
    dsimp only at e1 e2
    apply Array.ext'
    rw [Array.toList_extract, List.extract_eq_take_drop, Nat.add_sub_cancel_left, flat_succ, Nat.add_mul, Nat.one_mul, List.take_add, e1, List.drop_drop, e2]
section
variable {H : Type} {enc : TypeId × Value → H} {P : Program} {w : World} {base : Nat} {held : Bool}
end
theorem below_ctr {P : Program} {f : FuncId} {args : List Value} {As : List HP} {W : World} {V : Value} (h : Ctr P f args As (fun v Bs => v = V ∧ Bs = [])) (hA : (Sat As).p (held W) nil) :
    Calls P f args.toArray W (fun e W' => e = .returned V ∧ Below W.heap.size W W') := by
  let F : HP := .per (fun H => Le (held W) H) fun h1 h2 => h2.trans h1
  have s : (Sat (As ++ [F])).p (held W) nil := Sat.join (star_comm (per_add (M0 := nil) (A := F) (Le.refl _) hA))
  refine (h F (held W) nil s W W (Has.start W)).mono fun e W' ⟨v, H', M', he, hh, Bs, ⟨hv, hb⟩, hs⟩ => ?_
  subst he; subst hv; subst hb
  have hle : Le (held W) H' := star_fst hs
  refine ⟨rfl, hh.os, hh.tape, hh.output, hh.size, fun k hk => ?_⟩
  have : W.heap[k]? = some W.heap[k] := Array.getElem?_eq_getElem hk
  rw [this]
  exact hh.h k _ (hle k _ this)
end Go.Cam
/- Parts of slices, over assertions; append of zeros to nothing. -/
namespace Go.Cam
def sladdr (a : Option Addr) (sz p cap : Nat) : Option Addr := if cap = p then a else a.map fun x => x.add (p * sz)
section
variable {P : Program} {f : FuncId} {n : Nat} {R : Value → HP} {k : List It} {l : List (Nat × Value)} {As Bs : List HP} {all : Array Oper} {rest os : List Oper} {d : Nat} {oty : TypeId} {pos : String} {af : Array Edge} {g : Option (Nat × Bool)}
theorem qs_slc' {H M : Heap} {d : Option Nat} {t : TypeId} {x : Operand} {lo hi : Option Operand} {e : Nat → Value} {a : Option Addr} {len cap el sz : Nat} (p q : Nat) [sc : SC P t el] [hs : SZ P el sz]
    (hx : ev e x = .slice a len cap) (hlo : loB e lo p) (hhi : hiB e hi len q) (hl : p ≤ q) (hh : q ≤ cap) :
    Qs P ⟨d, .slice t x lo hi none, oty, pos, af, g⟩ e H M (.slice (sladdr a sz p cap) (q - p) (cap - p)) := by
  refine qt_exec (s := Instr.sliceAt t (ev e x) (lo.map (ev e)) (hi.map (ev e)) none) (by unfold execOp; rfl) fun w0 w _ => ?_
  refine cst_run _ ?_ w
  rw [hx]
  unfold Instr.sliceAt
  rw [cst_bind sc.h]
  dsimp only
  unfold Instr.slice
  rw [cst_bind sc.h]
  dsimp only
  have hb : cst P (Instr.sliceBounds true len cap (lo.map (ev e)) (hi.map (ev e)) none) = some (p, q, cap) := by
    unfold Instr.sliceBounds
    cases lo with
    | none =>
      simp only [loB] at hlo
      subst hlo
      cases hi with
      | none => simp only [hiB] at hhi; subst hhi; rfl
      | some y =>
        obtain ⟨k, hy⟩ := hhi
        simp only [Option.map_none, Option.map_some, pure_bind]
        rw [cst_bind (cst_sliceBound hy hh)]; rfl
    | some z =>
      obtain ⟨k', hz⟩ := hlo
      cases hi with
      | none =>
        simp only [hiB] at hhi
        subst hhi
        simp only [Option.map_none, Option.map_some, pure_bind]
        rw [cst_bind (cst_sliceBound hz hl)]; rfl
      | some y =>
        obtain ⟨k, hy⟩ := hhi
        simp only [Option.map_some, pure_bind]
        rw [cst_bind (cst_sliceBound hy hh), cst_bind (cst_sliceBound hz hl)]; rfl
  rw [cst_bind hb]
  dsimp only
  rw [cst_bind hs.h]
  unfold sladdr
  by_cases hc : cap = p
  · simp only [if_pos hc]; rfl
  · simp only [if_neg hc]; rfl
/-- a part of a slice -/
theorem lk_slc (p q : Nat) {t : TypeId} {x : Operand} {lo hi : Option Operand} {a : Option Addr} {len cap el sz : Nat} [SC P t el] [SZ P el sz]
    (hl : p ≤ q) (hh : q ≤ cap) (hx : ∀ j, ev (mk l j) x = .slice a len cap := by intro j; rfl) (hlo : ∀ j, loB (mk l j) lo p := by intro j; first | rfl | exact ⟨_, rfl⟩) (hhi : ∀ j, hiB (mk l j) hi len q := by intro j; first | rfl | exact ⟨_, rfl⟩) :
    LookS P ⟨some d, .slice t x lo hi none, oty, pos, af, g⟩ l As (.slice (sladdr a sz p cap) (q - p) (cap - p)) := .mk fun j _ _ _ => qs_slc' p q (hx j) (hlo j) (hhi j) hl hh
end
theorem sladdr0 (a : Option Addr) (sz cap : Nat) : sladdr a sz 0 cap = a := by
  unfold sladdr
  split
  · rfl
  · cases a with
    | none => rfl
    | some x => simp [Addr.add]
/-- what is read of a slice is read of its part -/
theorem SA.part {sz : Nat} {a : Option Addr} {n cap : Nat} {row : Nat → List Value} (p q : Nat) (hp : p ≤ q) (hq : q ≤ n) (H M : Heap) (h : (SA none sz (.slice a n cap) n row).p H M) :
    (SA none sz (.slice (sladdr a sz p cap) (q - p) (cap - p)) (q - p) (fun i => row (p + i))).p H M := by
  obtain ⟨base, cap', e, hc, h1, h2⟩ := h
  cases e
  refine ⟨_, _, rfl, by omega, fun i hi => h1 _ (by omega), fun h0 => ?_⟩
  obtain ⟨b, off, c, ty, fr, rfl, kn, hs, hx⟩ := h2 (by omega)
  have hne : cap ≠ p := by omega
  have hle : (p + (q - p)) * sz ≤ n * sz := Nat.mul_le_mul_right _ (by omega)
  rw [Nat.add_mul] at hle
  refine ⟨b, off + p * sz, c, ty, fr, by unfold sladdr; rw [if_neg hne]; simp [addr_add], kn, by omega, ?_⟩
  have h3 := flat_part (k := q - p) h1 (show p + (q - p) ≤ n by omega)
  have h4 : ((flat n row).toArray.extract (p * sz) (p * sz + (q - p) * sz)) = (flat (q - p) fun i => row (p + i)).toArray := by
    rw [← h3]
    apply Array.ext'
    rw [Array.toList_extract, List.extract_eq_take_drop]
    simp
  rw [← h4, ← hx]
  rw [Array.extract_extract]
  congr 1
  omega
/-- a slice of one's own, cut -/
theorem SA.cut {e sz : Nat} {a : Option Addr} {n cap : Nat} {row : Nat → List Value} (m : Nat) (hm : m ≤ n) (H M : Heap) (h : (SA (some e) sz (.slice a n cap) n row).p H M) : (SA (some e) sz (.slice a m cap) m row).p H M := by
  obtain ⟨h1, h2, h3, _⟩ := h
  obtain ⟨d, rfl⟩ : ∃ d, n = m + d := ⟨n - m, by omega⟩
  have hf : flat (m + d) row = flat m row ++ flat d (fun q => row (m + q)) := flat_add m d row
  refine ⟨fun i hi => h1 i (by omega), ?_, ?_, _, _, rfl⟩
  · rw [hf, List.all_append, Bool.and_eq_true] at h2; exact h2.1
  · generalize hN : m + d = N at *
    rcases h3 with ⟨e1, e2⟩ | ⟨b, len, cap', cs, e1, h4, h5, h6, h7, h8⟩
    · cases e1
      obtain rfl : m = 0 := by omega
      exact .inl ⟨rfl, rfl⟩
    · cases e1
      refine .inr ⟨b, m, cap, cs, rfl, flat_len fun i hi => h1 i (by omega), h5, by omega, h7, ?_⟩
      rw [hf] at h8
      have := congrArg (fun l => l.take (flat m row).length) h8
      rw [List.take_take, List.length_append, Nat.min_eq_left (by omega), List.take_left' rfl] at this
      exact this
theorem hm_appz {P : Program} {H M : Heap} {t ti e sz bytes m : Nat} {it : IntKind} [sl : SL P t e sz bytes] {K : Value → Heap → Heap → Prop} {z : Value} [zv : ZV P e z] (hti : cst P (underlying ti) = some (.int it)) (hm0 : 0 < m)
    (hroom : (m + 512) * bytes ≤ 140737488355328) (h63 : m < 9223372036854775808)
    (h : ∀ r nc, Fresh H M r → m ≤ nc → K (.slice (some ⟨r, 0, none⟩) m nc) H (upd M r (.cells (Builtin.zeroCells z.cells m ++ Builtin.zeroCells z.cells (nc - m)) e))) :
    hm P (Builtin.append_ #[t, ti] t #[.slice none 0 0, .int .i64 (m : Int)]) H M K := by
  obtain ⟨i, z', hu, hs, hi, hby, hb0, hz, hzs, hsz⟩ := sl.h
  have hzz : z' = z := by have := hz.symm.trans zv.h; exact Option.some.inj this
  subst hzz
  unfold Builtin.append_
  simp only [List.getElem?_toArray, List.getElem?_cons_zero, List.getElem?_cons_succ]
  refine hm_bind (hm_cst hu ?_)
  dsimp only
  refine hm_bind (hm_cst hs ?_)
  refine hm_bind (hm_cst hti ?_)
  dsimp only
  refine hm_bind (hm_pure ?_)
  simp only [if_true, Bool.not_true, Bool.false_eq_true, if_false]
  refine hm_bind (hm_cst (a := (m : Int)) rfl ?_)
  rw [wrap_id (by omega) (by omega)]
  rw [if_neg (by omega)]
  refine hm_bind (hm_cst hi ?_)
  have hmb : (m : Int) * (i.bytes : Int) ≤ 2 ^ 48 := by
    rw [hby]
    have h2 : m * bytes ≤ 140737488355328 := Nat.le_trans (Nat.mul_le_mul_right _ (by omega)) hroom
    have h3 : ((m * bytes : Nat) : Int) ≤ 140737488355328 := by omega
    rw [Int.natCast_mul] at h3; omega
  rw [if_neg (by omega)]
  refine hm_bind (hm_pure ?_)
  simp only [Int.toNat_natCast, Nat.zero_add]
  rw [if_neg (by omega)]
  refine hm_bind (hm_cst hi ?_)
  rw [if_neg (by simp [IntKind.max, IntKind.signed, IntKind.bits]; omega)]
  refine hm_bind (hm_cst hi ?_)
  have hns := nextslicecap_le m 0 (by omega)
  have hle : Builtin.nextslicecap m 0 * i.bytes ≤ 2 ^ 48 := by
    rw [hby]
    have h2 : Builtin.nextslicecap m 0 * bytes ≤ (2 * m + 1024) * bytes := Nat.mul_le_mul_right _ hns
    have h3 : (2 * m + 1024) * bytes = 2 * ((m + 512) * bytes) := by rw [show 2 * m + 1024 = 2 * (m + 512) from by omega, Nat.mul_assoc]
    omega
  rw [if_neg (by omega)]
  refine hm_bind (hm_choose fun newCap _ hcut => ?_)
  obtain ⟨tt, rfl⟩ := hcut rfl
  refine hm_bind (hm_cst hi ?_)
  refine hm_bind (hm_askRoom ?_)
  have hnc : m ≤ (Question.appendCap m 0 e).cut tt := by simp [Question.cut]
  generalize (Question.appendCap m 0 e).cut tt = nc at hnc
  refine hm_bind (hm_cst (a := #[]) rfl ?_)
  rw [if_neg (by have := Nat.mul_pos hm0 hsz; omega)]
  refine hm_bind ?_
  refine hm_bind (hm_cst hz ?_)
  refine hm_pure ?_
  refine hm_bind (hm_cst hz ?_)
  refine hm_bind (hm_newRow fun r hr => hm_pure ?_)
  have := h r nc hr hnc
  simpa using this
theorem zeroCells_flat (z : Array Value) {sz : Nat} (hz : z.size = sz) (hsz : 0 < sz) (m : Nat) : Builtin.zeroCells z m = (flat m (fun _ => z.toList)).toArray := by
  unfold Builtin.zeroCells
  rw [hz, range_map]
  symm
  have hln : (flat m (fun _ => z.toList)).length = m * sz := flat_len fun _ _ => by simpa using hz
  refine arr_eq_tab (by simpa using hln) fun i hi => ?_
  have h1 : i / sz < m := Nat.div_lt_of_lt_mul (by rw [Nat.mul_comm]; exact hi)
  have h2 := flat_row (row := fun _ => z.toList) (n := m) (fun _ _ => by simpa using hz) h1
  have h3 := congrArg (fun l => l[i % sz]?) h2
  simp only [List.getElem?_take, Nat.mod_lt i hsz, if_true, List.getElem?_drop] at h3
  rw [show i / sz * sz + i % sz = i by rw [Nat.mul_comm]; exact Nat.div_add_mod i sz] at h3
  have h4 : i % sz < z.size := by rw [hz]; exact Nat.mod_lt i hsz
  rw [List.getElem?_toArray, h3, getElem!_pos z (i % sz) h4]
  simp [h4]
theorem execOp_appz (e : Nat → Value) {d : Option Nat} {pos : String} {af : Array Edge} {g : Option (Nat × Bool)} {t ti : TypeId} {p q : Operand} : execOp (ev e) ⟨d, .call ⟨.builtin .append, #[p, q], #[t, ti]⟩, t, pos, af, g⟩ = (Builtin.append_ #[t, ti] t #[ev e p, ev e q] >>= fun v => pure (Next.value v)) := by
  show (resolve (ev e) ⟨.builtin .append, #[p, q], #[t, ti]⟩ t >>= fun d => invoke d.target d.args) = _
  have : #[p, q].map (ev e) = #[ev e p, ev e q] := by simp
  unfold resolve
  dsimp only
  rw [this]; rfl
section
variable {P : Program} {f : FuncId} {n : Nat} {R : Value → HP} {k : List It} {l : List (Nat × Value)} {As Bs : List HP} {all : Array Oper} {rest os : List Oper} {d : Nat} {dd : Option Nat} {oty : TypeId} {pos : String} {af : Array Edge} {g : Option (Nat × Bool)}
/-- append(nil, make([]T, m)...) -/
theorem st_appz {t ti e sz bytes m : Nat} {p q : Operand} {it : IntKind} {z : Value} [sl : SL P t e sz bytes] [zv : ZV P e z] [o1 : OneL z.cells.toList] (hti : cst P (underlying ti) = some (.int it)) (hm0 : 0 < m)
    (hp : ∀ j, ev (mk l j) p = .slice none 0 0 := by intro j; rfl) (hq : ∀ j, ev (mk l j) q = .int .i64 (m : Int) := by intro j; rfl)
    (hroom : (m + 512) * bytes ≤ 140737488355328 := by omega) (h63 : m < 9223372036854775808 := by omega) :
    StepL P ⟨dd, .call ⟨.builtin .append, #[p, q], #[t, ti]⟩, t, pos, af, g⟩ l As (fun v Bs => ∃ a cap, v = .slice a m cap ∧ m ≤ cap ∧ Bs = SA (some e) sz (.slice a m cap) m (fun _ => z.cells.toList) :: As) := .mk fun j Fs H M s => by
  obtain ⟨i, z', hu, hs, hi, hby, hb0, hz, hzs, hsz⟩ := sl.h
  have hzz : z' = z := by have := hz.symm.trans zv.h; simpa using this
  subst hzz
  refine hmc_of_hm ?_
  rw [execOp_appz, hp j, hq j]
  refine hm_bind (hm_appz hti hm0 hroom h63 fun r nc hr hnc => hm_pure ⟨_, .inl rfl, _, ⟨_, _, rfl, hnc, rfl⟩, star_monoL (fun H M h => ?_) (own_new hr s)⟩)
  have hln : (flat m (fun _ => z'.cells.toList)).length = m * sz := flat_len fun _ _ => by simpa using hzs
  refine ⟨fun _ _ => by simpa using hzs, ?_, .inr ⟨r, m, nc, _, rfl, hln, ?_, hnc, h, ?_⟩, _, _, rfl⟩
  · rw [List.all_eq_true]
    intro u hu
    obtain ⟨i, _, h2⟩ := List.mem_flatMap.1 hu
    exact List.all_eq_true.1 o1.h u h2
  · rw [zeroCells_flat _ hzs hsz, zeroCells_flat _ hzs hsz]
    have h2 : (flat (nc - m) (fun _ => z'.cells.toList)).length = (nc - m) * sz := flat_len fun _ _ => by simpa using hzs
    simp only [Array.size_append, List.size_toArray, hln, h2]
    rw [← Nat.add_mul]; congr 1; omega
  · rw [zeroCells_flat _ hzs hsz]
    simp only [Array.toList_append]
    exact List.take_left' rfl
end
section
variable {P : Program} {H M : Heap} {l : List (Nat × Value)} {As : List HP} {oty : TypeId} {pos : String} {af : Array Edge} {g : Option (Nat × Bool)}
theorem qs_cap {d : Option Nat} {t : TypeId} {p : Operand} {e : Nat → Value} {b : Option Addr} {m c el : Nat} [sc : SC P t el] (hp : ev e p = .slice b m c) :
    Qs P ⟨d, .call ⟨.builtin .cap, #[p], #[t]⟩, oty, pos, af, g⟩ e H M (.int .i64 c) := by
  refine qt_cst ?_
  show cst P (resolve (ev e) ⟨.builtin .cap, #[p], #[t]⟩ oty >>= fun d => invoke d.target d.args) = _
  have e1 : #[p].map (ev e) = #[ev e p] := by simp
  unfold resolve
  dsimp only
  rw [e1, hp]
  show cst P (Builtin.cap_ #[t] oty #[.slice b m c] >>= fun v => pure (Next.value v)) = _
  unfold Builtin.cap_
  simp only [List.getElem?_toArray, List.getElem?_cons_zero]
  rw [cst_of_run, cst_of_run, sc.h]
  rfl
theorem lk_cap {d : Nat} {t : TypeId} {p : Operand} {a : Option Addr} {n c el : Nat} [sc : SC P t el] (hx : ∀ j, ev (mk l j) p = .slice a n c := by intro j; rfl) :
    LookS P ⟨some d, .call ⟨.builtin .cap, #[p], #[t]⟩, oty, pos, af, g⟩ l As (.int .i64 (c : Int)) := .mk fun j _ _ _ => qs_cap (hx j)
end
theorem s_again {P : Program} {f : FuncId} {n : Nat} {R : Value → HP} {k : List It} {l : List (Nat × Value)} {As : List HP} {c : Code} (h : RunS P f n R (.code c :: .inLoop c :: k) l As) : RunS P f n R (.inLoop c :: k) l As := .mk fun H M s => run_inLoop (h H M s)
theorem SA.cap {m : Option Nat} {sz : Nat} {a : Option Addr} {n c : Nat} {row : Nat → List Value} (H M : Heap) (h : (SA m sz (.slice a n c) n row).p H M) : n ≤ c := by
  obtain ⟨_, _, e, h2⟩ := SA.val h; cases e; exact h2
/-- what is read of a slice, and its part too -/
theorem s_part (p q : Nat) {P : Program} {f : FuncId} {n : Nat} {R : Value → HP} {k : List It} {l : List (Nat × Value)} {As Bs : List HP} {sz : Nat} {a : Option Addr} {m cap : Nat} {row : Nat → List Value} (hp : p ≤ q) (hq : q ≤ m) (s : Sel (SA none sz (.slice a m cap) m row) As Bs)
    (h : RunS P f n R k l (SA none sz (.slice (sladdr a sz p cap) (q - p) (cap - p)) (q - p) (fun i => row (p + i)) :: As)) : RunS P f n R k l As :=
  s_dup s (s_open (SA.part p q hp hq) h)
theorem s_nilN {P : Program} {f : FuncId} {n : Nat} {R : Value → HP} {k : List It} {l : List (Nat × Value)} {As : List HP} {sz m : Nat} {row : Nat → List Value} (hm : m = 0) (h : RunS P f n R k l (SA none sz (.slice none m 0) m row :: As)) : RunS P f n R k l As := .mk fun H M s =>
  h H M (per_add (M0 := M) ⟨none, 0, rfl, by omega, fun i h => by omega, fun h => by omega⟩ s)
theorem shl8_or (x c : Nat) (hx : x < 281474976710656) (hc : c < 256) : IntKind.i64.wrap ((BitVec.ofInt IntKind.i64.bits (IntKind.i64.wrap ((x : Int) * 2 ^ min (Int.toNat 8) IntKind.i64.bits)) ||| BitVec.ofInt IntKind.i64.bits (IntKind.i64.wrap (c : Int))).toNat : Nat) = ((x * 256 + c : Nat) : Int) := by
  have e1 : ((x : Int) * 2 ^ min (Int.toNat 8) IntKind.i64.bits) = ((x * 256 : Nat) : Int) := by
    rw [show (min (Int.toNat 8) IntKind.i64.bits) = 8 from rfl]; omega
  rw [e1, wrap_id (x := ((x * 256 : Nat) : Int)) (by omega) (by omega), wrap_id (x := (c : Int)) (by omega) (by omega)]
  have e2 : (BitVec.ofInt IntKind.i64.bits ((x * 256 : Nat) : Int) ||| BitVec.ofInt IntKind.i64.bits (c : Int)).toNat = x * 256 + c := by
    show (BitVec.ofInt 64 ((x * 256 : Nat) : Int) ||| BitVec.ofInt 64 (c : Int)).toNat = x * 256 + c
    rw [BitVec.toNat_or, BitVec.ofInt_natCast, BitVec.ofInt_natCast, BitVec.toNat_ofNat, BitVec.toNat_ofNat, Nat.mod_eq_of_lt (by omega), Nat.mod_eq_of_lt (by omega)]
    have := Nat.two_pow_add_eq_or_of_lt (i := 8) (b := c) (by omega) x
    rw [show 2 ^ 8 * x = x * 256 by omega] at this
    omega
  rw [e2, wrap_id (by omega) (by omega)]
end Go.Cam
/- Arrays that are cut into slices, over assertions. -/
namespace Go.Cam
section
variable {P : Program} {f : FuncId} {n : Nat} {R : Value → HP} {k : List It} {l : List (Nat × Value)} {As Bs : List HP} {d : Nat} {oty : TypeId} {pos : String} {af : Array Edge} {g : Option (Nat × Bool)}
theorem qs_slca {H M : Heap} {d : Option Nat} {t : TypeId} {x : Operand} {lo hi : Option Operand} {e : Nat → Value} {b off m el sz : Nat} (p q : Nat) [hu : AR P t m el] [hs : SZ P el sz]
    (hx : ev e x = .pointer (some ⟨b, off, none⟩)) (hlo : loB e lo p) (hhi : hiB e hi m q) (hl : p ≤ q) (hh : q ≤ m) (hpm : p < m) :
    Qs P ⟨d, .slice t x lo hi none, oty, pos, af, g⟩ e H M (.slice (some ⟨b, off + p * sz, none⟩) (q - p) (m - p)) := by
  refine qt_exec (s := Instr.sliceAt t (ev e x) (lo.map (ev e)) (hi.map (ev e)) none) (by unfold execOp; rfl) fun w0 w _ => ?_
  refine cst_run _ ?_ w
  rw [hx]
  unfold Instr.sliceAt
  rw [cst_bind hu.h]
  dsimp only
  have ha : cst P (Instr.sureAddr (.pointer (some ⟨b, off, none⟩))) = some ⟨b, off, none⟩ := rfl
  rw [cst_bind ha]
  have hb : cst P (Instr.sliceBounds false m m (lo.map (ev e)) (hi.map (ev e)) none) = some (p, q, m) := by
    unfold Instr.sliceBounds
    cases lo with
    | none =>
      simp only [loB] at hlo
      subst hlo
      cases hi with
      | none => simp only [hiB] at hhi; subst hhi; rfl
      | some y =>
        obtain ⟨k, hy⟩ := hhi
        simp only [Option.map_none, Option.map_some, pure_bind]
        rw [cst_bind (cst_sliceBound hy hh)]; rfl
    | some z =>
      obtain ⟨k', hz⟩ := hlo
      cases hi with
      | none =>
        simp only [hiB] at hhi
        subst hhi
        simp only [Option.map_none, Option.map_some, pure_bind]
        rw [cst_bind (cst_sliceBound hz hl)]; rfl
      | some y =>
        obtain ⟨k, hy⟩ := hhi
        simp only [Option.map_some, pure_bind]
        rw [cst_bind (cst_sliceBound hy hh), cst_bind (cst_sliceBound hz hl)]; rfl
  rw [cst_bind hb]
  dsimp only
  rw [cst_bind hs.h]
  simp only [if_neg (show ¬ m = p by omega), addr_add]; rfl
/-- a part of an array -/
theorem lk_slca (p q : Nat) {t : TypeId} {x : Operand} {lo hi : Option Operand} {b off m el sz : Nat} [AR P t m el] [SZ P el sz]
    (hl : p ≤ q) (hh : q ≤ m) (hpm : p < m) (hx : ∀ j, ev (mk l j) x = .pointer (some ⟨b, off, none⟩) := by intro j; rfl) (hlo : ∀ j, loB (mk l j) lo p := by intro j; first | rfl | exact ⟨_, rfl⟩) (hhi : ∀ j, hiB (mk l j) hi m q := by intro j; first | rfl | exact ⟨_, rfl⟩) :
    LookS P ⟨some d, .slice t x lo hi none, oty, pos, af, g⟩ l As (.slice (some ⟨b, off + p * sz, none⟩) (q - p) (m - p)) := .mk fun j _ _ _ => qs_slca p q (hx j) (hlo j) (hhi j) hl hh hpm
/-- a block of one's own may be only read from now on: as a slice -/
theorem s_fzo {sz m c off b : Nat} {cs : Array Value} {ty : TypeId} {fr : Nat × Nat} {row : Nat → List Value} (u : Sel (.own b (.cells cs ty fr)) As Bs) (hr : ∀ i, i < m → (row i).length = sz) (hm : m ≤ c) (hl : off + m * sz ≤ cs.size)
    (hx : cs.extract off (off + m * sz) = (flat m row).toArray) (h : RunS P f n R k l (SA none sz (.slice (some ⟨b, off, none⟩) m c) m row :: Bs)) : RunS P f n R k l As := .mk fun H M s => by
  have hs := u.sat s
  intro j w0 w a bb cs' k' hk hh ha hf hn
  obtain ⟨g1, g2⟩ := own_freeze (b := b) (o := .cells cs ty fr) (X := Sat Bs) hh.d hs
  exact h _ _ (per_add (M0 := M) ⟨_, _, rfl, hm, hr, fun _ => ⟨b, off, cs, ty, fr, rfl, upd_same _ _ _, hl, hx⟩⟩ g2) j w0 w a bb cs' k' hk (g1 _ _ hh) ha hf hn
theorem fdiv_pow (a m : Nat) : (a : Int).fdiv (2 ^ m) = ((a / 2 ^ m : Nat) : Int) := by
  have h2 : ((2 : Int) ^ m) = ((2 ^ m : Nat) : Int) := by simp
  rw [h2, Int.fdiv_eq_ediv_of_nonneg _ (Int.natCast_nonneg _), Int.natCast_ediv]
/-- a number that is not negative, shifted -/
theorem lk_shr {t t2 : TypeId} {x y : Operand} {k1 k2 : IntKind} {a m : Nat} (hx : ∀ j, ev (mk l j) x = .int k1 (a : Int) := by intro j; rfl) (hy : ∀ j, ev (mk l j) y = .int k2 (m : Int) := by intro j; rfl) (hm : m ≤ k1.bits) :
    LookS P ⟨some d, .binOp .shr t x y t2, oty, pos, af, g⟩ l As (.int k1 ((a / 2 ^ m : Nat) : Int)) := .mk fun j _ _ _ => by
  refine qs_binw rfl ?_ fun w => ?_
  · rw [hx j, hy j]; rfl
  · rw [hx j, hy j]; show (Op.shift .shr k1 a k2 m).run P w = _
    unfold Op.shift
    rw [if_neg (by omega), Int.toNat_natCast, Nat.min_eq_left hm]
    dsimp only
    rw [fdiv_pow]; rfl
theorem wrap_u64 (a : Nat) (h : a < 18446744073709551616) : IntKind.u64.wrap (a : Int) = (a : Int) := by
  simp only [IntKind.wrap, IntKind.signed, IntKind.bits]
  simp; omega
theorem wrap_u8 (a : Nat) : IntKind.u8.wrap (a : Int) = ((a % 256 : Nat) : Int) := by
  simp only [IntKind.wrap, IntKind.signed, IntKind.bits]
  simp
theorem wrap_u32 (a : Nat) (h : a < 4294967296) : IntKind.u32.wrap (a : Int) = (a : Int) := by
  simp only [IntKind.wrap, IntKind.signed, IntKind.bits]
  simp; omega
theorem and_u32 (a b : Nat) {x y : Int} (hx : x = a) (hy : y = b) (ha : a < 4294967296) (hb : b < 4294967296) : IntKind.u32.wrap (((BitVec.ofInt IntKind.u32.bits x &&& BitVec.ofInt IntKind.u32.bits y).toNat : Nat) : Int) = ((a &&& b : Nat) : Int) := by
  subst hx hy
  have e : (BitVec.ofInt IntKind.u32.bits (a : Int) &&& BitVec.ofInt IntKind.u32.bits (b : Int)).toNat = a &&& b := by
    show (BitVec.ofInt 32 (a : Int) &&& BitVec.ofInt 32 (b : Int)).toNat = a &&& b
    rw [BitVec.toNat_and, BitVec.ofInt_natCast, BitVec.ofInt_natCast, BitVec.toNat_ofNat, BitVec.toNat_ofNat, Nat.mod_eq_of_lt (by omega), Nat.mod_eq_of_lt (by omega)]
  rw [e, wrap_u32 _ (Nat.and_lt_two_pow (n := 32) _ (by omega))]
theorem xor_u32 (a b : Nat) {x y : Int} (hx : x = a) (hy : y = b) (ha : a < 4294967296) (hb : b < 4294967296) : IntKind.u32.wrap (((BitVec.ofInt IntKind.u32.bits x ^^^ BitVec.ofInt IntKind.u32.bits y).toNat : Nat) : Int) = ((a ^^^ b : Nat) : Int) := by
  subst hx hy
  have e : (BitVec.ofInt IntKind.u32.bits (a : Int) ^^^ BitVec.ofInt IntKind.u32.bits (b : Int)).toNat = a ^^^ b := by
    show (BitVec.ofInt 32 (a : Int) ^^^ BitVec.ofInt 32 (b : Int)).toNat = a ^^^ b
    rw [BitVec.toNat_xor, BitVec.ofInt_natCast, BitVec.ofInt_natCast, BitVec.toNat_ofNat, BitVec.toNat_ofNat, Nat.mod_eq_of_lt (by omega), Nat.mod_eq_of_lt (by omega)]
  rw [e, wrap_u32 _ (Nat.xor_lt_two_pow (n := 32) (by omega) (by omega))]
end
end Go.Cam
/- Maps by whole numbers, over assertions. -/
namespace Go.Cam
section
variable {P : Program} {H M : Heap}
def hq {α : Type} (P : Program) (e : Sem α) (H M : Heap) (a : α) : Prop := ∀ w0 w, Has w0 w H M → e.run P w = .ok a w
theorem hq_bind {α β : Type} {e : Sem α} {f : α → Sem β} {a : α} {b : β} (h : hq P e H M a) (h2 : hq P (f a) H M b) : hq P (e >>= f) H M b := fun w0 w hh => by
  rw [hm_run_bind _ _ _ (h w0 w hh)]; exact h2 w0 w hh
theorem hq_pure {α : Type} {a : α} : hq P (pure a) H M a := fun _ _ _ => rfl
theorem hq_cst {α : Type} {e : Sem α} {a : α} (h : cst P e = some a) : hq P e H M a := fun _ w _ => cst_run e h w
def noCells : Obj → Bool
  | .cells .. => false
  | _ => true
theorem hq_get {r : Nat} {o : Obj} (hb : Kn H M r o) (hn : noCells o = true := by rfl) : hq P (getObj r) H M o := by
  intro w0 w hh
  show (Sem.getObj r Sem.pure).run P w = _
  simp only [Sem.run]
  rw [hh.look hb]
  cases o <;> first | rfl | cases hn
theorem hm_hq {α : Type} {e : Sem α} {a : α} {K : α → Heap → Heap → Prop} (hc : hq P e H M a) (h : K a H M) : hm P e H M K := fun w0 w hw => ⟨a, w, H, M, hc w0 w hw, hw, h⟩
theorem hm_setO {r : Nat} {o : Obj} (o2 : Obj) {K : Unit → Heap → Heap → Prop} (hb : M r = some o) (h : K () H (upd M r o2)) (hn : noCells o = true := by rfl) (hn2 : noCells o2 = true := by rfl) : hm P (setObj r o2) H M K := by
  intro w0 w hh
  refine ⟨(), _, H, _, ?_, hh.set hb o2, h⟩
  show (Sem.setObj r o2 (Sem.pure ())).run P w = _
  simp only [Sem.run]
  rw [hh.look (.inl hb)]
  cases o <;> cases o2 <;> first | rfl | cases hn | cases hn2
theorem hm_newO {o : Obj} {K : Nat → Heap → Heap → Prop} (h : ∀ r, Fresh H M r → K r H (upd M r o)) : hm P (newObj o) H M K := by
  intro w0 w hh
  exact ⟨w.heap.size, _, H, _, rfl, hh.push _, h _ hh.fresh⟩
end
/-- entries of a map by whole numbers -/
structure WFM (es : List MapEntry) (ck : Nat) (g : Int → Option Value) : Prop where
  key : ∀ e ∈ es, ∃ k, e.key = .int .i64 k ∧ g k = some e.val
  all : ∀ k v, g k = some v → ∃ e ∈ es, e.key = .int .i64 k
  kd : es.Pairwise (fun a b => a.key ≠ b.key)
  bd : es.Pairwise (fun a b => a.born ≠ b.born)
  bl : ∀ e ∈ es, e.born < ck
theorem find_none (k : Int) : ∀ (es : List MapEntry) (i : Nat), (∀ e ∈ es, ∃ k2, e.key = .int .i64 k2 ∧ k2 ≠ k) → Instr.findNow (.int .i64) (.int .i64 k) es i = some none
  | [], _, _ => rfl
  | e :: es, i, h => by
    obtain ⟨k2, h1, h2⟩ := h e (List.mem_cons_self ..)
    have hb : (k == k2) = false := by simpa using fun e => h2 e.symm
    unfold Instr.findNow
    rw [h1]
    simp only [Instr.sameNow, if_true, hb]
    exact find_none k es (i + 1) fun e he => h e (List.mem_cons_of_mem _ he)
theorem find_some (k : Int) (v : Value) : ∀ (es : List MapEntry) (i : Nat), (∀ e ∈ es, ∃ k2, e.key = .int .i64 k2 ∧ (k2 = k → e.val = v)) → (∃ e ∈ es, e.key = .int .i64 k) →
    ∃ j e, es[j]? = some e ∧ e.key = .int .i64 k ∧ Instr.findNow (.int .i64) (.int .i64 k) es i = some (some (i + j, v))
  | [], _, _, ⟨e, he, _⟩ => nomatch he
  | e :: es, i, h, hx => by
    obtain ⟨k2, h1, h2⟩ := h e (List.mem_cons_self ..)
    by_cases hk : k2 = k
    · subst hk
      refine ⟨0, e, rfl, h1, ?_⟩
      unfold Instr.findNow
      rw [h1]
      simp [Instr.sameNow, h2 rfl]
    · have hb : (k == k2) = false := by simpa using fun e => hk e.symm
      obtain ⟨j, e', h3, h4, h5⟩ := find_some k v es (i + 1) (fun e he => h e (List.mem_cons_of_mem _ he)) (by
        obtain ⟨e2, he2, hk2⟩ := hx
        rcases List.mem_cons.1 he2 with rfl | hm
        · rw [h1] at hk2; cases hk2; exact absurd rfl hk
        · exact ⟨e2, hm, hk2⟩)
      refine ⟨j + 1, e', by simpa using h3, h4, ?_⟩
      unfold Instr.findNow
      rw [h1]
      simp only [Instr.sameNow, if_true, hb]
      rw [h5, show i + 1 + j = i + (j + 1) by omega]
theorem WFM.no {es ck g} (h : WFM es ck g) {k : Int} (hk : g k = none) (i : Nat) : Instr.findNow (.int .i64) (.int .i64 k) es i = some none :=
  find_none k es i fun e he => by obtain ⟨k2, h1, h2⟩ := h.key e he; exact ⟨k2, h1, fun e => by subst e; rw [hk] at h2; cases h2⟩
theorem WFM.yes {es ck g} (h : WFM es ck g) {k : Int} {v : Value} (hk : g k = some v) (i : Nat) : ∃ j e, es[j]? = some e ∧ e.key = .int .i64 k ∧ Instr.findNow (.int .i64) (.int .i64 k) es i = some (some (i + j, v)) :=
  find_some k v es i (fun e he => by obtain ⟨k2, h1, h2⟩ := h.key e he; exact ⟨k2, h1, fun e => by subst e; rw [hk] at h2; cases h2; rfl⟩) (h.all _ _ hk)
class MTY (P : Program) (t : Nat) (elem : outParam Nat) : Prop where
  h : ∃ key, cst P (underlying t) = some (.map key elem) ∧ cst P (underlying key) = some (.int .i64)
/-- a map of one's own: what it has -/
def MG (r : Nat) (g : Int → Option Value) : HP := ⟨fun _ M => ∃ es ck, M r = some (.map es ck) ∧ WFM es.toList ck g, fun _ h2 ⟨es, ck, h3, h4⟩ => ⟨es, ck, h2 _ _ h3, h4⟩⟩
theorem cst_checkKey {P : Program} {key : Nat} {b : Bool} {k : Int} {n : Nat} (hk : cst P (underlying key) = some (.int .i64)) : cst P (Instr.checkKey b (n + 1) key (.int .i64 k)) = some () := by
  unfold Instr.checkKey
  rw [cst_bind hk]; rfl
theorem cst_findKey {P : Program} {key : Nat} {k : Int} {es : List MapEntry} {o : Option (Nat × Value)} (hk : cst P (underlying key) = some (.int .i64)) (ho : Instr.findNow (.int .i64) (.int .i64 k) es 0 = some o) : cst P (Instr.findKey key (.int .i64 k) es) = some o := by
  unfold Instr.findKey
  rw [cst_bind hk, ho]; rfl
section
variable {P : Program} {f : FuncId} {n : Nat} {R : Value → HP} {k : List It} {l : List (Nat × Value)} {As Bs : List HP} {all : Array Oper} {rest : List Oper} {d : Nat} {dd : Option Nat} {oty : TypeId} {pos : String} {af : Array Edge} {g : Option (Nat × Bool)}
theorem hq_lkp {H M : Heap} {t elem r : Nat} {es : Array MapEntry} {ck : Nat} {gm : Int → Option Value} {z : Value} {kk : Int} {b : Bool} [mt : MTY P t elem] [zv : ZV P elem z] (hr : Kn H M r (.map es ck)) (hw : WFM es.toList ck gm) :
    hq P (Instr.lookup t (.map (some r)) (.int .i64 kk) b) H M (if b then .tuple #[(gm kk).getD z, .bool (gm kk).isSome] else (gm kk).getD z) := by
  obtain ⟨key, hu, hk⟩ := mt.h
  unfold Instr.lookup
  refine hq_bind (hq_cst hu) ?_
  dsimp only
  refine hq_bind (hq_get hr) ?_
  dsimp only
  refine hq_bind hq_pure ?_
  refine hq_bind (hq_cst (cst_checkKey hk)) ?_
  cases hg : gm kk with
  | none =>
    refine hq_bind (hq_cst (cst_findKey hk (hw.no hg 0))) ?_
    dsimp only
    refine hq_bind (hq_cst zv.h) ?_
    refine hq_bind hq_pure ?_
    cases b <;> exact hq_pure
  | some v =>
    obtain ⟨j, e', _, _, h3⟩ := hw.yes hg 0
    refine hq_bind (hq_cst (cst_findKey hk h3)) ?_
    dsimp only
    refine hq_bind hq_pure ?_
    cases b <;> exact hq_pure
/-- a map is asked -/
theorem lk_lkp {t elem r : Nat} {x y : Operand} {gm : Int → Option Value} {z : Value} {kk : Int} {b : Bool} [mt : MTY P t elem] [zv : ZV P elem z]
    (s : Sel (MG r gm) As Bs := by repeat (first | with_reducible exact Sel.here | with_reducible apply Sel.there)) (hx : ∀ j, ev (mk l j) x = .map (some r) := by intro j; rfl) (hy : ∀ j, ev (mk l j) y = .int .i64 kk := by intro j; rfl) :
    LookS P ⟨some d, .lookup t x y b, oty, pos, af, g⟩ l As (if b then .tuple #[(gm kk).getD z, .bool (gm kk).isSome] else (gm kk).getD z) := .mk fun j H M q => by
  obtain ⟨es, ck, h1, h2⟩ := s.hold q
  refine qt_exec (s := Instr.lookup t (ev (mk l j) x) (ev (mk l j) y) b) (by unfold execOp; rfl) ?_
  rw [hx j, hy j]
  exact hq_lkp (.inl h1) h2
theorem lk_lks {t elem r : Nat} {x y : Operand} {gm : Int → Option Value} {z v : Value} {kk : Int} [mt : MTY P t elem] [zv : ZV P elem z] (hg : gm kk = some v)
    (s : Sel (MG r gm) As Bs := by repeat (first | with_reducible exact Sel.here | with_reducible apply Sel.there)) (hx : ∀ j, ev (mk l j) x = .map (some r) := by intro j; rfl) (hy : ∀ j, ev (mk l j) y = .int .i64 kk := by intro j; rfl) :
    LookS P ⟨some d, .lookup t x y false, oty, pos, af, g⟩ l As v := by
  have := lk_lkp (d := d) (oty := oty) (pos := pos) (af := af) (g := g) (b := false) (mt := mt) (zv := zv) s hx hy
  simpa [hg] using this
theorem lk_lks2 {t elem r : Nat} {x y : Operand} {gm : Int → Option Value} {z v : Value} {kk : Int} [mt : MTY P t elem] [zv : ZV P elem z] (hg : gm kk = some v)
    (s : Sel (MG r gm) As Bs := by repeat (first | with_reducible exact Sel.here | with_reducible apply Sel.there)) (hx : ∀ j, ev (mk l j) x = .map (some r) := by intro j; rfl) (hy : ∀ j, ev (mk l j) y = .int .i64 kk := by intro j; rfl) :
    LookS P ⟨some d, .lookup t x y true, oty, pos, af, g⟩ l As (.tuple #[v, .bool true]) := by
  have := lk_lkp (d := d) (oty := oty) (pos := pos) (af := af) (g := g) (b := true) (mt := mt) (zv := zv) s hx hy
  simpa [hg] using this
theorem lk_lkn2 {t elem r : Nat} {x y : Operand} {gm : Int → Option Value} {z : Value} {kk : Int} [mt : MTY P t elem] [zv : ZV P elem z] (hg : gm kk = none)
    (s : Sel (MG r gm) As Bs := by repeat (first | with_reducible exact Sel.here | with_reducible apply Sel.there)) (hx : ∀ j, ev (mk l j) x = .map (some r) := by intro j; rfl) (hy : ∀ j, ev (mk l j) y = .int .i64 kk := by intro j; rfl) :
    LookS P ⟨some d, .lookup t x y true, oty, pos, af, g⟩ l As (.tuple #[z, .bool false]) := by
  have := lk_lkp (d := d) (oty := oty) (pos := pos) (af := af) (g := g) (b := true) (mt := mt) (zv := zv) s hx hy
  simpa [hg] using this
def mset (gm : Int → Option Value) (k : Int) (v : Option Value) : Int → Option Value := fun q => if q = k then v else gm q
theorem WFM.push {es : List MapEntry} {ck : Nat} {gm : Int → Option Value} (h : WFM es ck gm) {k : Int} (v : Value) (hk : gm k = none) : WFM (es ++ [⟨.int .i64 k, v, ck⟩]) (ck + 1) (mset gm k (some v)) where
  key e he := by
    rcases List.mem_append.1 he with he | he
    · obtain ⟨k2, h1, h2⟩ := h.key e he
      exact ⟨k2, h1, by unfold mset; rw [if_neg fun e => by subst e; rw [hk] at h2; cases h2]; exact h2⟩
    · rw [List.mem_singleton] at he; subst he; exact ⟨k, rfl, by simp [mset]⟩
  all k2 v2 h2 := by
    unfold mset at h2
    split at h2
    · rename_i e; subst e; exact ⟨_, List.mem_append_right _ (List.mem_singleton.2 rfl), rfl⟩
    · obtain ⟨e, he, hk2⟩ := h.all _ _ h2; exact ⟨e, List.mem_append_left _ he, hk2⟩
  kd := by
    refine List.pairwise_append.2 ⟨h.kd, List.pairwise_singleton .., fun a ha b hb => ?_⟩
    rw [List.mem_singleton] at hb; subst hb
    obtain ⟨k2, h1, h2⟩ := h.key a ha
    rw [h1]; intro e; cases e; rw [hk] at h2; cases h2
  bd := by
    refine List.pairwise_append.2 ⟨h.bd, List.pairwise_singleton .., fun a ha b hb => ?_⟩
    rw [List.mem_singleton] at hb; subst hb
    have := h.bl a ha
    show a.born ≠ ck; omega
  bl e he := by
    rcases List.mem_append.1 he with he | he
    · have := h.bl e he; omega
    · rw [List.mem_singleton] at he; subst he; exact Nat.lt_succ_self _
theorem modify_set {es : List MapEntry} {j : Nat} {e : MapEntry} (h : es[j]? = some e) (f : MapEntry → MapEntry) : es.modify j f = es.set j (f e) := by
  apply List.ext_getElem?
  intro i
  rw [List.getElem?_modify, List.getElem?_set]
  by_cases hj : j = i
  · subst hj; rw [h]; have : j < es.length := by rcases Nat.lt_or_ge j es.length with h1 | h1; exact h1; rw [List.getElem?_eq_none h1] at h; cases h
    simp [this]
  · simp [hj]
theorem pw_set {r : MapEntry → MapEntry → Prop} (hr : ∀ a a' b, r a b → a'.key = a.key → a'.born = a.born → r a' b) (hr2 : ∀ a b b', r a b → b'.key = b.key → b'.born = b.born → r a b') {e' e : MapEntry} (h1 : e'.key = e.key) (h2 : e'.born = e.born) :
    ∀ {es : List MapEntry} {j : Nat}, es[j]? = some e → es.Pairwise r → (es.set j e').Pairwise r
  | [], _, h, _ => by simp at h
  | a :: es, 0, h, hp => by
    simp at h; subst h
    rw [List.set_cons_zero]
    rw [List.pairwise_cons] at hp ⊢
    exact ⟨fun b hb => hr _ _ _ (hp.1 b hb) h1 h2, hp.2⟩
  | a :: es, j + 1, h, hp => by
    rw [List.getElem?_cons_succ] at h
    rw [List.set_cons_succ]
    rw [List.pairwise_cons] at hp ⊢
    refine ⟨fun b hb => ?_, pw_set hr hr2 h1 h2 h hp.2⟩
    rcases List.mem_or_eq_of_mem_set hb with hb | rfl
    · exact hp.1 b hb
    · exact hr2 _ _ _ (hp.1 e (List.mem_of_getElem? h)) h1 h2
theorem WFM.put {es : List MapEntry} {ck : Nat} {gm : Int → Option Value} (h : WFM es ck gm) {k : Int} (v : Value) {j : Nat} {e : MapEntry} (hj : es[j]? = some e) (hk : e.key = .int .i64 k) : WFM (es.set j { e with key := .int .i64 k, val := v }) ck (mset gm k (some v)) where
  key x hx := by
    rcases List.mem_or_eq_of_mem_set hx with hx2 | rfl
    · obtain ⟨k2, h1, h2⟩ := h.key x hx2
      refine ⟨k2, h1, ?_⟩
      unfold mset
      split
      · rename_i e2; subst e2
        obtain ⟨i, hi⟩ := List.getElem?_of_mem hx
        rw [List.getElem?_set] at hi
        have hlt : j < es.length := by rcases Nat.lt_or_ge j es.length with h1 | h1; exact h1; rw [List.getElem?_eq_none h1] at hj; cases hj
        by_cases e3 : j = i
        · subst e3; rw [if_pos rfl, if_pos hlt] at hi; cases hi; rfl
        · have hne := e3
          rw [if_neg e3] at hi
          exfalso
          have hxe : x.key = e.key := by rw [h1, hk]
          have hp := h.kd
          rw [List.pairwise_iff_getElem] at hp
          have hil : i < es.length := by rcases Nat.lt_or_ge i es.length with h1 | h1; exact h1; rw [List.getElem?_eq_none h1] at hi; cases hi
          have e1 : es[j] = e := by rw [List.getElem?_eq_getElem hlt] at hj; exact Option.some.inj hj
          have e4 : es[i] = x := by rw [List.getElem?_eq_getElem hil] at hi; exact Option.some.inj hi
          rcases Nat.lt_or_gt_of_ne hne with hl | hl
          · exact hp j i hlt hil hl (by rw [e1, e4, hxe])
          · exact hp i j hil hlt hl (by rw [e1, e4, hxe])
      · exact h2
    · exact ⟨k, rfl, by simp [mset]⟩
  all k2 v2 h2 := by
    have hlt : j < es.length := by rcases Nat.lt_or_ge j es.length with h1 | h1; exact h1; rw [List.getElem?_eq_none h1] at hj; cases hj
    unfold mset at h2
    split at h2
    · rename_i e2; subst e2; exact ⟨_, List.mem_set hlt _, rfl⟩
    · rename_i hne
      obtain ⟨x, hx, hk2⟩ := h.all _ _ h2
      obtain ⟨i, hi⟩ := List.getElem?_of_mem hx
      refine ⟨x, List.mem_of_getElem? (i := i) ?_, hk2⟩
      rw [List.getElem?_set, if_neg]
      · exact hi
      · intro e2; subst e2; rw [hj] at hi; cases hi; rw [hk] at hk2; cases hk2; exact hne rfl
  kd := pw_set (e := e) (e' := { e with key := .int .i64 k, val := v }) (fun a a' b h h1 _ => by rw [h1]; exact h) (fun a b b' h h1 _ => by rw [h1]; exact h) hk.symm rfl hj h.kd
  bd := pw_set (e := e) (e' := { e with key := .int .i64 k, val := v }) (fun a a' b h _ h1 => by rw [h1]; exact h) (fun a b b' h _ h1 => by rw [h1]; exact h) hk.symm rfl hj h.bd
  bl x hx := by
    rcases List.mem_or_eq_of_mem_set hx with hx | rfl
    · exact h.bl x hx
    · exact h.bl e (List.mem_of_getElem? hj)
theorem MG_write {r : Nat} {gm gm' : Int → Option Value} {es es' : Array MapEntry} {ck ck' : Nat} {X : HP} {H M : Heap} (h : ((MG r gm).star X).p H M) (hM : M r = some (.map es ck)) (hw : WFM es'.toList ck' gm') : ((MG r gm').star X).p H (upd M r (.map es' ck')) := by
  obtain ⟨M1, M2, a1, a2, dj, ⟨e1, c1, h1, h2⟩, hB⟩ := h
  have h3 : ((HP.own r (.map es ck)).star X).p H M := by
    have := a1 _ _ h1
    rw [hM] at this; cases this
    exact ⟨M1, M2, a1, a2, dj, h1, hB⟩
  obtain ⟨_, h4⟩ := own_write (o' := .map es' ck') h3
  exact star_monoL (C := MG r gm') (fun H M h => ⟨es', ck', h, hw⟩) h4
theorem hm_mu {H M : Heap} {t elem r : Nat} {kk : Int} {v : Value} {gm : Int → Option Value} {X : HP} {K : Unit → Heap → Heap → Prop} [mt : MTY P t elem] (h : ((MG r gm).star X).p H M) (hk : ∀ M', ((MG r (mset gm kk (some v))).star X).p H M' → K () H M') :
    hm P (Instr.mapUpdate t (.map (some r)) (.int .i64 kk) v) H M K := by
  obtain ⟨key, hu, hky⟩ := mt.h
  obtain ⟨es, ck, hM, hw⟩ := star_fst h
  unfold Instr.mapUpdate
  refine hm_bind (hm_cst hu ?_)
  dsimp only
  refine hm_bind (hm_hq (hq_get (.inl hM)) ?_)
  dsimp only
  refine hm_bind (hm_cst (cst_checkKey hky) ?_)
  cases hg : gm kk with
  | none =>
    refine hm_bind (hm_cst (cst_findKey hky (hw.no hg 0)) ?_)
    refine hm_setO (.map (es.push { key := .int .i64 kk, val := v, born := ck }) (ck + 1)) hM (hk _ ?_)
    exact MG_write h hM (by rw [Array.toList_push]; exact hw.push v hg)
  | some u =>
    obtain ⟨j, e, hj, hek, h3⟩ := hw.yes hg 0
    refine hm_bind (hm_cst (cst_findKey hky h3) ?_)
    rw [Nat.zero_add]
    dsimp only
    have hj2 : es[j]? = some e := by rw [← hj]; simp
    rw [hj2]
    have hst : cst P (Instr.keyThatStays (((some e).map (·.key)).getD (.int .i64 kk)) (.int .i64 kk)) = some (.int .i64 kk) := by
      show cst P (Instr.keyThatStays e.key (.int .i64 kk)) = _
      rw [hek]; unfold Instr.keyThatStays; simp [Instr.sameBits]; rfl
    refine hm_bind (hm_cst hst ?_)
    refine hm_setO _ hM (hk _ ?_)
    refine MG_write h hM ?_
    rw [Array.toList_modify, modify_set hj]
    exact hw.put v hj hek
/-- a map is written -/
theorem st_mu {t elem r : Nat} {x y z : Operand} {gm : Int → Option Value} {kk : Int} {v : Value} [mt : MTY P t elem]
    (s : Sel (MG r gm) As Bs) (hx : ∀ j, ev (mk l j) x = .map (some r) := by intro j; rfl) (hy : ∀ j, ev (mk l j) y = .int .i64 kk := by intro j; rfl) (hz : ∀ j, ev (mk l j) z = v := by intro j; rfl) :
    StepL P ⟨dd, .mapUpdate t x y z, oty, pos, af, g⟩ l As (fun _ Cs => Cs = MG r (mset gm kk (some v)) :: Bs) := .mk fun j Fs H M q => by
  refine hmc_of_hm ?_
  show hm P (Instr.mapUpdate t (ev (mk l j) x) (ev (mk l j) y) (ev (mk l j) z) >>= fun _ => pure Next.skip) H M _
  rw [hx j, hy j, hz j]
  exact hm_bind (hm_mu ((s.app Fs).sat q) fun M' h => hm_pure ⟨undef, .inr ⟨rfl, rfl⟩, _, rfl, h⟩)
theorem st_mkm {t : TypeId} :
    StepL P ⟨dd, .makeMap t none, oty, pos, af, g⟩ l As (fun v Cs => ∃ r, v = .map (some r) ∧ Cs = MG r (fun _ => none) :: As) := .mk fun j Fs H M q => by
  refine hmc_of_hm ?_
  show hm P (Instr.makeMap t none >>= fun v => pure (Next.value v)) H M _
  unfold Instr.makeMap
  refine hm_bind (hm_bind (hm_newO fun r hr => hm_pure (hm_pure ⟨_, .inl rfl, _, ⟨r, rfl, rfl⟩, ?_⟩)))
  refine star_monoL (C := MG r fun _ => none) (fun H M h => ?_) (own_new hr q)
  exact ⟨#[], 0, h, { key := fun e he => (nomatch he), all := fun k v h => (nomatch h), kd := .nil, bd := .nil, bl := fun e he => (nomatch he) }⟩
end
end Go.Cam
