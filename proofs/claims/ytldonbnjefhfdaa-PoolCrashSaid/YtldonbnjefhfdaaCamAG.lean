/- Maps, gone through; over assertions. -/
import Derived.Test.YtldonbnjefhfdaaCamAE
namespace Go.Cam
theorem len_le_of_sub : ∀ {xs es : List MapEntry}, xs.Pairwise (fun a b => a.born ≠ b.born) → (∀ x ∈ xs, x ∈ es) → xs.length ≤ es.length
  | [], _, _, _ => Nat.zero_le _
  | x :: xs, es, hp, hs => by
    rw [List.pairwise_cons] at hp
    obtain ⟨a, b, rfl⟩ := List.append_of_mem (hs x (List.mem_cons_self ..))
    have := len_le_of_sub (xs := xs) (es := a ++ b) hp.2 fun y hy => by
      have h1 := hs y (List.mem_cons_of_mem _ hy)
      rcases List.mem_append.1 h1 with h | h
      · exact List.mem_append_left _ h
      · rcases List.mem_cons.1 h with rfl | h
        · exact absurd rfl (hp.1 y hy)
        · exact List.mem_append_right _ h
    simp only [List.length_append, List.length_cons] at this ⊢; omega
/-- a map that is being gone through: S are the keys that were told, the last one first; n how many are left -/
def MIt (ri rm : Nat) (g : Int → Option Value) (S : List Int) (n : Nat) : HP :=
  ⟨fun _ M => ∃ es ck seen, ∃ xs : List MapEntry, M rm = some (.map es ck) ∧ M ri = some (.mapIter (some rm) ck seen ck) ∧ ri ≠ rm ∧ WFM es.toList ck g ∧ (∀ x ∈ xs, x ∈ es.toList) ∧ xs.Pairwise (fun (a b : MapEntry) => a.born ≠ b.born) ∧ xs.map (·.key) = S.map (Value.int .i64) ∧ seen.toList = (xs.map (·.born)).reverse ∧ n + xs.length = es.toList.length,
   fun _ h2 ⟨es, ck, seen, xs, h3, h4, r⟩ => ⟨es, ck, seen, xs, h2 _ _ h3, h2 _ _ h4, r⟩⟩
theorem MIt.out {ri rm : Nat} {g : Int → Option Value} {S : List Int} {n : Nat} (H M : Heap) (h : (MIt ri rm g S n).p H M) : (MG rm g).p H M := by
  obtain ⟨es, ck, _, _, h1, _, _, h2, _⟩ := h; exact ⟨es, ck, h1, h2⟩
theorem born_inj {es : List MapEntry} (h : es.Pairwise (fun a b => a.born ≠ b.born)) {a b : MapEntry} (ha : a ∈ es) (hb : b ∈ es) (e : a.born = b.born) : a = b := by
  induction es with
  | nil => cases ha
  | cons x es ih =>
    rw [List.pairwise_cons] at h
    rcases List.mem_cons.1 ha with ha' | ha' <;> rcases List.mem_cons.1 hb with hb' | hb'
    · rw [ha', hb']
    · subst ha'; exact absurd e (h.1 b hb')
    · subst hb'; exact absurd e.symm (h.1 a ha')
    · exact ih h.2 ha' hb'
theorem key_inj {es : List MapEntry} (h : es.Pairwise (fun a b => a.key ≠ b.key)) {a b : MapEntry} (ha : a ∈ es) (hb : b ∈ es) (e : a.key = b.key) : a = b := by
  induction es with
  | nil => cases ha
  | cons x es ih =>
    rw [List.pairwise_cons] at h
    rcases List.mem_cons.1 ha with ha' | ha' <;> rcases List.mem_cons.1 hb with hb' | hb'
    · rw [ha', hb']
    · subst ha'; exact absurd e (h.1 b hb')
    · subst hb'; exact absurd e.symm (h.1 a ha')
    · exact ih h.2 ha' hb'
section
variable {P : Program} {f : FuncId} {n : Nat} {R : Value → HP} {k : List It} {l : List (Nat × Value)} {As Bs : List HP} {all : Array Oper} {rest : List Oper} {d : Nat} {dd : Option Nat} {oty : TypeId} {pos : String} {af : Array Edge} {g : Option (Nat × Bool)}
theorem st_rng {t elem r : Nat} {x : Operand} {gm : Int → Option Value} [mt : MTY P t elem] (s : Sel (MG r gm) As Bs) (hx : ∀ j, ev (mk l j) x = .map (some r) := by intro j; rfl) :
    StepL P ⟨dd, .range t x, oty, pos, af, g⟩ l As (fun v Cs => ∃ ri m, v = .pointer (some ⟨ri, 0, none⟩) ∧ Cs = MIt ri r gm [] m :: Bs) := .mk fun j Fs H M q => by
  refine hmc_of_hm ?_
  show hm P (Instr.range t (ev (mk l j) x) >>= fun v => pure (Next.value v)) H M _
  rw [hx j]
  have q := (s.app Fs).sat q
  obtain ⟨key, hu, _⟩ := mt.h
  obtain ⟨es, ck, hM, hw⟩ := star_fst q
  refine hm_bind ?_
  unfold Instr.range
  refine hm_bind (hm_cst hu ?_)
  dsimp only
  refine hm_bind (hm_hq (hq_get (.inl hM)) ?_)
  dsimp only
  refine hm_bind (hm_pure ?_)
  refine hm_bind (hm_newO fun ri hr => hm_pure (hm_pure ⟨_, .inl rfl, _, ⟨ri, es.toList.length, rfl, rfl⟩, ?_⟩))
  have hne : ri ≠ r := fun e => by subst e; rw [hr.2] at hM; cases hM
  obtain ⟨M1, M2, a1, a2, dj, ⟨es1, ck1, hA, hw1⟩, hB⟩ := q
  have e1 := a1 _ _ hA
  rw [hM] at e1; cases e1
  refine ⟨upd M1 ri (.mapIter (some r) ck #[] ck), M2, ?_, fun c o hc => hr.old (a2 _ _ hc), ?_, ⟨es, ck, #[], [], ?_, upd_same _ _ _, hne, hw, fun x hx => (nomatch hx), .nil, rfl, rfl, rfl⟩, hB⟩
  · intro c o hc
    by_cases e : c = ri
    · subst e; rw [upd_same] at hc ⊢; exact hc
    · rw [upd_ne e] at hc ⊢; exact a1 _ _ hc
  · intro c
    by_cases e : c = ri
    · subst e
      refine .inr ?_
      cases h : M2 c with
      | none => rfl
      | some o => have := a2 _ _ h; rw [hr.2] at this; cases this
    · rw [upd_ne e]; exact dj c
  · rw [upd_ne hne.symm]; exact hA
theorem hm_next {ri rm : Nat} {gm : Int → Option Value} {S : List Int} {m : Nat} {t : TypeId} {X : HP} {H M : Heap} {K : Value → Heap → Heap → Prop} (q : ((MIt ri rm gm S m).star X).p H M)
    (h0 : (∀ k v, gm k = some v → k ∈ S) → K (.tuple #[.bool false]) H M)
    (h1 : ∀ k v m' M', m = m' + 1 → k ∉ S → gm k = some v → ((MIt ri rm gm (k :: S) m').star X).p H M' → K (.tuple #[.bool true, .int .i64 k, v]) H M') :
    hm P (Instr.next (.pointer (some ⟨ri, 0, none⟩)) false t) H M K := by
  obtain ⟨es, ck, seen, xs, hm, hi, hne, hw, hxs, hnd, hS, hseen, hlen⟩ := star_fst q
  unfold Instr.next
  dsimp only
  refine hm_bind (hm_hq (hq_get (.inl hi)) ?_)
  dsimp only
  refine hm_bind (hm_hq (hq_get (.inl hm)) ?_)
  dsimp only
  have hsc : ∀ e : MapEntry, seen.contains e.born = true ↔ e.born ∈ xs.map (·.born) := fun e => by
    rw [← Array.contains_toList, hseen]; simp
  have hall : ∀ e : MapEntry, e ∈ es.toList → (e.born ∈ xs.map (·.born) ↔ e ∈ xs) := fun e he => by
    constructor
    · intro h
      obtain ⟨y, hy, hb⟩ := List.mem_map.1 h
      rw [← born_inj hw.bd (hxs y hy) he hb]; exact hy
    · exact fun h => List.mem_map.2 ⟨e, h, rfl⟩
  rw [if_neg (by
    simp only [Bool.and_eq_true, Bool.not_eq_true']
    rintro ⟨⟨_, h1⟩, h2⟩
    rw [Array.all_eq_true] at h2
    have hpos : 0 < es.size := by
      rcases Nat.eq_zero_or_pos es.size with h | h
      · rw [Array.isEmpty_eq_false_iff] at h1; exact absurd (Array.size_eq_zero_iff.1 h) h1
      · exact h
    have h3 := h2 0 hpos
    have h4 := hw.bl es[0] (by simp)
    simp at h3; omega)]
  have hold : (Array.filter (fun x => decide (x.born < ck)) (Array.filter (fun e => !seen.contains e.born) es)).toList = es.toList.filter (fun e => !seen.contains e.born) := by
    rw [Array.toList_filter, Array.toList_filter, List.filter_filter]
    refine List.filter_congr fun e he => ?_
    have := hw.bl e he
    simp [this]
  have hnew : (Array.filter (fun x => decide (x.born ≥ ck)) (Array.filter (fun e => !seen.contains e.born) es)) = #[] := by
    apply Array.ext'
    rw [Array.toList_filter, Array.toList_filter, List.filter_filter]
    rw [List.filter_eq_nil_iff]
    intro e he
    have := hw.bl e he
    simp; omega
  rw [hnew]
  generalize hO : (Array.filter (fun x => decide (x.born < ck)) (Array.filter (fun e => !seen.contains e.born) es)) = O at hold
  have hOm : ∀ e, e ∈ O ↔ e ∈ es.toList ∧ e ∉ xs := fun e => by
    rw [← Array.mem_toList_iff, hold, List.mem_filter]
    constructor
    · rintro ⟨h1, h2⟩
      refine ⟨h1, fun h3 => ?_⟩
      have := (hsc e).2 ((hall e h1).2 h3)
      rw [this] at h2; cases h2
    · rintro ⟨h1, h2⟩
      refine ⟨h1, ?_⟩
      cases h3 : seen.contains e.born with
      | false => rfl
      | true => exact absurd ((hall e h1).1 ((hsc e).1 h3)) h2
  rcases Nat.eq_zero_or_pos O.size with hz | hpos
  · have hO0 : O = #[] := Array.size_eq_zero_iff.1 hz
    subst hO0
    refine hm_bind (hm_choose fun t hf _ => ?_)
    rw [hf (by simp [Question.forced])]
    simp only [Array.isEmpty_empty, if_true]
    have hnil : ((#[none] : Array (Option MapEntry)) ++ Array.map some ((#[] : Array MapEntry) ++ #[]))[0]? = some none := by simp
    rw [hnil]
    dsimp only
    refine hm_pure (h0 fun k v hg => ?_)
    obtain ⟨e, he, hk⟩ := hw.all _ _ hg
    have hx : e ∈ xs := by
      refine Classical.byContradiction fun h => ?_
      have := (hOm e).2 ⟨he, h⟩; simp at this
    have : Value.int .i64 k ∈ S.map (.int .i64) := by rw [← hS]; exact List.mem_map.2 ⟨e, hx, hk⟩
    obtain ⟨k2, h2, h3⟩ := List.mem_map.1 this
    cases h3; exact h2
  · have hne0 : O.isEmpty = false := by rw [Array.isEmpty_eq_false_iff]; intro e; rw [e] at hpos; simp at hpos
    simp only [hne0, Bool.false_eq_true, if_false, Array.empty_append, Array.append_empty]
    refine hm_bind (hm_choose fun t hf hcut => ?_)
    have ht : t < O.size := by
      by_cases hq : (Question.mapNext (Array.map some O).size).forced = true
      · rw [hf hq]; exact hpos
      · obtain ⟨s, rfl⟩ := hcut (by simpa using hq)
        simp only [Question.cut, Array.size_map]; exact Nat.mod_lt _ hpos
    have hget : (Array.map some O)[t]? = some (some O[t]) := by simp [ht]
    rw [hget]
    dsimp only
    obtain ⟨he, hnx⟩ := (hOm O[t]).1 (Array.getElem_mem ht)
    generalize O[t] = e at he hnx
    obtain ⟨kk, hk, hg⟩ := hw.key e he
    refine hm_bind (hm_setO (.mapIter (some rm) ck (seen.push e.born) ck) hi (hm_pure ?_))
    rw [hk]
    have hlen2 := len_le_of_sub (xs := e :: xs) (es := es.toList) (List.pairwise_cons.2 ⟨fun y hy hb => hnx (by rw [born_inj hw.bd he (hxs y hy) hb]; exact hy), hnd⟩) (fun y hy => by
      rcases List.mem_cons.1 hy with rfl | hy
      · exact he
      · exact hxs y hy)
    rw [List.length_cons] at hlen2
    have hkS : kk ∉ S := fun hin => by
      have : Value.int .i64 kk ∈ xs.map (·.key) := by rw [hS]; exact List.mem_map.2 ⟨kk, hin, rfl⟩
      obtain ⟨y, hy, hyk⟩ := List.mem_map.1 this
      exact hnx (by rw [key_inj hw.kd he (hxs y hy) (by rw [hk, hyk])]; exact hy)
    refine h1 kk e.val (m - 1) _ (by omega) hkS hg ?_
    obtain ⟨M1, M2, a1, a2, dj, ⟨es1, ck1, seen1, xs1, hA, hI, _⟩, hB⟩ := q
    have e1 := a1 _ _ hA
    rw [hm] at e1; cases e1
    have h2 : M2 ri = none := (dj ri).resolve_left (by rw [hI]; simp)
    refine ⟨upd M1 ri (.mapIter (some rm) ck (seen.push e.born) ck), M2, ?_, ?_, ?_, ⟨es, ck, seen.push e.born, e :: xs, ?_, upd_same _ _ _, hne, hw, ?_, ?_, ?_, ?_, ?_⟩, hB⟩
    · intro c o hc
      by_cases ec : c = ri
      · subst ec; rw [upd_same] at hc ⊢; exact hc
      · rw [upd_ne ec] at hc ⊢; exact a1 _ _ hc
    · intro c o hc
      rw [upd_ne (fun e => by subst e; rw [h2] at hc; cases hc)]; exact a2 _ _ hc
    · intro c
      by_cases ec : c = ri
      · subst ec; exact .inr h2
      · rw [upd_ne ec]; exact dj c
    · rw [upd_ne hne.symm]; exact hA
    · intro y hy
      rcases List.mem_cons.1 hy with rfl | hy
      · exact he
      · exact hxs y hy
    · exact List.pairwise_cons.2 ⟨fun y hy hb => hnx (by rw [born_inj hw.bd he (hxs y hy) hb]; exact hy), hnd⟩
    · rw [List.map_cons, List.map_cons, hk, hS]
    · rw [Array.toList_push, hseen]; simp
    · rw [List.length_cons]; omega
theorem s_next {t : TypeId} {x : Operand} {ri rm m : Nat} {gm : Int → Option Value} {S : List Int} (u : Sel (MIt ri rm gm S m) As Bs)
    (h0 : (∀ k v, gm k = some v → k ∈ S) → RunS P f n R (.ops all rest :: k) ((d, .tuple #[.bool false]) :: l) As)
    (h1 : ∀ kk v m', m = m' + 1 → kk ∉ S → gm kk = some v → RunS P f n R (.ops all rest :: k) ((d, .tuple #[.bool true, .int .i64 kk, v]) :: l) (MIt ri rm gm (kk :: S) m' :: Bs))
    (hx : ∀ j, ev (mk l j) x = .pointer (some ⟨ri, 0, none⟩) := by intro j; rfl) (hd : Nat.blt d n = true := by rfl) (hw : ∀ j, wantE ⟨some d, .next x false, t, pos, af, g⟩ all (mk l j) = true := by intro j; rfl) :
    RunS P f n R (.ops all (⟨some d, .next x false, t, pos, af, g⟩ :: rest) :: k) l As := .mk fun H M s =>
  run_hmc hd hw fun j => by
    refine hmc_of_hm ?_
    show hm P (Instr.next (ev (mk l j) x) false t >>= fun v => pure (Next.value v)) H M _
    rw [hx j]
    refine hm_bind (hm_next (u.sat s) (fun hh => hm_pure ⟨_, .inl rfl, h0 hh _ _ s⟩) fun kk v m' M' e1 e2 e3 e4 => hm_pure ⟨_, .inl rfl, h1 kk v m' e1 e2 e3 _ _ e4⟩)
theorem find_born {es : List MapEntry} (h : es.Pairwise (fun a b => a.born ≠ b.born)) {e : MapEntry} (he : e ∈ es) : es.find? (fun x => x.born == e.born) = some e := by
  cases hf : es.find? (fun x => x.born == e.born) with
  | none => rw [List.find?_eq_none] at hf; have := hf e he; simp at this
  | some x =>
    have h1 := List.find?_some hf
    have h2 := List.mem_of_find?_eq_some hf
    rw [born_inj h h2 he (by simpa using h1)]
theorem lk_entry {x : Operand} {ri rm m : Nat} {gm : Int → Option Value} {kk : Int} {S : List Int} {v : Value} (hg : gm kk = some v) (s : Sel (MIt ri rm gm (kk :: S) m) As Bs := by repeat (first | with_reducible exact Sel.here | with_reducible apply Sel.there)) (hx : ∀ j, ev (mk l j) x = .pointer (some ⟨ri, 0, none⟩) := by intro j; rfl) :
    LookS P ⟨some d, .entry x, oty, pos, af, g⟩ l As (.tuple #[.int .i64 kk, v]) := .mk fun j H M q => by
  obtain ⟨es, ck, seen, xs, hm, hi, hne, hw, hxs, hnd, hS, hseen, hlen⟩ := s.hold q
  refine qt_exec (s := Instr.entry (ev (mk l j) x)) (by unfold execOp; rfl) ?_
  rw [hx j]
  cases xs with
  | nil => cases hS
  | cons e xs =>
    rw [List.map_cons, List.map_cons, List.cons.injEq] at hS
    have hb : seen.back? = some e.born := by
      rw [← Array.getLast?_toList, hseen]; simp
    unfold Instr.entry
    dsimp only
    refine hq_bind (hq_get (.inl hi)) ?_
    dsimp only
    rw [hb]
    dsimp only
    refine hq_bind (hq_get (.inl hm)) ?_
    dsimp only
    rw [if_neg (by simp)]
    have he : e ∈ es.toList := hxs e (List.mem_cons_self ..)
    have hf : es.find? (fun x => x.born == e.born) = some e := by rw [← Array.find?_toList]; exact find_born hw.bd he
    rw [hf]
    dsimp only
    obtain ⟨k2, h1, h2⟩ := hw.key e he
    rw [hS.1] at h1; cases h1
    rw [hg] at h2; cases h2
    rw [hS.1]
    exact hq_pure
/-- a map is cleared -/
theorem st_clm {t elem r : Nat} {x : Operand} {gm : Int → Option Value} [mt : MTY P t elem] (s : Sel (MG r gm) As Bs) (hx : ∀ j, ev (mk l j) x = .map (some r) := by intro j; rfl) :
    StepL P ⟨dd, .call ⟨.builtin .clear, #[x], #[t]⟩, oty, pos, af, g⟩ l As (fun _ Cs => Cs = MG r (fun _ => none) :: Bs) := .mk fun j Fs H M q => by
  have e1 : execOp (ev (mk l j)) ⟨dd, .call ⟨.builtin .clear, #[x], #[t]⟩, oty, pos, af, g⟩ = (Builtin.clear_ #[t] oty #[ev (mk l j) x] >>= fun v => pure (Next.value v)) := by
    show (resolve (ev (mk l j)) ⟨.builtin .clear, #[x], #[t]⟩ oty >>= fun d => invoke d.target d.args) = _
    have : #[x].map (ev (mk l j)) = #[ev (mk l j) x] := by simp
    unfold resolve
    dsimp only
    rw [this]; rfl
  rw [e1, hx j]
  have q := (s.app Fs).sat q
  obtain ⟨key, hu, _⟩ := mt.h
  obtain ⟨es, ck, hM, hw⟩ := star_fst q
  refine hmc_of_hm (hm_bind ?_)
  unfold Builtin.clear_
  simp only [List.getElem?_toArray, List.getElem?_cons_zero]
  refine hm_bind (hm_cst hu ?_)
  refine hm_bind (hm_hq (hq_get (.inl hM)) ?_)
  dsimp only
  refine hm_bind (hm_setO (.map #[] ck) hM (hm_pure (hm_pure ⟨_, .inl rfl, _, rfl, ?_⟩)))
  exact MG_write q hM { key := fun e he => (nomatch he), all := fun k v h => (nomatch h), kd := .nil, bd := .nil, bl := fun e he => (nomatch he) }
end
end Go.Cam
/- Slices of one's own: elements that are stored; slices that may be nothing; parts with three bounds; arrays out of slices; copies. -/
namespace Go.Cam
/-- cells of an element that are set anew -/
def rput (row : Nat → List Value) (i fo : Nat) (vs : List Value) : Nat → List Value := fun q => if q = i then (row q).take fo ++ vs ++ (row q).drop (fo + vs.length) else row q
theorem rput_len {row : Nat → List Value} {i fo sz n : Nat} {vs : List Value} (h : ∀ q, q < n → (row q).length = sz) (hf : fo + vs.length ≤ sz) : ∀ q, q < n → (rput row i fo vs q).length = sz := by
  intro q hq
  have := h q hq
  unfold rput
  split
  · simp; omega
  · exact this
theorem flat_get {sz : Nat} {row : Nat → List Value} {n : Nat} (h : ∀ q, q < n → (row q).length = sz) (i x : Nat) (hi : i < n) (hx : x < sz) : (flat n row)[i * sz + x]? = (row i)[x]? := by
  have h1 := flat_row h hi
  have := congrArg (fun l => l[x]?) h1
  simp only [List.getElem?_take, hx, if_true, List.getElem?_drop] at this
  exact this
theorem flat_ext {sz n : Nat} {l : List Value} {row : Nat → List Value} (hsz : 0 < sz) (hl : l.length = n * sz) (h : ∀ q, q < n → (row q).length = sz) (he : ∀ i x, i < n → x < sz → l[i * sz + x]? = (row i)[x]?) : l = flat n row := by
  apply List.ext_getElem?
  intro q
  by_cases hq : q < n * sz
  · have e : q = q / sz * sz + q % sz := by rw [Nat.mul_comm]; exact (Nat.div_add_mod q sz).symm
    have h1 : q / sz < n := Nat.div_lt_of_lt_mul (by rw [Nat.mul_comm]; exact hq)
    have h2 := Nat.mod_lt q hsz
    rw [e, he _ _ h1 h2, flat_get h _ _ h1 h2]
  · rw [List.getElem?_eq_none (by omega), List.getElem?_eq_none (by rw [flat_len h]; omega)]
theorem flat_rput {row : Nat → List Value} {i fo sz n : Nat} {vs : List Value} (hsz : 0 < sz) (hi : i < n) (h : ∀ q, q < n → (row q).length = sz) (hf : fo + vs.length ≤ sz) (c : Array Value) (hc : n * sz ≤ c.size) (hx : c.toList.take (n * sz) = flat n row) :
    (setL c (i * sz + fo) vs).toList.take (n * sz) = flat n (rput row i fo vs) := by
  refine flat_ext hsz (by simp [setL_size]; omega) (rput_len h hf) fun q x hq hxs => ?_
  have hle : (q + 1) * sz ≤ n * sz := Nat.mul_le_mul_right _ hq
  rw [Nat.add_mul, Nat.one_mul] at hle
  have hle2 : (i + 1) * sz ≤ n * sz := Nat.mul_le_mul_right _ hi
  rw [Nat.add_mul, Nat.one_mul] at hle2
  rw [List.getElem?_take, if_pos (by omega), Array.getElem?_toList, setL_get _ _ _ _ (by omega)]
  have hold : c[q * sz + x]? = (row q)[x]? := by
    rw [← flat_get h q x hq hxs, ← hx, List.getElem?_take, if_pos (by omega), Array.getElem?_toList]
  unfold rput
  by_cases e : q = i
  · subst e
    rw [if_pos rfl]
    have hrl := h q hq
    by_cases h1 : fo ≤ x ∧ x < fo + vs.length
    · rw [if_pos (by omega), List.getElem?_append_left (by simp; omega), List.getElem?_append_right (by simp; omega)]
      congr 1; simp; omega
    · rw [if_neg (by omega), hold]
      by_cases h2 : x < fo
      · rw [List.getElem?_append_left (by simp; omega), List.getElem?_append_left (by simp; omega), List.getElem?_take, if_pos h2]
      · rw [List.getElem?_append_right (by simp; omega), List.getElem?_drop]
        congr 1; simp; omega
  · rw [if_neg e, if_neg ?_, hold]
    intro ⟨h1, h2⟩
    rcases Nat.lt_or_gt_of_ne e with hl | hl
    · have : (q + 1) * sz ≤ i * sz := Nat.mul_le_mul_right _ hl
      rw [Nat.add_mul, Nat.one_mul] at this; omega
    · have : (i + 1) * sz ≤ q * sz := Nat.mul_le_mul_right _ hl
      rw [Nat.add_mul, Nat.one_mul] at this; omega
theorem flat_rput_one {row : Nat → List Value} {i fo n : Nat} {vs : List Value} (h : (flat n row).all one = true) (hv : vs.all one = true) : (flat n (rput row i fo vs)).all one = true := by
  rw [List.all_eq_true] at *
  intro u hu
  obtain ⟨q, hq, h2⟩ := List.mem_flatMap.1 hu
  unfold rput at h2
  split at h2
  · rcases List.mem_append.1 h2 with h3 | h3
    · rcases List.mem_append.1 h3 with h4 | h4
      · exact h u (List.mem_flatMap.2 ⟨q, hq, List.mem_of_mem_take h4⟩)
      · exact hv u h4
    · exact h u (List.mem_flatMap.2 ⟨q, hq, List.mem_of_mem_drop h3⟩)
  · exact h u (List.mem_flatMap.2 ⟨q, hq, h2⟩)
/-- a slice of one's own, or of no elements -/
def SO (e sz : Nat) (v : Value) (n : Nat) (row : Nat → List Value) : HP := ⟨fun _ M => SlO M e sz v n row ∨ (n = 0 ∧ ∃ a, v = .slice a 0 0), fun _ hl h => h.imp (fun ⟨h1, h2, h3, h4⟩ => ⟨h1, h2, h3.frame fun c o _ h => hl c o h, h4⟩) id⟩
theorem SO.of {e sz : Nat} {v : Value} {n : Nat} {row : Nat → List Value} (H M : Heap) (h : (SA (some e) sz v n row).p H M) : (SO e sz v n row).p H M := .inl h
theorem SO.own {e sz : Nat} {v : Value} {n : Nat} {row : Nat → List Value} (hn : 0 < n) (H M : Heap) (h : (SO e sz v n row).p H M) : (SA (some e) sz v n row).p H M := by
  rcases h with h | ⟨h, _⟩
  · exact h
  · omega
instance {e sz v n row} : Rd (SO e sz v n row) sz v n row := ⟨fun H M h => by
  rcases h with h | ⟨rfl, a, rfl⟩
  · exact SA.rd (m := some e) (H := H) h
  · exact ⟨a, 0, rfl, Nat.le_refl _, fun i hi => by omega, fun h => by omega⟩⟩
theorem SO.cg {e sz : Nat} {v : Value} {n : Nat} {row : Nat → List Value} (row' : Nat → List Value) (he : ∀ i, i < n → row i = row' i) (H M : Heap) (h : (SO e sz v n row).p H M) : (SO e sz v n row').p H M := by
  rcases h with h | h
  · exact .inl (SA.cg (m := some e) row' he H M h)
  · exact .inr h
theorem SO.val {e sz : Nat} {v : Value} {n : Nat} {row : Nat → List Value} (H M : Heap) (h : (SO e sz v n row).p H M) : ∃ a c, v = .slice a n c ∧ n ≤ c := by
  obtain ⟨a, c, h1, h2, _⟩ := Rd.h (A := SO e sz v n row) (v := v) (sz := sz) (n := n) (row := row) H M h; exact ⟨a, c, h1, h2⟩
theorem SO.cap {e sz : Nat} {a : Option Addr} {n c : Nat} {row : Nat → List Value} (H M : Heap) (h : (SO e sz (.slice a n c) n row).p H M) : n ≤ c := by
  obtain ⟨_, _, e, h2⟩ := SO.val H M h; cases e; exact h2
section
variable {P : Program} {f : FuncId} {n : Nat} {R : Value → HP} {k : List It} {l : List (Nat × Value)} {As Bs : List HP} {all : Array Oper} {rest : List Oper} {d : Nat} {dd : Option Nat} {oty : TypeId} {pos : String} {af : Array Edge} {g : Option (Nat × Bool)}
/-- what is one's own may be only read from now on -/
theorem s_fzO {e sz : Nat} {v : Value} {len : Nat} {row : Nat → List Value} (u : Sel (SO e sz v len row) As Bs) (h : RunS P f n R k l (SA none sz v len row :: Bs)) : RunS P f n R k l As := .mk fun H M s => by
  obtain ⟨M1, M2, a1, a2, dj, hA, hB⟩ := u.sat s
  rcases hA with hA | ⟨rfl, a, rfl⟩
  · exact s_fz (e := e) (As := SA (some e) sz v len row :: Bs) .here h H M ⟨M1, M2, a1, a2, dj, hA, hB⟩
  · exact h H M (per_add (M0 := M) ⟨a, 0, rfl, Nat.le_refl _, fun i hi => by omega, fun h => by omega⟩ ((Sat Bs).mono (Le.refl _) a2 hB))
theorem hm_ste {t : TypeId} {e sz m i fo m' : Nat} {v u : Value} {vs : List Value} {row : Nat → List Value} {X : HP} {H M : Heap} {K : Unit → Heap → Heap → Prop} [hs : SZ P t m'] (q : ((SA (some e) sz v m row).star X).p H M) (hi : i < m)
    (hcel : Cel u vs) (hn : vs.length = m') (hf : fo + m' ≤ sz) (hsz : 0 < sz) (hk : ∀ M', ((SA (some e) sz v m (rput row i fo vs)).star X).p H M' → K () H M') : hm P (Instr.storeAt t (eptr v sz i fo) u) H M K := by
  subst hn
  obtain ⟨M1, M2, a1, a2, dj, ⟨hr1, hr2, hown, base, cap, rfl⟩, hB⟩ := q
  rcases hown with ⟨h1, _⟩ | ⟨b, ln, cp, cs, h1, h2, h3, h4, h5, h6⟩
  · cases h1; omega
  · cases h1
    have hfl := flat_len hr1
    have hle : (i + 1) * sz ≤ m * sz := Nat.mul_le_mul_right _ hi
    rw [Nat.add_mul, Nat.one_mul] at hle
    have hle2 : m * sz ≤ cap * sz := Nat.mul_le_mul_right _ h4
    have he : eptr (.slice (some ⟨b, 0, none⟩) m cap) sz i fo = .pointer (some ⟨b, i * sz + fo, none⟩) := by simp [eptr, addr_add]
    rw [he]
    have hov : ((HP.own b (.cells cs e (0, 0))).star X).p H M := ⟨M1, M2, a1, a2, dj, h5, hB⟩
    obtain ⟨hb, hq⟩ := own_write (o' := .cells (setL cs (i * sz + fo) vs) e (0, 0)) hov
    have hcl : u.cells.size = vs.length := by rw [← hcel.h]; simp
    refine hm_st hs.h hb hcl (by rw [h3]; omega) (fun j _ _ h => by omega) (fun x hx => List.all_eq_true.1 (by rw [hcel.h]; exact hcel.o) x hx) ?_
    rw [hcel.h]
    refine hk _ (star_monoL (fun H M h => ?_) hq)
    have hx2 : cs.toList.take (m * sz) = flat m row := by rw [← hfl]; exact h6
    refine ⟨rput_len hr1 hf, flat_rput_one hr2 hcel.o, .inr ⟨b, m, cap, _, rfl, flat_len (rput_len hr1 hf), by rw [setL_size]; exact h3, h4, h, ?_⟩, _, _, rfl⟩
    rw [flat_len (rput_len hr1 hf)]
    exact flat_rput hsz hi hr1 hf cs (by omega) hx2
/-- a store into an element -/
theorem st_ste {t : TypeId} {x y : Operand} {e sz m i fo m' : Nat} {v u : Value} {vs : List Value} {row : Nat → List Value} [hs : SZ P t m'] (s : Sel (SA (some e) sz v m row) As Bs)
    (hx : ∀ j, ev (mk l j) x = eptr v sz i fo := by intro j; rfl) (hy : ∀ j, ev (mk l j) y = u := by intro j; rfl) (hi : i < m := by omega) (hcel : Cel u vs := by infer_instance) (hn : vs.length = m' := by rfl) (hf : fo + m' ≤ sz := by decide) (hsz : 0 < sz := by decide) :
    StepL P ⟨dd, .store t x y, oty, pos, af, g⟩ l As (fun _ Cs => Cs = SA (some e) sz v m (rput row i fo vs) :: Bs) := .mk fun j Fs H M q => by
  refine hmc_of_hm ?_
  show hm P (Instr.storeAt t (ev (mk l j) x) (ev (mk l j) y) >>= fun _ => pure Next.skip) H M _
  rw [hx j, hy j]
  exact hm_bind (hm_ste ((s.app Fs).sat q) hi hcel hn hf hsz fun M' h => hm_pure ⟨undef, .inr ⟨rfl, rfl⟩, _, rfl, h⟩)
theorem hm_app_z {t e sz bytes m c : Nat} [sl : SL P t e sz bytes] {a : Option Addr} {ys : List Value} {bx offx : Nat} {cx : Array Value} {tx : TypeId} {fx : Nat × Nat} {H M : Heap} {K : Value → Heap → Heap → Prop} (hm0 : 0 < m)
    (hx : Kn H M bx (.cells cx tx fx)) (hy : cx.extract offx (offx + m * sz) = ys.toArray) (hyl : offx + m * sz ≤ cx.size) (hys : ys.length = m * sz) (hroom : (m + 512) * bytes ≤ 140737488355328)
    (h : ∀ r nc cs, Fresh H M r → m ≤ nc → cs.size = nc * sz → cs.toList.take (m * sz) = ys → K (.slice (some ⟨r, 0, none⟩) m nc) H (upd M r (.cells cs e))) :
    hm P (Builtin.append_ #[t, t] t #[.slice a 0 0, .slice (some ⟨bx, offx, none⟩) m c]) H M K := by
  obtain ⟨i, z, hu, hs, hi, hby, hb0, hz, hzs, hsz⟩ := sl.h
  unfold Builtin.append_
  simp only [List.getElem?_toArray, List.getElem?_cons_zero, List.getElem?_cons_succ]
  refine hm_bind (hm_cst hu ?_)
  dsimp only
  refine hm_bind (hm_cst hs ?_)
  refine hm_bind (hm_cst hu ?_)
  dsimp only
  refine hm_bind (hm_pure ?_)
  simp only [Bool.false_eq_true, if_false, Bool.not_false, if_true]
  refine hm_bind (hm_pure ?_)
  rw [if_neg (by omega)]
  refine hm_bind (hm_cst hi ?_)
  rw [if_neg (by simp [hby]; omega)]
  refine hm_bind (hm_cst hi ?_)
  have hns := nextslicecap_le (0 + m) 0 (by omega)
  have hle : Builtin.nextslicecap (0 + m) 0 * i.bytes ≤ 2 ^ 48 := by
    rw [hby]
    have h2 : Builtin.nextslicecap (0 + m) 0 * bytes ≤ (2 * (0 + m) + 1024) * bytes := Nat.mul_le_mul_right _ hns
    have h3 : (2 * (0 + m) + 1024) * bytes = 2 * ((m + 512) * bytes) := by rw [show 2 * (0 + m) + 1024 = 2 * (m + 512) from by omega, Nat.mul_assoc]
    omega
  rw [if_neg (by omega)]
  refine hm_bind (hm_choose fun newCap _ hcut => ?_)
  obtain ⟨tt, rfl⟩ := hcut rfl
  refine hm_bind (hm_cst hi ?_)
  refine hm_bind (hm_askRoom ?_)
  have hnc : 0 + m ≤ (Question.appendCap (0 + m) 0 e).cut tt := by simp [Question.cut]
  generalize (Question.appendCap (0 + m) 0 e).cut tt = nc at hnc
  have h0 : cst P (Builtin.firstCells sz 0 (.slice a 0 0)) = some #[] := by
    cases a with
    | none => rfl
    | some a => show cst P (loadCells a (0 * sz)) = _; rw [Nat.zero_mul]; rfl
  refine hm_bind (hm_cst h0 ?_)
  refine hm_bind ?_
  show hm P (loadCells ⟨bx, offx, none⟩ (m * sz)) H M _
  refine hm_loadCells hx hyl ?_
  rw [hy]
  refine hm_bind (hm_cst hz ?_)
  refine hm_bind (hm_newRow fun r hr => hm_pure ?_)
  have hsz2 : (Builtin.zeroCells z.cells (nc - (0 + m))).size = (nc - (0 + m)) * sz := by simp [Builtin.zeroCells, hzs]
  have := h r nc (#[] ++ ys.toArray ++ Builtin.zeroCells z.cells (nc - (0 + m))) hr (by omega) (by rw [Nat.zero_add] at hsz2; simp only [Array.size_append, List.size_toArray, hys, hsz2, List.length_nil, Nat.zero_add]; rw [← Nat.add_mul]; congr 1; omega) (by
    simp only [Array.toList_append]
    rw [List.nil_append]
    exact List.take_left' hys)
  simpa using this
/-- append(s, x...): s is one's own, or nothing -/
theorem st_appO {t e sz bytes m c : Nat} {p q : Operand} {a b : Option Addr} {len cap : Nat} {row row2 : Nat → List Value} [SL P t e sz bytes]
    (u : Sel (SO e sz (.slice a len cap) len row) As Bs) (x : SelR As sz (.slice b m c) m row2) (hx1 : (flat m row2).all one = true) (hroom : (len + m + 512) * bytes ≤ 140737488355328 := by omega)
    (hp : ∀ j, ev (mk l j) p = .slice a len cap := by intro j; rfl) (hq : ∀ j, ev (mk l j) q = .slice b m c := by intro j; rfl) :
    StepL P ⟨dd, .call ⟨.builtin .append, #[p, q], #[t, t]⟩, t, pos, af, g⟩ l As (fun v Cs => ∃ a' cap', v = .slice a' (len + m) cap' ∧ Cs = SO e sz (.slice a' (len + m) cap') (len + m) (rcat len row row2) :: Bs) := .mk fun j Fs H M s => by
  have hs := (u.app Fs).sat s
  obtain ⟨M1, M2, a1, a2, dj, hA, hB⟩ := hs
  rw [execOp_app, hp j, hq j]
  rcases hA with hA | ⟨rfl, a0, e0⟩
  · exact hmc_of_hm (hm_bind (hm_mono (sa_app ⟨M1, M2, a1, a2, dj, hA, hB⟩ ((x.app Fs).rd s) hx1 hroom) fun v H' M' ⟨a', cap', hv, hs⟩ => hm_pure ⟨v, .inl rfl, _, ⟨a', cap', hv, rfl⟩, star_monoL SO.of hs⟩))
  · cases e0
    have hB' := (Sat (Bs ++ Fs)).mono (Le.refl _) a2 hB
    have hxr := (x.app Fs).rd s
    have hxl : ∀ i, i < m → (row2 i).length = sz := by obtain ⟨_, _, _, _, h1, _⟩ := hxr; exact h1
    have hrc : rcat 0 row row2 = row2 := by funext i; simp [rcat]
    refine hmc_of_hm (hm_bind ?_)
    rw [hrc, Nat.zero_add]
    rcases Nat.eq_zero_or_pos m with rfl | hm
    · refine hm_app0 (Nat.le_refl _) (hm_pure ⟨_, .inl rfl, _, ⟨a, 0, rfl, rfl⟩, ?_⟩)
      exact ⟨fun _ => none, M, (fun _ _ h => nomatch h), Le.refl _, fun _ => .inl rfl, .inr ⟨rfl, a, rfl⟩, hB'⟩
    · obtain ⟨base, cap2, e2, _, _, h3⟩ := hxr
      obtain ⟨bx, off, cx, tx, fx, rfl, kx, hs, hx⟩ := h3 hm
      cases e2
      refine hm_app_z (ys := flat m row2) hm kx hx hs (flat_len hxl) (by rw [Nat.zero_add] at hroom; exact hroom) fun r nc cs hr hnc h4 h5 => hm_pure ⟨_, .inl rfl, _, ⟨_, _, rfl, rfl⟩, star_monoL (C := SO e sz _ m row2) (fun H M h => .inl ?_) (own_new hr hB')⟩
      exact ⟨hxl, hx1, .inr ⟨r, m, nc, cs, rfl, flat_len hxl, h4, hnc, h, by rw [flat_len hxl]; exact h5⟩, _, _, rfl⟩
end
end Go.Cam
