/- What answers are told as; the program's Show. -/
import Derived.Test.YtmlddafbenfilaaDoorDskT2
namespace Go.Proofs.YtmlddafbenfilaaDoor
open Go.Cam
set_option maxRecDepth 100000
structure An where
  code : Int
  waits : Bool
  n : Int
  m : Int
  data : List Nat
  names : List (List Nat)
  ino : Int
  kind : Int
  links : Int
  size : Int
structure An.ok (x : An) : Prop where
  k1 : I64 x.code
  k2 : I64 x.n
  k3 : I64 x.m
  k4 : I64 x.ino
  k5 : I64 x.kind
  k6 : I64 x.links
  k7 : I64 x.size
  b1 : Bys x.data
  b2 : ∀ w ∈ x.names, Bys w
  l1 : x.data.length ≤ 1048576
  l2 : x.names.length ≤ 1048576
  l3 : (x.names.map List.length).sum ≤ 1048576
def an0 : An := ⟨0, false, 0, 0, [], [], 0, 0, 0, 0⟩
def bitN (b : Bool) : Int := if b then 1 else 0
abbrev AnW : Type := (Option Addr × Nat) × (Option Addr × Nat)
abbrev anL (x : An) (y : AnW) : List Value := [.int .i64 x.code, .bool x.waits, .int .i64 x.n, .int .i64 x.m, .slice y.1.1 x.data.length y.1.2, .slice y.2.1 x.names.length y.2.2, .int .i64 x.ino, .int .i64 x.kind, .int .i64 x.links, .int .i64 x.size]
def anRow (w : Nat → AnW) (l : List An) (i : Nat) : List Value := anL (l.getD i an0) (w i)
abbrev AnD (w : Nat → AnW) (l : List An) (i : Nat) : HP := SA none 1 (.slice (w i).1.1 (l.getD i an0).data.length (w i).1.2) (l.getD i an0).data.length (byR (l.getD i an0).data)
abbrev AnN (w : Nat → AnW) (l : List An) (i : Nat) : HP := SA none 1 (.slice (w i).2.1 (l.getD i an0).names.length (w i).2.2) (l.getD i an0).names.length (txR (l.getD i an0).names)
/-- an answer's text: its head, its names, a newline -/
def headN (x : An) : List Nat := (((((((((itoaN x.code ++ [32]) ++ (itoaN (bitN x.waits) ++ [32])) ++ (itoaN x.n ++ [32])) ++ (itoaN x.m ++ [32])) ++ quoteN x.data) ++ ([32] ++ itoaN x.ino)) ++ ([32] ++ itoaN x.kind)) ++ ([32] ++ itoaN x.links)) ++ ([32] ++ itoaN x.size)) ++ ([32] ++ itoaN (x.names.length : Int))
def namesN (l : List (List Nat)) : List Nat := l.flatMap fun w => [32] ++ quoteN w
def ansN (x : An) : List Nat := headN x ++ namesN x.names ++ [10]
def showN (l : List An) : List Nat := l.flatMap ansN
theorem show_snoc (l : List An) (i : Nat) (hi : i < l.length) : showN (l.take (i + 1)) = showN (l.take i) ++ ansN (l.getD i an0) := by
  unfold showN
  rw [List.take_add_one, List.getElem?_eq_getElem hi, List.getD_eq_getElem?_getD, List.getElem?_eq_getElem hi, List.flatMap_append]
  simp
theorem show_take (l : List An) (i : Nat) : (showN (l.take i)).length ≤ (showN l).length := by
  have h : showN l = showN (l.take i) ++ showN (l.drop i) := by
    unfold showN
    rw [← List.flatMap_append, List.take_append_drop]
  rw [h, List.length_append]; omega
theorem names_snoc (l : List (List Nat)) (i : Nat) (hi : i < l.length) : namesN (l.take (i + 1)) = namesN (l.take i) ++ ([32] ++ quoteN (l.getD i [])) := by
  unfold namesN
  rw [List.take_add_one, List.getElem?_eq_getElem hi, List.getD_eq_getElem?_getD, List.getElem?_eq_getElem hi, List.flatMap_append]
  simp
theorem names_take (l : List (List Nat)) (i : Nat) : (namesN (l.take i)).length ≤ (namesN l).length := by
  have h : namesN l = namesN (l.take i) ++ namesN (l.drop i) := by
    unfold namesN
    rw [← List.flatMap_append, List.take_append_drop]
  rw [h, List.length_append]; omega
theorem bys_app {a b : List Nat} (ha : Bys a) (hb : Bys b) : Bys (a ++ b) := fun x hx => (List.mem_append.1 hx).elim (ha x) (hb x)
theorem bys_32 : Bys [32] := fun x hx => by rw [List.mem_singleton.1 hx]; decide
theorem bys_10 : Bys [10] := fun x hx => by rw [List.mem_singleton.1 hx]; decide
theorem names_bys {l : List (List Nat)} (h : ∀ w ∈ l, Bys w) : Bys (namesN l) := fun x hx => by
  obtain ⟨w, hw, hx⟩ := List.mem_flatMap.1 hx
  exact bys_app bys_32 (quoteN_bys (h w hw)) x hx
theorem bit_i64 (b : Bool) : I64 (bitN b) := by cases b <;> exact ⟨by decide, by decide⟩
theorem len_i64 {x : An} (h : x.ok) : I64 (x.names.length : Int) := by
  have := h.l2
  exact ⟨by omega, by omega⟩
theorem head_bys {x : An} (h : x.ok) : Bys (headN x) := by
  have i : ∀ n, Bys (itoaN n) := itoaN_bys
  exact bys_app (bys_app (bys_app (bys_app (bys_app (bys_app (bys_app (bys_app (bys_app (bys_app (i _) bys_32) (bys_app (i _) bys_32)) (bys_app (i _) bys_32)) (bys_app (i _) bys_32)) (quoteN_bys h.b1)) (bys_app bys_32 (i _))) (bys_app bys_32 (i _))) (bys_app bys_32 (i _))) (bys_app bys_32 (i _))) (bys_app bys_32 (i _))
theorem show_bys {l : List An} (h : ∀ x ∈ l, x.ok) : Bys (showN l) := fun c hc => by
  obtain ⟨x, hx, hc⟩ := List.mem_flatMap.1 hc
  exact bys_app (bys_app (head_bys (h x hx)) (names_bys (h x hx).b2)) bys_10 c hc
theorem an_get {l : List An} (h : ∀ x ∈ l, x.ok) {i : Nat} (hi : i < l.length) : (l.getD i an0).ok := by
  rw [List.getD_eq_getElem?_getD, List.getElem?_eq_getElem hi]
  exact h _ (List.getElem_mem hi)
theorem name_get {x : An} (h : x.ok) (i : Nat) : Bys (x.names.getD i []) ∧ (x.names.getD i []).length ≤ 1048576 := by
  rw [List.getD_eq_getElem?_getD]
  cases hq : x.names[i]? with
  | none => exact ⟨emp_bys, Nat.zero_le _⟩
  | some w => exact ⟨h.b2 w (List.mem_of_getElem? hq), Nat.le_trans (sum_mem (List.mem_map.2 ⟨w, List.mem_of_getElem? hq, rfl⟩)) h.l3⟩
theorem headN_len (x : An) : (headN x).length = (itoaN x.code).length + 1 + ((itoaN (bitN x.waits)).length + 1) + ((itoaN x.n).length + 1) + ((itoaN x.m).length + 1) + (quoteN x.data).length + (1 + (itoaN x.ino).length) + (1 + (itoaN x.kind).length) + (1 + (itoaN x.links).length) + (1 + (itoaN x.size).length) + (1 + (itoaN (x.names.length : Int)).length) := by
  unfold headN
  simp only [List.length_append, List.length_singleton]
theorem quoteN_ne (b : List Nat) : quoteN b ≠ [] := by unfold quoteN; simp
theorem bit_c (b : Bool) : Ctr Tryd.prog 34 [.bool b] [] (fun v Bs => v = .int .i64 (bitN b) ∧ Bs = []) := by
  refine s_enter 4 [(0, _)] (fun F => [F]) Tryd.func34 fun F => ?_
  cases b with
  | false =>
    refine gt_ ?_
    exact s_ret1 (rs := [.tmp 2]) Tryd.func34 rfl (by intro j; refine RVS.tmp _ rfl ?_; exact RVS.nil) (⟨rfl, rfl⟩) ent_
  | true =>
    refine gt_ ?_
    exact s_ret1 (rs := [.tmp 2]) Tryd.func34 rfl (by intro j; refine RVS.tmp _ rfl ?_; exact RVS.nil) (⟨rfl, rfl⟩) ent_
set_option maxHeartbeats 32000000 in
theorem show_c (l : List An) (hk : ∀ x ∈ l, x.ok) (hn : l.length ≤ 60) (hp : (showN l).length ≤ 100000000000000) {a : Option Addr} {c : Nat} {w : Nat → AnW} {X : HP} [Rd X 10 (.slice a l.length c) l.length (anRow w l)] : Ctr Tryd.prog 18 [.slice a l.length c] [GL, X, Fam l.length (AnD w l), Fam l.length (AnN w l)] (fun v Bs => v = .string (strB (showN l)) ∧ Bs = [X, Fam l.length (AnD w l), Fam l.length (AnN w l)]) := by
  have hpb := show_bys hk
  refine s_enter 84 [(0, _)] (fun F => [_, _, _, _, F]) Tryd.func18 fun F => ?_
  refine gt_ ?_
  refine s_alloc fun r3 => ?_
  refine s_sb0 (b := r3) sel_ ?_
  refine s_open (B := SB r3 (showN (l.take 0))) (fun _ _ h => h) ?_
  refine gt_ ?_
  refine s_loop (fun i : Nat => [(3, .pointer (some ⟨r3, 0, none⟩)), (12, .slice a l.length c), (13, .int .i64 (l.length : Int)), (14, .int .i64 (i : Int))]) (fun i => [GL, X, Fam l.length (AnD w l), Fam l.length (AnN w l), SB r3 (showN (l.take i)), F]) (fun i => i ≤ l.length) (fun i => l.length - i) 0 (Nat.zero_le _) ent_ ?_
  rintro i hi next
  have hpt := show_take l i
  have hpt2 := show_take l (i + 1)
  refine gt_ ?_
  refine s_if (fun hlt => ?_) (fun hlt => ?_)
  · have h3 : i < l.length := by omega
    have hxk := an_get hk h3
    have hsn := show_snoc l i h3
    rw [hsn] at hpt2
    refine s_dup (a := Fam l.length (AnD w l)) sel_ (s_open (B := SA none 1 (.slice (w i).1.1 (l.getD i an0).data.length (w i).1.2) (l.getD i an0).data.length (byR (l.getD i an0).data)) (Fam.get h3) ?_)
    refine s_dup (a := Fam l.length (AnN w l)) sel_ (s_open (B := SA none 1 (.slice (w i).2.1 (l.getD i an0).names.length (w i).2.2) (l.getD i an0).names.length (txR (l.getD i an0).names)) (Fam.get h3) ?_)
    refine gt_ ?_
    refine s_look (lk_ldeN (sz := 10) (fo := 0) (n := l.length) (i := i) (v := .slice a l.length c) (vs := anL (l.getD i an0) (w i)) (s := (by repeat (first | with_reducible exact SelR.here | with_reducible apply SelR.there))) (hv := ⟨rfl⟩)) ?_
    refine gt_ ?_
    refine s_alloc fun r5 => ?_
    generalize l.getD i an0 = e at *
    generalize w i = q at *
    obtain ⟨⟨a1, c1⟩, a2, c2⟩ := q
    dsimp only
    have hb := headN_len e
    have hl2 := hxk.l2
    unfold ansN at hpt2
    simp only [List.length_append, List.length_singleton] at hpt2
    generalize hP : showN (l.take i) = P at *
    refine gt_ ?_
    refine s_drawN 0 [.q 0, .q 1, .q 2, .q 3, .q 4, .q 5, .q 6, .q 7, .q 8, .q 11, .s 9, .q 10] ?_
    refine dt_ ?_
    refine d_call (ho := rfl) (v := .int .i64 (bitN e.waits)) (sp := spl_) (hs := bit_c e.waits) (hq := by rintro r Bs ⟨rfl, rfl⟩; exact ⟨rfl, (by first | ((try simp only [List.cons_append, List.nil_append]); (repeat (first | exact Ent.nil | refine Ent.per (by repeat (first | with_reducible exact Sel.here | with_reducible apply Sel.there)) ?_ | refine Ent.cons (by repeat (first | with_reducible exact Sel.here | with_reducible apply Sel.there)) ?_)); done) | ((repeat (first | rw [List.cons_append] | rw [List.nil_append])); (repeat (first | exact Ent.nil | refine Ent.per (by repeat (first | with_reducible exact Sel.here | with_reducible apply Sel.there)) ?_ | refine Ent.cons (by repeat (first | with_reducible exact Sel.here | with_reducible apply Sel.there)) ?_))))⟩) (h := ?_)
    refine dt_ ?_
    refine d_step rfl (st_bs (sz := 1) (cells := [.int .i64 e.code, .int .i64 (bitN e.waits), .int .i64 e.n, .int .i64 e.m]) (by intro j; rfl)) ?_
    rintro v Bs ⟨o, rfl, rfl⟩
    refine dt_ ?_
    refine gt_ ?_
    refine s_unroll ?_
    refine gt_ ?_
    refine s_look (lk_ixs (v := .slice o 4 4) (i := 0)) ?_
    refine s_look (lk_lde (v := .slice o 4 4) (u := .int .i64 e.code)) ?_
    refine gt_ ?_
    refine s_call (sp := spl_) (hs := itoa_c (n := e.code) hxk.k1) (h := ?_)
    rintro v Bs ⟨rfl, rfl⟩
    refine gt_ ?_
    try refine s_look (lk_cat (a := itoaN e.code) (b := [32]) (by simp only [List.length_singleton]; omega)) ?_
    refine gt_ ?_
    refine s_call (sp := spl_) (hs := sstr_c r3 (P) (itoaN e.code ++ [32]) (bys_app (itoaN_bys _) bys_32) (by simp) (by simp only [List.length_append, List.length_singleton]; omega)) (h := ?_)
    rintro v Bs ⟨rfl, rfl⟩
    refine gt_ ?_
    refine s_again ?_
    refine gt_ ?_
    refine s_look (lk_ixs (v := .slice o 4 4) (i := 1)) ?_
    refine s_look (lk_lde (v := .slice o 4 4) (u := .int .i64 (bitN e.waits))) ?_
    refine gt_ ?_
    refine s_call (sp := spl_) (hs := itoa_c (n := (bitN e.waits)) (bit_i64 e.waits)) (h := ?_)
    rintro v Bs ⟨rfl, rfl⟩
    refine gt_ ?_
    try refine s_look (lk_cat (a := itoaN (bitN e.waits)) (b := [32]) (by simp only [List.length_singleton]; omega)) ?_
    refine gt_ ?_
    refine s_call (sp := spl_) (hs := sstr_c r3 (P ++ (itoaN e.code ++ [32])) (itoaN (bitN e.waits) ++ [32]) (bys_app (itoaN_bys _) bys_32) (by simp) (by simp only [List.length_append, List.length_singleton]; omega)) (h := ?_)
    rintro v Bs ⟨rfl, rfl⟩
    refine gt_ ?_
    refine s_again ?_
    refine gt_ ?_
    refine s_look (lk_ixs (v := .slice o 4 4) (i := 2)) ?_
    refine s_look (lk_lde (v := .slice o 4 4) (u := .int .i64 e.n)) ?_
    refine gt_ ?_
    refine s_call (sp := spl_) (hs := itoa_c (n := e.n) hxk.k2) (h := ?_)
    rintro v Bs ⟨rfl, rfl⟩
    refine gt_ ?_
    try refine s_look (lk_cat (a := itoaN e.n) (b := [32]) (by simp only [List.length_singleton]; omega)) ?_
    refine gt_ ?_
    refine s_call (sp := spl_) (hs := sstr_c r3 ((P ++ (itoaN e.code ++ [32])) ++ (itoaN (bitN e.waits) ++ [32])) (itoaN e.n ++ [32]) (bys_app (itoaN_bys _) bys_32) (by simp) (by simp only [List.length_append, List.length_singleton]; omega)) (h := ?_)
    rintro v Bs ⟨rfl, rfl⟩
    refine gt_ ?_
    refine s_again ?_
    refine gt_ ?_
    refine s_look (lk_ixs (v := .slice o 4 4) (i := 3)) ?_
    refine s_look (lk_lde (v := .slice o 4 4) (u := .int .i64 e.m)) ?_
    refine gt_ ?_
    refine s_call (sp := spl_) (hs := itoa_c (n := e.m) hxk.k3) (h := ?_)
    rintro v Bs ⟨rfl, rfl⟩
    refine gt_ ?_
    try refine s_look (lk_cat (a := itoaN e.m) (b := [32]) (by simp only [List.length_singleton]; omega)) ?_
    refine gt_ ?_
    refine s_call (sp := spl_) (hs := sstr_c r3 (((P ++ (itoaN e.code ++ [32])) ++ (itoaN (bitN e.waits) ++ [32])) ++ (itoaN e.n ++ [32])) (itoaN e.m ++ [32]) (bys_app (itoaN_bys _) bys_32) (by simp) (by simp only [List.length_append, List.length_singleton]; omega)) (h := ?_)
    rintro v Bs ⟨rfl, rfl⟩
    refine gt_ ?_
    refine s_again ?_
    refine gt_ ?_
    refine s_call (sp := spl_) (hs := quote_c (A := SA none 1 (.slice a1 e.data.length c1) e.data.length (byR e.data)) (a := a1) (n := e.data.length) (c := c1) e.data hxk.b1 rfl (by have := hxk.l1; omega)) (h := ?_)
    rintro v Bs ⟨rfl, rfl⟩
    refine gt_ ?_
    refine s_call (sp := spl_) (hs := sstr_c r3 ((((P ++ (itoaN e.code ++ [32])) ++ (itoaN (bitN e.waits) ++ [32])) ++ (itoaN e.n ++ [32])) ++ (itoaN e.m ++ [32])) (quoteN e.data) (quoteN_bys hxk.b1) (quoteN_ne _) (by simp only [List.length_append, List.length_singleton]; omega)) (h := ?_)
    rintro v Bs ⟨rfl, rfl⟩
    refine gt_ ?_
    refine s_bs (cells := [.int .i64 e.ino, .int .i64 e.kind, .int .i64 e.links, .int .i64 e.size, .int .i64 (e.names.length : Int)]) (fun o2 => ?_) (fun j => rfl)
    refine gt_ ?_
    refine s_unroll ?_
    refine gt_ ?_
    refine s_look (lk_ixs (v := .slice o2 5 5) (i := 0)) ?_
    refine s_look (lk_lde (v := .slice o2 5 5) (u := .int .i64 e.ino)) ?_
    refine gt_ ?_
    refine s_call (sp := spl_) (hs := itoa_c (n := e.ino) hxk.k4) (h := ?_)
    rintro v Bs ⟨rfl, rfl⟩
    refine gt_ ?_
    try refine s_look (lk_cat (a := [32]) (b := itoaN e.ino) (by simp only [List.length_singleton]; omega)) ?_
    refine gt_ ?_
    refine s_call (sp := spl_) (hs := sstr_c r3 (((((P ++ (itoaN e.code ++ [32])) ++ (itoaN (bitN e.waits) ++ [32])) ++ (itoaN e.n ++ [32])) ++ (itoaN e.m ++ [32])) ++ quoteN e.data) ([32] ++ itoaN e.ino) (bys_app bys_32 (itoaN_bys _)) (by simp) (by simp only [List.length_append, List.length_singleton]; omega)) (h := ?_)
    rintro v Bs ⟨rfl, rfl⟩
    refine gt_ ?_
    refine s_again ?_
    refine gt_ ?_
    refine s_look (lk_ixs (v := .slice o2 5 5) (i := 1)) ?_
    refine s_look (lk_lde (v := .slice o2 5 5) (u := .int .i64 e.kind)) ?_
    refine gt_ ?_
    refine s_call (sp := spl_) (hs := itoa_c (n := e.kind) hxk.k5) (h := ?_)
    rintro v Bs ⟨rfl, rfl⟩
    refine gt_ ?_
    try refine s_look (lk_cat (a := [32]) (b := itoaN e.kind) (by simp only [List.length_singleton]; omega)) ?_
    refine gt_ ?_
    refine s_call (sp := spl_) (hs := sstr_c r3 ((((((P ++ (itoaN e.code ++ [32])) ++ (itoaN (bitN e.waits) ++ [32])) ++ (itoaN e.n ++ [32])) ++ (itoaN e.m ++ [32])) ++ quoteN e.data) ++ ([32] ++ itoaN e.ino)) ([32] ++ itoaN e.kind) (bys_app bys_32 (itoaN_bys _)) (by simp) (by simp only [List.length_append, List.length_singleton]; omega)) (h := ?_)
    rintro v Bs ⟨rfl, rfl⟩
    refine gt_ ?_
    refine s_again ?_
    refine gt_ ?_
    refine s_look (lk_ixs (v := .slice o2 5 5) (i := 2)) ?_
    refine s_look (lk_lde (v := .slice o2 5 5) (u := .int .i64 e.links)) ?_
    refine gt_ ?_
    refine s_call (sp := spl_) (hs := itoa_c (n := e.links) hxk.k6) (h := ?_)
    rintro v Bs ⟨rfl, rfl⟩
    refine gt_ ?_
    try refine s_look (lk_cat (a := [32]) (b := itoaN e.links) (by simp only [List.length_singleton]; omega)) ?_
    refine gt_ ?_
    refine s_call (sp := spl_) (hs := sstr_c r3 (((((((P ++ (itoaN e.code ++ [32])) ++ (itoaN (bitN e.waits) ++ [32])) ++ (itoaN e.n ++ [32])) ++ (itoaN e.m ++ [32])) ++ quoteN e.data) ++ ([32] ++ itoaN e.ino)) ++ ([32] ++ itoaN e.kind)) ([32] ++ itoaN e.links) (bys_app bys_32 (itoaN_bys _)) (by simp) (by simp only [List.length_append, List.length_singleton]; omega)) (h := ?_)
    rintro v Bs ⟨rfl, rfl⟩
    refine gt_ ?_
    refine s_again ?_
    refine gt_ ?_
    refine s_look (lk_ixs (v := .slice o2 5 5) (i := 3)) ?_
    refine s_look (lk_lde (v := .slice o2 5 5) (u := .int .i64 e.size)) ?_
    refine gt_ ?_
    refine s_call (sp := spl_) (hs := itoa_c (n := e.size) hxk.k7) (h := ?_)
    rintro v Bs ⟨rfl, rfl⟩
    refine gt_ ?_
    try refine s_look (lk_cat (a := [32]) (b := itoaN e.size) (by simp only [List.length_singleton]; omega)) ?_
    refine gt_ ?_
    refine s_call (sp := spl_) (hs := sstr_c r3 ((((((((P ++ (itoaN e.code ++ [32])) ++ (itoaN (bitN e.waits) ++ [32])) ++ (itoaN e.n ++ [32])) ++ (itoaN e.m ++ [32])) ++ quoteN e.data) ++ ([32] ++ itoaN e.ino)) ++ ([32] ++ itoaN e.kind)) ++ ([32] ++ itoaN e.links)) ([32] ++ itoaN e.size) (bys_app bys_32 (itoaN_bys _)) (by simp) (by simp only [List.length_append, List.length_singleton]; omega)) (h := ?_)
    rintro v Bs ⟨rfl, rfl⟩
    refine gt_ ?_
    refine s_again ?_
    refine gt_ ?_
    refine s_look (lk_ixs (v := .slice o2 5 5) (i := 4)) ?_
    refine s_look (lk_lde (v := .slice o2 5 5) (u := .int .i64 (e.names.length : Int))) ?_
    refine gt_ ?_
    refine s_call (sp := spl_) (hs := itoa_c (n := (e.names.length : Int)) (len_i64 hxk)) (h := ?_)
    rintro v Bs ⟨rfl, rfl⟩
    refine gt_ ?_
    try refine s_look (lk_cat (a := [32]) (b := itoaN (e.names.length : Int)) (by simp only [List.length_singleton]; omega)) ?_
    refine gt_ ?_
    refine s_call (sp := spl_) (hs := sstr_c r3 (((((((((P ++ (itoaN e.code ++ [32])) ++ (itoaN (bitN e.waits) ++ [32])) ++ (itoaN e.n ++ [32])) ++ (itoaN e.m ++ [32])) ++ quoteN e.data) ++ ([32] ++ itoaN e.ino)) ++ ([32] ++ itoaN e.kind)) ++ ([32] ++ itoaN e.links)) ++ ([32] ++ itoaN e.size)) ([32] ++ itoaN (e.names.length : Int)) (bys_app bys_32 (itoaN_bys _)) (by simp) (by simp only [List.length_append, List.length_singleton]; omega)) (h := ?_)
    rintro v Bs ⟨rfl, rfl⟩
    refine gt_ ?_
    refine s_again ?_
    refine gt_ ?_
    rw [show (((((((((P ++ (itoaN e.code ++ [32])) ++ (itoaN (bitN e.waits) ++ [32])) ++ (itoaN e.n ++ [32])) ++ (itoaN e.m ++ [32])) ++ quoteN e.data) ++ ([32] ++ itoaN e.ino)) ++ ([32] ++ itoaN e.kind)) ++ ([32] ++ itoaN e.links)) ++ ([32] ++ itoaN e.size)) ++ ([32] ++ itoaN (e.names.length : Int)) = P ++ headN e by unfold headN; simp only [List.append_assoc]]
    have hnt := names_take e.names
    rw [show P ++ headN e = (P ++ headN e) ++ namesN (e.names.take 0) by simp [namesN]]
    refine s_loop (fun j : Nat => [(3, .pointer (some ⟨r3, 0, none⟩)), (5, .pointer (some ⟨r5, 0, none⟩)), (12, .slice a l.length c), (13, .int .i64 (l.length : Int)), (14, .int .i64 (i : Int)), (69, .slice a2 e.names.length c2), (70, .int .i64 (e.names.length : Int)), (71, .int .i64 (j : Int))])
      (fun j => [SB r3 ((P ++ headN e) ++ namesN (e.names.take j)), SA none 1 (.slice a2 e.names.length c2) e.names.length (txR e.names), GL, X, Fam l.length (AnD w l), Fam l.length (AnN w l), F]) (fun j => j ≤ e.names.length) (fun j => e.names.length - j) 0 (Nat.zero_le _) ent_ ?_
    · rintro j hj next2
      have hnj := hnt j
      have hnj2 := hnt (j + 1)
      refine gt_ ?_
      refine s_if (fun hlt2 => ?_) (fun hlt2 => ?_)
      · have h4 : j < e.names.length := by omega
        obtain ⟨nb, nl⟩ := name_get hxk j
        rw [names_snoc _ _ h4] at hnj2
        simp only [List.length_append, List.length_singleton] at hnj2
        refine gt_ ?_
        try refine s_look (lk_lde (v := .slice a2 e.names.length c2) (u := .string (strB (e.names.getD j [])))) ?_
        refine gt_ ?_
        refine s_step (st_s2R (s := e.names.getD j []) nb) ?_
        rintro v Bs ⟨rA, cA, rfl, rfl⟩
        refine gt_ ?_
        refine s_call (sp := spl_) (hs := quote_c (A := RO 5 rA (e.names.getD j []) cA) (a := some ⟨rA, 0, none⟩) (n := (e.names.getD j []).length) (c := cA) (e.names.getD j []) nb rfl (by omega)) (h := ?_)
        rintro v Bs ⟨rfl, rfl⟩
        refine gt_ ?_
        try refine s_look (lk_cat (a := [32]) (b := quoteN (e.names.getD j [])) (by simp only [List.length_singleton]; omega)) ?_
        refine gt_ ?_
        refine s_call (sp := spl_) (hs := sstr_c r3 ((P ++ headN e) ++ namesN (e.names.take j)) ([32] ++ quoteN (e.names.getD j [])) (bys_app bys_32 (quoteN_bys nb)) (by simp) (by simp only [List.length_append, List.length_singleton]; omega)) (h := ?_)
        rintro v Bs ⟨rfl, rfl⟩
        rw [List.append_assoc (P ++ headN e), ← names_snoc _ _ h4]
        refine gt_ ?_
        exact s_entF ent_ (s_keep _ (next2 (j + 1) (by show j + 1 ≤ e.names.length; omega) (by show e.names.length - (j + 1) < e.names.length - j; omega)))
      · have hnl : e.names.take j = e.names := List.take_of_length_le (by omega)
        rw [hnl]
        refine gt_ ?_
        refine s_call (sp := spl_) (hs := sstr_c r3 ((P ++ headN e) ++ namesN e.names) [10] bys_10 (by simp) (by simp only [List.length_append, List.length_singleton]; omega)) (h := ?_)
        rintro v Bs ⟨rfl, rfl⟩
        rw [show ((P ++ headN e) ++ namesN e.names) ++ [10] = showN (l.take (i + 1)) by rw [hsn]; unfold ansN; simp only [List.append_assoc]]
        refine gt_ ?_
        exact s_entF ent_ (s_keep _ (next (i + 1) (by show i + 1 ≤ l.length; omega) (by show l.length - (i + 1) < l.length - i; omega)))
  · have hil : l.take i = l := List.take_of_length_le (by omega)
    rw [hil]
    refine gt_ ?_
    refine s_call (sp := spl_) (hs := string_c r3 (showN l) hpb (by omega)) (h := ?_)
    rintro v Bs ⟨rfl, rfl⟩
    refine gt_ ?_
    exact s_ret1 (rs := [.tmp 2]) Tryd.func18 rfl (by intro j; refine RVS.tmp _ rfl ?_; exact RVS.nil) (⟨rfl, rfl⟩) ent_
end Go.Proofs.YtmlddafbenfilaaDoor
/- The document's Show. -/
namespace Go.Proofs.YtmlddafbenfilaaDoor
open Go.Cam
set_option maxRecDepth 100000
def wN (b : Bool) : List Nat := if b then [49] else [48]
theorem itoa_digit {n : Nat} (h : n < 10) : itoaN (n : Int) = [48 + n] := by
  unfold itoaN Go.Lib.itoa
  rw [if_neg (by omega), Int.toNat_natCast, Go.Lib.decDigits, dif_pos h]
  show [(UInt8.ofNat (48 + n)).toNat] = _
  rw [u8_of (by omega)]
theorem wN_itoa (b : Bool) : itoaN (bitN b) = wN b := by
  cases b
  · exact itoa_digit (n := 0) (by decide)
  · exact itoa_digit (n := 1) (by decide)
theorem wN_len (b : Bool) : (wN b).length = 1 := by cases b <;> rfl
theorem names_small {x : An} (h : x.ok) : (namesN x.names).length ≤ 6 * 1048576 := by
  have key : ∀ (l : List (List Nat)), (namesN l).length ≤ 3 * (l.map List.length).sum + 3 * l.length := by
    intro l
    induction l with
    | nil => exact Nat.zero_le _
    | cons w l ih =>
      have h3 := quoteN_len w
      show (([32] ++ quoteN w) ++ namesN l).length ≤ _
      rw [List.length_append, List.length_append, List.length_singleton, List.length_cons, List.map_cons, List.sum_cons]
      omega
  have h1 := key x.names
  have h2 := h.l2
  have h3 := h.l3
  omega
theorem head_small {x : An} (h : x.ok) : (headN x).length ≤ 3146000 := by
  rw [headN_len]
  have a1 := itoaN_len h.k1
  have a2 := itoaN_len (bit_i64 x.waits)
  have a3 := itoaN_len h.k2
  have a4 := itoaN_len h.k3
  have a5 := itoaN_len h.k4
  have a6 := itoaN_len h.k5
  have a7 := itoaN_len h.k6
  have a8 := itoaN_len h.k7
  have a9 := itoaN_len (len_i64 h)
  have b1 := quoteN_len x.data
  have b2 := h.l1
  omega
theorem show_small : ∀ {l : List An}, (∀ x ∈ l, x.ok) → (showN l).length ≤ l.length * 10000000
  | [], _ => Nat.zero_le _
  | x :: l, h => by
    have ih := show_small (l := l) fun x hx => h x (List.mem_cons_of_mem _ hx)
    have h1 := names_small (h x (List.mem_cons_self ..))
    have h2 := head_small (h x (List.mem_cons_self ..))
    show ((headN x ++ namesN x.names ++ [10]) ++ showN l).length ≤ _
    rw [List.length_append, List.length_append, List.length_append, List.length_singleton, List.length_cons]
    omega
set_option maxHeartbeats 32000000 in
theorem rshow_c (l : List An) (hk : ∀ x ∈ l, x.ok) (hn : l.length ≤ 60) (hp : (showN l).length ≤ 100000000000000) {a : Option Addr} {c : Nat} {w : Nat → AnW} {X : HP} [Rd X 10 (.slice a l.length c) l.length (anRow w l)] : Ctr Tryd.prog 19 [.slice a l.length c] [GL, X, Fam l.length (AnD w l), Fam l.length (AnN w l)] (fun v Bs => v = .string (strB (showN l)) ∧ Bs = [X, Fam l.length (AnD w l), Fam l.length (AnN w l)]) := by
  refine s_enter 93 [(0, _)] (fun F => [_, _, _, _, F]) Tryd.func19 fun F => ?_
  refine gt_ ?_
  refine s_loop (fun i : Nat => [(0, .slice a l.length c), (3, .string (strB (showN (l.take i)))), (4, .int .i64 (i : Int))]) (fun _ => [GL, X, Fam l.length (AnD w l), Fam l.length (AnN w l), F]) (fun i => i ≤ l.length) (fun i => l.length - i) 0 (Nat.zero_le _) ent_ ?_
  rintro i hi next
  have hpt := show_take l i
  have hpt2 := show_take l (i + 1)
  refine gt_ ?_
  refine s_if (fun hlt => ?_) (fun hlt => ?_)
  · have h3 : i < l.length := by omega
    have hxk := an_get hk h3
    have hsn := show_snoc l i h3
    rw [hsn] at hpt2
    refine s_dup (a := Fam l.length (AnD w l)) sel_ (s_open (B := SA none 1 (.slice (w i).1.1 (l.getD i an0).data.length (w i).1.2) (l.getD i an0).data.length (byR (l.getD i an0).data)) (Fam.get h3) ?_)
    refine s_dup (a := Fam l.length (AnN w l)) sel_ (s_open (B := SA none 1 (.slice (w i).2.1 (l.getD i an0).names.length (w i).2.2) (l.getD i an0).names.length (txR (l.getD i an0).names)) (Fam.get h3) ?_)
    refine gt_ ?_
    refine s_look (lk_ldeN (sz := 10) (fo := 0) (n := l.length) (i := i) (v := .slice a l.length c) (vs := anL (l.getD i an0) (w i)) (s := (by repeat (first | with_reducible exact SelR.here | with_reducible apply SelR.there))) (hv := ⟨rfl⟩)) ?_
    refine gt_ ?_
    refine s_alloc fun r5 => ?_
    generalize l.getD i an0 = e at *
    generalize w i = q at *
    obtain ⟨⟨a1, c1⟩, a2, c2⟩ := q
    dsimp only
    have hb := headN_len e
    have hl2 := hxk.l2
    have hwl := wN_len e.waits
    unfold ansN at hpt2
    simp only [List.length_append, List.length_singleton] at hpt2
    generalize hP : showN (l.take i) = P at *
    apply s_join (α := Unit) (fun _ => [(0, .slice a l.length c), (3, .string (strB P)), (4, .int .i64 (i : Int)), (5, .pointer (some ⟨r5, 0, none⟩)), (6, .string (strB (wN e.waits)))]) (fun _ => [Box r5 68 (anL e ((a1, c1), (a2, c2))), SA none 1 (.slice a2 e.names.length c2) e.names.length (txR e.names), SA none 1 (.slice a1 e.data.length c1) e.data.length (byR e.data), GL, X, Fam l.length (AnD w l), Fam l.length (AnN w l), F]) (fun _ => True)
    case h =>
      intro K
      refine gt_ ?_
      refine s_cond e.waits (fun hw => ?_) (fun hw => ?_)
      · have hw2 : strB (wN e.waits) = ByteArray.mk #[49] := by rw [hw]; rfl
        rw [hw2] at K
        refine gt_ ?_
        exact s_entF ent_ (s_keep _ (K () trivial))
      · have hw2 : strB (wN e.waits) = ByteArray.mk #[48] := by rw [hw]; rfl
        rw [hw2] at K
        refine gt_ ?_
        exact s_entF ent_ (s_keep _ (K () trivial))
    case K =>
      rintro ⟨⟩ _
      refine gt_ ?_
      refine s_drawN 0 [.q 0, .q 1, .q 2, .q 3, .q 4, .q 5, .q 6, .q 7, .q 8, .q 9, .q 10, .q 11, .q 12, .q 13, .q 14, .q 15, .q 16, .q 17, .q 18, .q 19, .q 20, .q 21, .q 22, .q 23, .q 24, .q 25, .q 26, .q 27, .q 28, .q 29, .q 30, .q 31, .q 32, .q 33, .q 34, .q 35, .q 36, .q 37, .q 38, .q 39, .q 40, .q 41, .q 42, .q 43, .q 44, .q 45, .q 46, .q 47, .q 48, .q 49, .q 50, .q 51, .q 52, .q 53] ?_
      refine dt_ ?_
      refine d_call (ho := rfl) (v := .string (strB (itoaN e.code))) (sp := spl_) (hs := itoa_c (n := e.code) hxk.k1) (hq := by rintro r Bs ⟨rfl, rfl⟩; exact ⟨rfl, (by first | ((try simp only [List.cons_append, List.nil_append]); (repeat (first | exact Ent.nil | refine Ent.per (by repeat (first | with_reducible exact Sel.here | with_reducible apply Sel.there)) ?_ | refine Ent.cons (by repeat (first | with_reducible exact Sel.here | with_reducible apply Sel.there)) ?_)); done) | ((repeat (first | rw [List.cons_append] | rw [List.nil_append])); (repeat (first | exact Ent.nil | refine Ent.per (by repeat (first | with_reducible exact Sel.here | with_reducible apply Sel.there)) ?_ | refine Ent.cons (by repeat (first | with_reducible exact Sel.here | with_reducible apply Sel.there)) ?_))))⟩) (h := ?_)
      refine dt_ ?_
      try refine d_look rfl (lk_cat (a := P) (b := itoaN e.code) (by simp only [List.length_append, List.length_singleton]; omega)) ?_
      refine dt_ ?_
      try refine d_look rfl (lk_cat (a := (P ++ itoaN e.code)) (b := [32]) (by simp only [List.length_append, List.length_singleton]; omega)) ?_
      refine dt_ ?_
      try refine d_look rfl (lk_cat (a := ((P ++ itoaN e.code) ++ [32])) (b := wN e.waits) (by simp only [List.length_append, List.length_singleton]; omega)) ?_
      refine dt_ ?_
      try refine d_look rfl (lk_cat (a := (((P ++ itoaN e.code) ++ [32]) ++ wN e.waits)) (b := [32]) (by simp only [List.length_append, List.length_singleton]; omega)) ?_
      refine dt_ ?_
      refine d_call (ho := rfl) (v := .string (strB (itoaN e.n))) (sp := spl_) (hs := itoa_c (n := e.n) hxk.k2) (hq := by rintro r Bs ⟨rfl, rfl⟩; exact ⟨rfl, (by first | ((try simp only [List.cons_append, List.nil_append]); (repeat (first | exact Ent.nil | refine Ent.per (by repeat (first | with_reducible exact Sel.here | with_reducible apply Sel.there)) ?_ | refine Ent.cons (by repeat (first | with_reducible exact Sel.here | with_reducible apply Sel.there)) ?_)); done) | ((repeat (first | rw [List.cons_append] | rw [List.nil_append])); (repeat (first | exact Ent.nil | refine Ent.per (by repeat (first | with_reducible exact Sel.here | with_reducible apply Sel.there)) ?_ | refine Ent.cons (by repeat (first | with_reducible exact Sel.here | with_reducible apply Sel.there)) ?_))))⟩) (h := ?_)
      refine dt_ ?_
      try refine d_look rfl (lk_cat (a := ((((P ++ itoaN e.code) ++ [32]) ++ wN e.waits) ++ [32])) (b := itoaN e.n) (by simp only [List.length_append, List.length_singleton]; omega)) ?_
      refine dt_ ?_
      try refine d_look rfl (lk_cat (a := (((((P ++ itoaN e.code) ++ [32]) ++ wN e.waits) ++ [32]) ++ itoaN e.n)) (b := [32]) (by simp only [List.length_append, List.length_singleton]; omega)) ?_
      refine dt_ ?_
      refine d_call (ho := rfl) (v := .string (strB (itoaN e.m))) (sp := spl_) (hs := itoa_c (n := e.m) hxk.k3) (hq := by rintro r Bs ⟨rfl, rfl⟩; exact ⟨rfl, (by first | ((try simp only [List.cons_append, List.nil_append]); (repeat (first | exact Ent.nil | refine Ent.per (by repeat (first | with_reducible exact Sel.here | with_reducible apply Sel.there)) ?_ | refine Ent.cons (by repeat (first | with_reducible exact Sel.here | with_reducible apply Sel.there)) ?_)); done) | ((repeat (first | rw [List.cons_append] | rw [List.nil_append])); (repeat (first | exact Ent.nil | refine Ent.per (by repeat (first | with_reducible exact Sel.here | with_reducible apply Sel.there)) ?_ | refine Ent.cons (by repeat (first | with_reducible exact Sel.here | with_reducible apply Sel.there)) ?_))))⟩) (h := ?_)
      refine dt_ ?_
      try refine d_look rfl (lk_cat (a := ((((((P ++ itoaN e.code) ++ [32]) ++ wN e.waits) ++ [32]) ++ itoaN e.n) ++ [32])) (b := itoaN e.m) (by simp only [List.length_append, List.length_singleton]; omega)) ?_
      refine dt_ ?_
      try refine d_look rfl (lk_cat (a := (((((((P ++ itoaN e.code) ++ [32]) ++ wN e.waits) ++ [32]) ++ itoaN e.n) ++ [32]) ++ itoaN e.m)) (b := [32]) (by simp only [List.length_append, List.length_singleton]; omega)) ?_
      refine dt_ ?_
      refine d_call (ho := rfl) (v := .string (strB (quoteN e.data))) (sp := spl_) (hs := rquote_c (A := SA none 1 (.slice a1 e.data.length c1) e.data.length (byR e.data)) (a := a1) (n := e.data.length) (c := c1) e.data hxk.b1 rfl (by have := hxk.l1; omega)) (hq := by rintro r Bs ⟨rfl, rfl⟩; exact ⟨rfl, (by first | ((try simp only [List.cons_append, List.nil_append]); (repeat (first | exact Ent.nil | refine Ent.per (by repeat (first | with_reducible exact Sel.here | with_reducible apply Sel.there)) ?_ | refine Ent.cons (by repeat (first | with_reducible exact Sel.here | with_reducible apply Sel.there)) ?_)); done) | ((repeat (first | rw [List.cons_append] | rw [List.nil_append])); (repeat (first | exact Ent.nil | refine Ent.per (by repeat (first | with_reducible exact Sel.here | with_reducible apply Sel.there)) ?_ | refine Ent.cons (by repeat (first | with_reducible exact Sel.here | with_reducible apply Sel.there)) ?_))))⟩) (h := ?_)
      refine dt_ ?_
      try refine d_look rfl (lk_cat (a := ((((((((P ++ itoaN e.code) ++ [32]) ++ wN e.waits) ++ [32]) ++ itoaN e.n) ++ [32]) ++ itoaN e.m) ++ [32])) (b := quoteN e.data) (by simp only [List.length_append, List.length_singleton]; omega)) ?_
      refine dt_ ?_
      try refine d_look rfl (lk_cat (a := (((((((((P ++ itoaN e.code) ++ [32]) ++ wN e.waits) ++ [32]) ++ itoaN e.n) ++ [32]) ++ itoaN e.m) ++ [32]) ++ quoteN e.data)) (b := [32]) (by simp only [List.length_append, List.length_singleton]; omega)) ?_
      refine dt_ ?_
      refine d_call (ho := rfl) (v := .string (strB (itoaN e.ino))) (sp := spl_) (hs := itoa_c (n := e.ino) hxk.k4) (hq := by rintro r Bs ⟨rfl, rfl⟩; exact ⟨rfl, (by first | ((try simp only [List.cons_append, List.nil_append]); (repeat (first | exact Ent.nil | refine Ent.per (by repeat (first | with_reducible exact Sel.here | with_reducible apply Sel.there)) ?_ | refine Ent.cons (by repeat (first | with_reducible exact Sel.here | with_reducible apply Sel.there)) ?_)); done) | ((repeat (first | rw [List.cons_append] | rw [List.nil_append])); (repeat (first | exact Ent.nil | refine Ent.per (by repeat (first | with_reducible exact Sel.here | with_reducible apply Sel.there)) ?_ | refine Ent.cons (by repeat (first | with_reducible exact Sel.here | with_reducible apply Sel.there)) ?_))))⟩) (h := ?_)
      refine dt_ ?_
      try refine d_look rfl (lk_cat (a := ((((((((((P ++ itoaN e.code) ++ [32]) ++ wN e.waits) ++ [32]) ++ itoaN e.n) ++ [32]) ++ itoaN e.m) ++ [32]) ++ quoteN e.data) ++ [32])) (b := itoaN e.ino) (by simp only [List.length_append, List.length_singleton]; omega)) ?_
      refine dt_ ?_
      try refine d_look rfl (lk_cat (a := (((((((((((P ++ itoaN e.code) ++ [32]) ++ wN e.waits) ++ [32]) ++ itoaN e.n) ++ [32]) ++ itoaN e.m) ++ [32]) ++ quoteN e.data) ++ [32]) ++ itoaN e.ino)) (b := [32]) (by simp only [List.length_append, List.length_singleton]; omega)) ?_
      refine dt_ ?_
      refine d_call (ho := rfl) (v := .string (strB (itoaN e.kind))) (sp := spl_) (hs := itoa_c (n := e.kind) hxk.k5) (hq := by rintro r Bs ⟨rfl, rfl⟩; exact ⟨rfl, (by first | ((try simp only [List.cons_append, List.nil_append]); (repeat (first | exact Ent.nil | refine Ent.per (by repeat (first | with_reducible exact Sel.here | with_reducible apply Sel.there)) ?_ | refine Ent.cons (by repeat (first | with_reducible exact Sel.here | with_reducible apply Sel.there)) ?_)); done) | ((repeat (first | rw [List.cons_append] | rw [List.nil_append])); (repeat (first | exact Ent.nil | refine Ent.per (by repeat (first | with_reducible exact Sel.here | with_reducible apply Sel.there)) ?_ | refine Ent.cons (by repeat (first | with_reducible exact Sel.here | with_reducible apply Sel.there)) ?_))))⟩) (h := ?_)
      refine dt_ ?_
      try refine d_look rfl (lk_cat (a := ((((((((((((P ++ itoaN e.code) ++ [32]) ++ wN e.waits) ++ [32]) ++ itoaN e.n) ++ [32]) ++ itoaN e.m) ++ [32]) ++ quoteN e.data) ++ [32]) ++ itoaN e.ino) ++ [32])) (b := itoaN e.kind) (by simp only [List.length_append, List.length_singleton]; omega)) ?_
      refine dt_ ?_
      try refine d_look rfl (lk_cat (a := (((((((((((((P ++ itoaN e.code) ++ [32]) ++ wN e.waits) ++ [32]) ++ itoaN e.n) ++ [32]) ++ itoaN e.m) ++ [32]) ++ quoteN e.data) ++ [32]) ++ itoaN e.ino) ++ [32]) ++ itoaN e.kind)) (b := [32]) (by simp only [List.length_append, List.length_singleton]; omega)) ?_
      refine dt_ ?_
      refine d_call (ho := rfl) (v := .string (strB (itoaN e.links))) (sp := spl_) (hs := itoa_c (n := e.links) hxk.k6) (hq := by rintro r Bs ⟨rfl, rfl⟩; exact ⟨rfl, (by first | ((try simp only [List.cons_append, List.nil_append]); (repeat (first | exact Ent.nil | refine Ent.per (by repeat (first | with_reducible exact Sel.here | with_reducible apply Sel.there)) ?_ | refine Ent.cons (by repeat (first | with_reducible exact Sel.here | with_reducible apply Sel.there)) ?_)); done) | ((repeat (first | rw [List.cons_append] | rw [List.nil_append])); (repeat (first | exact Ent.nil | refine Ent.per (by repeat (first | with_reducible exact Sel.here | with_reducible apply Sel.there)) ?_ | refine Ent.cons (by repeat (first | with_reducible exact Sel.here | with_reducible apply Sel.there)) ?_))))⟩) (h := ?_)
      refine dt_ ?_
      try refine d_look rfl (lk_cat (a := ((((((((((((((P ++ itoaN e.code) ++ [32]) ++ wN e.waits) ++ [32]) ++ itoaN e.n) ++ [32]) ++ itoaN e.m) ++ [32]) ++ quoteN e.data) ++ [32]) ++ itoaN e.ino) ++ [32]) ++ itoaN e.kind) ++ [32])) (b := itoaN e.links) (by simp only [List.length_append, List.length_singleton]; omega)) ?_
      refine dt_ ?_
      try refine d_look rfl (lk_cat (a := (((((((((((((((P ++ itoaN e.code) ++ [32]) ++ wN e.waits) ++ [32]) ++ itoaN e.n) ++ [32]) ++ itoaN e.m) ++ [32]) ++ quoteN e.data) ++ [32]) ++ itoaN e.ino) ++ [32]) ++ itoaN e.kind) ++ [32]) ++ itoaN e.links)) (b := [32]) (by simp only [List.length_append, List.length_singleton]; omega)) ?_
      refine dt_ ?_
      refine d_call (ho := rfl) (v := .string (strB (itoaN e.size))) (sp := spl_) (hs := itoa_c (n := e.size) hxk.k7) (hq := by rintro r Bs ⟨rfl, rfl⟩; exact ⟨rfl, (by first | ((try simp only [List.cons_append, List.nil_append]); (repeat (first | exact Ent.nil | refine Ent.per (by repeat (first | with_reducible exact Sel.here | with_reducible apply Sel.there)) ?_ | refine Ent.cons (by repeat (first | with_reducible exact Sel.here | with_reducible apply Sel.there)) ?_)); done) | ((repeat (first | rw [List.cons_append] | rw [List.nil_append])); (repeat (first | exact Ent.nil | refine Ent.per (by repeat (first | with_reducible exact Sel.here | with_reducible apply Sel.there)) ?_ | refine Ent.cons (by repeat (first | with_reducible exact Sel.here | with_reducible apply Sel.there)) ?_))))⟩) (h := ?_)
      refine dt_ ?_
      try refine d_look rfl (lk_cat (a := ((((((((((((((((P ++ itoaN e.code) ++ [32]) ++ wN e.waits) ++ [32]) ++ itoaN e.n) ++ [32]) ++ itoaN e.m) ++ [32]) ++ quoteN e.data) ++ [32]) ++ itoaN e.ino) ++ [32]) ++ itoaN e.kind) ++ [32]) ++ itoaN e.links) ++ [32])) (b := itoaN e.size) (by simp only [List.length_append, List.length_singleton]; omega)) ?_
      refine dt_ ?_
      try refine d_look rfl (lk_cat (a := (((((((((((((((((P ++ itoaN e.code) ++ [32]) ++ wN e.waits) ++ [32]) ++ itoaN e.n) ++ [32]) ++ itoaN e.m) ++ [32]) ++ quoteN e.data) ++ [32]) ++ itoaN e.ino) ++ [32]) ++ itoaN e.kind) ++ [32]) ++ itoaN e.links) ++ [32]) ++ itoaN e.size)) (b := [32]) (by simp only [List.length_append, List.length_singleton]; omega)) ?_
      refine dt_ ?_
      refine d_call (ho := rfl) (v := .string (strB (itoaN (e.names.length : Int)))) (sp := spl_) (hs := itoa_c (n := (e.names.length : Int)) (len_i64 hxk)) (hq := by rintro r Bs ⟨rfl, rfl⟩; exact ⟨rfl, (by first | ((try simp only [List.cons_append, List.nil_append]); (repeat (first | exact Ent.nil | refine Ent.per (by repeat (first | with_reducible exact Sel.here | with_reducible apply Sel.there)) ?_ | refine Ent.cons (by repeat (first | with_reducible exact Sel.here | with_reducible apply Sel.there)) ?_)); done) | ((repeat (first | rw [List.cons_append] | rw [List.nil_append])); (repeat (first | exact Ent.nil | refine Ent.per (by repeat (first | with_reducible exact Sel.here | with_reducible apply Sel.there)) ?_ | refine Ent.cons (by repeat (first | with_reducible exact Sel.here | with_reducible apply Sel.there)) ?_))))⟩) (h := ?_)
      refine dt_ ?_
      try refine d_look rfl (lk_cat (a := ((((((((((((((((((P ++ itoaN e.code) ++ [32]) ++ wN e.waits) ++ [32]) ++ itoaN e.n) ++ [32]) ++ itoaN e.m) ++ [32]) ++ quoteN e.data) ++ [32]) ++ itoaN e.ino) ++ [32]) ++ itoaN e.kind) ++ [32]) ++ itoaN e.links) ++ [32]) ++ itoaN e.size) ++ [32])) (b := itoaN (e.names.length : Int)) (by simp only [List.length_append, List.length_singleton]; omega)) ?_
      refine dt_ ?_
      rw [show (((((((((((((((((((P ++ itoaN e.code) ++ [32]) ++ wN e.waits) ++ [32]) ++ itoaN e.n) ++ [32]) ++ itoaN e.m) ++ [32]) ++ quoteN e.data) ++ [32]) ++ itoaN e.ino) ++ [32]) ++ itoaN e.kind) ++ [32]) ++ itoaN e.links) ++ [32]) ++ itoaN e.size) ++ [32]) ++ itoaN (e.names.length : Int)) = P ++ headN e by unfold headN; rw [wN_itoa]; simp only [List.append_assoc]]
      refine gt_ ?_
      have hnt := names_take e.names
      rw [show P ++ headN e = (P ++ headN e) ++ namesN (e.names.take 0) by simp [namesN]]
      refine s_loop (fun j : Nat => [(0, .slice a l.length c), (3, .string (strB ((P ++ headN e) ++ namesN (e.names.take j)))), (4, .int .i64 (i : Int)), (5, .pointer (some ⟨r5, 0, none⟩)), (7, .int .i64 (j : Int))])
        (fun j => [Box r5 68 (anL e ((a1, c1), (a2, c2))), SA none 1 (.slice a2 e.names.length c2) e.names.length (txR e.names), GL, X, Fam l.length (AnD w l), Fam l.length (AnN w l), F]) (fun j => j ≤ e.names.length) (fun j => e.names.length - j) 0 (Nat.zero_le _) ent_ ?_
      · rintro j hj next2
        have hnj := hnt j
        have hnj2 := hnt (j + 1)
        refine gt_ ?_
        refine s_if (fun hlt2 => ?_) (fun hlt2 => ?_)
        · have h4 : j < e.names.length := by omega
          obtain ⟨nb, nl⟩ := name_get hxk j
          rw [names_snoc _ _ h4] at hnj2
          simp only [List.length_append, List.length_singleton] at hnj2
          refine gt_ ?_
          try refine s_look (lk_cat (a := (P ++ headN e) ++ namesN (e.names.take j)) (b := [32]) (by simp only [List.length_append, List.length_singleton]; omega)) ?_
          refine gt_ ?_
          try refine s_look (lk_lde (v := .slice a2 e.names.length c2) (u := .string (strB (e.names.getD j [])))) ?_
          refine gt_ ?_
          refine s_step (st_s2R (s := e.names.getD j []) nb) ?_
          rintro v Bs ⟨rA, cA, rfl, rfl⟩
          refine gt_ ?_
          refine s_call (sp := spl_) (hs := rquote_c (A := RO 5 rA (e.names.getD j []) cA) (a := some ⟨rA, 0, none⟩) (n := (e.names.getD j []).length) (c := cA) (e.names.getD j []) nb rfl (by omega)) (h := ?_)
          rintro v Bs ⟨rfl, rfl⟩
          refine gt_ ?_
          try refine s_look (lk_cat (a := ((P ++ headN e) ++ namesN (e.names.take j)) ++ [32]) (b := quoteN (e.names.getD j [])) (by simp only [List.length_append, List.length_singleton]; omega)) ?_
          rw [List.append_assoc ((P ++ headN e) ++ namesN (e.names.take j)), List.append_assoc (P ++ headN e), ← names_snoc _ _ h4]
          refine gt_ ?_
          exact s_entF ent_ (s_keep _ (next2 (j + 1) (by show j + 1 ≤ e.names.length; omega) (by show e.names.length - (j + 1) < e.names.length - j; omega)))
        · have hnl : e.names.take j = e.names := List.take_of_length_le (by omega)
          rw [hnl]
          refine gt_ ?_
          try refine s_look (lk_cat (a := (P ++ headN e) ++ namesN e.names) (b := [10]) (by simp only [List.length_append, List.length_singleton]; omega)) ?_
          rw [show ((P ++ headN e) ++ namesN e.names) ++ [10] = showN (l.take (i + 1)) by rw [hsn]; unfold ansN; simp only [List.append_assoc]]
          refine gt_ ?_
          exact s_entF ent_ (s_keep _ (next (i + 1) (by show i + 1 ≤ l.length; omega) (by show l.length - (i + 1) < l.length - i; omega)))
  · have hil : l.take i = l := List.take_of_length_le (by omega)
    rw [hil]
    refine gt_ ?_
    exact s_ret1 (rs := [.tmp 2]) Tryd.func19 rfl (by intro j; refine RVS.tmp _ rfl ?_; exact RVS.nil) (⟨rfl, rfl⟩) ent_
end Go.Proofs.YtmlddafbenfilaaDoor
