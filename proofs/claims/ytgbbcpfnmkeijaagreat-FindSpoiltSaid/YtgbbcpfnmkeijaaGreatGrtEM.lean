/- find.Scan over any nodes that are read. -/
import Derived.Test.YtgbbcpfnmkeijaaGreatGrtEH
import Derived.Test.YtgbbcpfnmkeijaaGreatGrtBJ
import Derived.Test.YtgbbcpfnmkeijaaGreatGrtW
namespace Go.Proofs.YtgbbcpfnmkeijaaGreat
open Go.Cam
set_option maxRecDepth 100000
def scanKidsE (to : Key) (most : Int) (rec : Int → List Item → Except Nat (List Item)) : List Kid → List Item → Except Nat (List Item)
  | [], out => .ok out
  | y :: l, out => if scanStop to most y.key out then .ok out else
    match rec y.addr out with
    | .error e => .error e
    | .ok o => scanKidsE to most rec l o
def scanX (rd : Int → Except Nat Node) (fr to : Key) (most : Int) : Nat → Node → List Item → Except Nat (List Item)
  | 0, x, out => .ok (scanItems to most (x.items.drop (seekX x fr)) out)
  | h + 1, x, out => scanKidsE to most (fun a o => match atR rd a (h : Nat) with
    | .error e => .error e
    | .ok y => scanX rd fr to most h y o) (x.kids.drop (seekX x fr)) out
def scanR (rd : Int → Except Nat Node) (fr to : Key) (most : Int) (k lv : Int) (out : List Item) : Except Nat (List Item) :=
  match atR rd k lv with
  | .error e => .error e
  | .ok x => scanX rd fr to most x.level.toNat x out
abbrev ScanD (PP : HP) (p : Nat) (rd : Int → Except Nat Node) (y : ScB) (fr to : Key) (most : Int) (h : Nat) (k lv : Int) (out : List Item) (path : List Int) : Prop :=
  Ctr Tryz.prog 51 [.int .i64 k, .int .i64 lv, .pointer (some ⟨y.w, 0, none⟩), .pointer (some ⟨y.fr, 0, none⟩), .pointer (some ⟨y.to, 0, none⟩), .pointer (some ⟨y.out, 0, none⟩), .pointer (some ⟨y.most, 0, none⟩), .pointer (some ⟨y.below, 0, none⟩)]
    [Wk y.wk p path, PP, OutA y.out out, bW y, bF y fr, bT y to, bM y most, bB y]
    (fun v Bs => (∃ o path', scanR rd fr to most k lv out = .ok o ∧ v = .int .i64 0 ∧ o.length ≤ out.length + 13 ^ (h + 1) ∧ path'.length ≤ path.length + 13 ^ (h + 1) ∧ Bs = [Wk y.wk p path', PP, OutA y.out o, bW y, bF y fr, bT y to, bM y most, bB y]) ∨
      (∃ (e : Nat) (o : List Item) (path' : List Int), scanR rd fr to most k lv out = .error e ∧ e ≠ 0 ∧ v = .int .i64 e ∧ Bs = [Wk y.wk p path', PP, OutA y.out o, bW y, bF y fr, bT y to, bM y most, bB y]))
set_option maxHeartbeats 8000000 in
theorem gscan0_c {PP : HP} {p : Nat} {rd : Int → Except Nat Node} (hR : NdC PP p rd) (y : ScB) (fr to : Key) (most : Int) (k lv : Int) (out : List Item) (path : List Int) (hlv : ∀ x, atR rd k lv = .ok x → x.level = 0) (hp : path.length < 900000000000) (ho : out.length < 900000000000) : ScanD PP p rd y fr to most 0 k lv out path := by
  refine s_enter 98 [(0, _), (1, _), (2, _), (3, _), (4, _), (5, _), (6, _), (7, _)] (fun F => [_, _, _, _, _, _, _, _, F]) Tryz.func51 fun F => ?_
  refine go_ ?_
  refine s_call (sp := (by repeat (first | exact Split.nil | apply Split.perx (by repeat (first | with_reducible exact Sel.here | with_reducible apply Sel.there)) (by infer_instance) | apply Split.cons (by repeat (first | with_reducible exact Sel.here | with_reducible apply Sel.there))))) (hs := gat_c hR y.wk k lv path (by omega)) (h := ?_)
  rintro v Bs (⟨L, u, hA, hok, rfl, rfl⟩ | ⟨e, hA, he0, rfl, rfl⟩)
  rotate_left
  · have hS : scanR rd fr to most k lv out = .error e := by unfold scanR; rw [hA]
    refine go_ ?_
    refine s_alloc fun r11 => ?_
    refine go_ ?_
    rw [show (((e : Nat) : Int) != 0) = true by simp; omega]
    refine go_ ?_
    exact s_ret1 (rs := [.tmp 10]) Tryz.func51 rfl (by intro j; refine RVS.tmp _ rfl ?_; exact RVS.nil) (.inr ⟨e, out, path, hS, he0, rfl, rfl⟩) (by repeat (first | exact Ent.nil | refine Ent.per (by repeat (first | with_reducible exact Sel.here | with_reducible apply Sel.there)) ?_ | refine Ent.cons (by repeat (first | with_reducible exact Sel.here | with_reducible apply Sel.there)) ?_))
  have hl0 := hlv L hA
  have hs := small_of hok
  obtain ⟨hi1, hi6, hk0⟩ := nodeOk_items hok hl0
  have hsk : seekX L fr ≤ L.items.length := by
    have := seekN_le (fun i => (L.items.getD i default).key.lt fr) L.items.length 0
    unfold seekX; rw [if_pos hl0]; omega
  have hS : scanR rd fr to most k lv out = .ok (scanItems to most (L.items.drop (seekX L fr)) out) := by unfold scanR; rw [hA]; dsimp only; rw [hl0]; rfl
  rw [hS]
  refine go_ ?_
  refine s_alloc fun r11 => ?_
  refine go_ ?_
  refine s_call (sp := (by repeat (first | exact Split.nil | apply Split.perx (by repeat (first | with_reducible exact Sel.here | with_reducible apply Sel.there)) (by infer_instance) | apply Split.cons (by repeat (first | with_reducible exact Sel.here | with_reducible apply Sel.there))))) (hs := nseek_c L fr (a := u.a) (b := u.b) (c := u.c) (d := u.d) (w := u.w) rfl rfl hs.i hs.k) (h := ?_)
  rintro v Bs ⟨rfl, rfl⟩
  generalize seekX L fr = i at *
  refine go_ ?_
  refine s_look (lk_min ((i : Nat) : Int)) ?_
  refine go_ ?_
  refine s_know (a := Nd1 L u) (by repeat (first | with_reducible exact Sel.here | with_reducible apply Sel.there)) (SA.cap) fun hcap => ?_
  refine s_look (lk_slc i L.items.length (cap := u.c) hsk hcap) ?_
  refine s_part i L.items.length hsk (Nat.le_refl _) (a := u.a) (cap := u.c) (m := L.items.length) (by repeat (first | with_reducible exact Sel.here | with_reducible apply Sel.there)) ?_
  refine go_ ?_
  refine s_loop (fun q : Nat × List Item => [(2, .pointer (some ⟨y.w, 0, none⟩)), (3, .pointer (some ⟨y.fr, 0, none⟩)), (4, .pointer (some ⟨y.to, 0, none⟩)), (5, .pointer (some ⟨y.out, 0, none⟩)), (6, .pointer (some ⟨y.most, 0, none⟩)), (7, .pointer (some ⟨y.below, 0, none⟩)), (11, .pointer (some ⟨r11, 0, none⟩)), (13, .int .i64 (i : Nat)), (43, .slice (sladdr u.a 4 i u.c) (L.items.length - i) (u.c - i)), (44, .int .i64 (L.items.length - i : Nat)), (45, .int .i64 q.1)])
    (fun q => [OutA y.out q.2, SA none 4 (.slice (sladdr u.a 4 i u.c) (L.items.length - i) (u.c - i)) (L.items.length - i) (fun j => itemRow u.w L.items (i + j)), Box r11 88 [.int .i64 L.level, .slice u.a L.items.length u.c, .slice u.b L.kids.length u.d], Wk y.wk p (path ++ [k]), PP, Nd2 L u, Nd3 L u, bW y, bF y fr, bT y to, bM y most, bB y, F])
    (fun q => q.1 ≤ L.items.length - i ∧ q.2.length ≤ out.length + q.1 ∧ scanItems to most (L.items.drop (i + q.1)) q.2 = scanItems to most (L.items.drop i) out) (fun q => L.items.length - i - q.1) (0, out) ⟨Nat.zero_le _, Nat.le_refl _, rfl⟩ (by repeat (first | exact Ent.nil | refine Ent.per (by repeat (first | with_reducible exact Sel.here | with_reducible apply Sel.there)) ?_ | refine Ent.cons (by repeat (first | with_reducible exact Sel.here | with_reducible apply Sel.there)) ?_)) ?_
  rintro ⟨j, oj⟩ ⟨hj, hlo, he⟩ next
  dsimp only at hj hlo he next ⊢
  refine go_ ?_
  refine s_if (fun h => ?_) (fun h => ?_)
  · have hj2 : i + j < L.items.length := by omega
    have hx : L.items.getD (i + j) default = L.items[i + j] := by simp [List.getD_eq_getElem?_getD, hj2]
    rw [List.drop_eq_getElem_cons hj2, ← hx, scanItems] at he
    refine go_ ?_
    refine s_alloc fun r16 => ?_
    refine s_opn (φ := fun _ : Option Addr × Nat × (Nat → Option Addr × Nat) => True) (X := Out.parts y.out oj) (by repeat (first | with_reducible exact Sel.here | with_reducible apply Sel.there)) fun q hq => ?_
    obtain ⟨a, c, w⟩ := q
    unfold Out.parts
    refine s_nrm ?_
    refine go_ ?_
    refine s_call (sp := (by repeat (first | exact Split.nil | apply Split.perx (by repeat (first | with_reducible exact Sel.here | with_reducible apply Sel.there)) (by infer_instance) | apply Split.cons (by repeat (first | with_reducible exact Sel.here | with_reducible apply Sel.there))))) (hs := less_ok to (L.items.getD (i + j) default).key) (h := ?_)
    rintro v Bs ⟨rfl, rfl⟩
    cases hlt : to.lt (L.items.getD (i + j) default).key with
    | true =>
      refine go_ ?_
      refine s_cls (φ := fun _ : Option Addr × Nat × (Nat → Option Addr × Nat) => True) (X := Out.parts y.out oj) (a, c, w) trivial (by repeat (first | exact Split.nil | apply Split.perx (by repeat (first | with_reducible exact Sel.here | with_reducible apply Sel.there)) (by infer_instance) | apply Split.cons (by repeat (first | with_reducible exact Sel.here | with_reducible apply Sel.there)))) ?_
      rw [if_pos (by unfold scanStop; rw [hlt]; rfl)] at he
      rw [← he]
      exact s_ret1 (rs := [.tmp 10]) Tryz.func51 rfl (by intro j; refine RVS.tmp _ rfl ?_; exact RVS.nil) (.inl ⟨_, path ++ [k], rfl, rfl, by have : 13 ^ (0 + 1) = 13 := rfl; omega, by have : 13 ^ (0 + 1) = 13 := rfl; simp, rfl⟩) (by repeat (first | exact Ent.nil | refine Ent.per (by repeat (first | with_reducible exact Sel.here | with_reducible apply Sel.there)) ?_ | refine Ent.cons (by repeat (first | with_reducible exact Sel.here | with_reducible apply Sel.there)) ?_))
    | false =>
      refine go_ ?_
      cases hm : decide ((oj.length : Int) ≥ most) with
      | true =>
        refine go_ ?_
        refine s_cls (φ := fun _ : Option Addr × Nat × (Nat → Option Addr × Nat) => True) (X := Out.parts y.out oj) (a, c, w) trivial (by repeat (first | exact Split.nil | apply Split.perx (by repeat (first | with_reducible exact Sel.here | with_reducible apply Sel.there)) (by infer_instance) | apply Split.cons (by repeat (first | with_reducible exact Sel.here | with_reducible apply Sel.there)))) ?_
        rw [if_pos (by unfold scanStop; rw [hlt, hm]; rfl)] at he
        rw [← he]
        exact s_ret1 (rs := [.tmp 10]) Tryz.func51 rfl (by intro j; refine RVS.tmp _ rfl ?_; exact RVS.nil) (.inl ⟨_, path ++ [k], rfl, rfl, by have : 13 ^ (0 + 1) = 13 := rfl; omega, by have : 13 ^ (0 + 1) = 13 := rfl; simp, rfl⟩) (by repeat (first | exact Ent.nil | refine Ent.per (by repeat (first | with_reducible exact Sel.here | with_reducible apply Sel.there)) ?_ | refine Ent.cons (by repeat (first | with_reducible exact Sel.here | with_reducible apply Sel.there)) ?_))
      | false =>
        rw [if_neg (by unfold scanStop; rw [hlt, hm]; decide)] at he
        refine go_ ?_
        refine s_step (st_bs1 (sz := 4) (cells := [.int .i64 (L.items.getD (i + j) default).key.obj, .int .i64 (L.items.getD (i + j) default).key.kind, .int .i64 (L.items.getD (i + j) default).key.off, .slice (u.w (i + j)).1 (L.items.getD (i + j) default).val.length (u.w (i + j)).2]) rfl) ?_
        rintro _ _ ⟨a3, rfl, rfl⟩
        refine go_ ?_
        refine s_step (st_appO (a := a) (len := oj.length) (cap := c) (b := a3) (m := 1) (c := 1) (by repeat (first | with_reducible exact Sel.here | with_reducible apply Sel.there)) (by repeat (first | with_reducible exact SelR.here | with_reducible apply SelR.there)) (by rw [flat_one]; rfl)) ?_
        rintro _ _ ⟨a4, c4, rfl, rfl⟩
        refine s_open (SO.cg (itemRow (wset w oj.length (u.w (i + j))) (oj ++ [L.items.getD (i + j) default])) fun q hq => items_snoc_row w oj (L.items.getD (i + j) default) (u.w (i + j)) q hq) ?_
        refine s_get (i + j) (F := itemFam u.w L.items) (m := L.items.length) (by repeat (first | with_reducible exact Sel.here | with_reducible apply Sel.there)) hj2 ?_
        refine s_open (B := itemFam (wset w oj.length (u.w (i + j))) (oj ++ [L.items.getD (i + j) default]) oj.length) (items_snoc_new w oj (L.items.getD (i + j) default) (u.w (i + j))) ?_
        refine s_front (a := Fam oj.length (itemFam w oj)) (by repeat (first | with_reducible exact Sel.here | with_reducible apply Sel.there)) (s_open (Fam.cg (itemFam (wset w oj.length (u.w (i + j))) (oj ++ [L.items.getD (i + j) default])) (items_snoc_fam w oj (L.items.getD (i + j) default) (u.w (i + j)))) ?_)
        refine s_famS (m := oj.length) (F := itemFam (wset w oj.length (u.w (i + j))) (oj ++ [L.items.getD (i + j) default])) (by repeat (first | with_reducible exact Sel.here | with_reducible apply Sel.there)) (by repeat (first | with_reducible exact Sel.here | with_reducible apply Sel.there)) ?_
        refine go_ ?_
        rw [show oj.length + 1 = (oj ++ [L.items.getD (i + j) default]).length by simp]
        refine s_cls (φ := fun _ : Option Addr × Nat × (Nat → Option Addr × Nat) => True) (X := Out.parts y.out (oj ++ [L.items.getD (i + j) default])) (a4, c4, wset w oj.length (u.w (i + j))) trivial (by repeat (first | exact Split.nil | apply Split.perx (by repeat (first | with_reducible exact Sel.here | with_reducible apply Sel.there)) (by infer_instance) | apply Split.cons (by repeat (first | with_reducible exact Sel.here | with_reducible apply Sel.there)))) ?_
        exact s_entF (by repeat (first | exact Ent.nil | refine Ent.per (by repeat (first | with_reducible exact Sel.here | with_reducible apply Sel.there)) ?_ | refine Ent.cons (by repeat (first | with_reducible exact Sel.here | with_reducible apply Sel.there)) ?_)) (s_keep _ (next (j + 1, oj ++ [L.items.getD (i + j) default]) ⟨by dsimp only; omega, by simp; omega, by rw [← he]; rfl⟩ (by dsimp only; omega)))
  · have hj3 : j = L.items.length - i := by omega
    rw [show L.items.drop (i + j) = [] from List.drop_eq_nil_of_le (by omega), scanItems] at he
    rw [← he]
    refine go_ ?_
    refine s_look (lk_min (0 : Int)) ?_
    refine go_ ?_
    refine s_loop (fun _ : Unit => [(72, .int .i64 (L.kids.length - 0 : Nat)), (73, .int .i64 0)])
      (fun _ => [OutA y.out oj, Wk y.wk p (path ++ [k]), PP, bW y, bF y fr, bT y to, bM y most, bB y, F]) (fun _ => True) (fun _ => 0) () trivial (by repeat (first | exact Ent.nil | refine Ent.per (by repeat (first | with_reducible exact Sel.here | with_reducible apply Sel.there)) ?_ | refine Ent.cons (by repeat (first | with_reducible exact Sel.here | with_reducible apply Sel.there)) ?_)) ?_
    rintro _ _ _
    refine go_ ?_
    refine s_if (fun h5 => ?_) (fun h5 => ?_)
    · exact absurd h5 (by omega)
    · refine go_ ?_
      exact s_ret1 (rs := [.tmp 10]) Tryz.func51 rfl (by intro j; refine RVS.tmp _ rfl ?_; exact RVS.nil) (.inl ⟨_, path ++ [k], rfl, rfl, by have : 13 ^ (0 + 1) = 13 := rfl; omega, by have : 13 ^ (0 + 1) = 13 := rfl; simp, rfl⟩) (by repeat (first | exact Ent.nil | refine Ent.per (by repeat (first | with_reducible exact Sel.here | with_reducible apply Sel.there)) ?_ | refine Ent.cons (by repeat (first | with_reducible exact Sel.here | with_reducible apply Sel.there)) ?_))
set_option maxHeartbeats 16000000 in
theorem gscanS_c {PP : HP} {p : Nat} {rd : Int → Except Nat Node} (hR : NdC PP p rd) (y : ScB) (fr to : Key) (most : Int) (h : Nat) (ih : ∀ (k lv : Int) (out : List Item) (path : List Int), (∀ x, atR rd k lv = .ok x → x.level = (h : Nat)) → path.length + 13 ^ (h + 1) < 900000000000 → out.length + 13 ^ (h + 1) < 900000000000 → ScanD PP p rd y fr to most h k lv out path)
    (k lv : Int) (out : List Item) (path : List Int) (hlv : ∀ x, atR rd k lv = .ok x → x.level = (h + 1 : Nat)) (hp : path.length + 13 ^ (h + 1 + 1) < 900000000000) (ho : out.length + 13 ^ (h + 1 + 1) < 900000000000) : ScanD PP p rd y fr to most (h + 1) k lv out path := by
  obtain ⟨X, hX⟩ : ∃ X, X = 13 ^ (h + 1) := ⟨_, rfl⟩
  have hX2 : 13 ^ (h + 1 + 1) = 13 * X := by rw [hX, Nat.pow_succ, Nat.mul_comm]
  have hX1 : 1 ≤ X := by rw [hX]; exact Nat.pow_pos (by decide)
  have hhX : h + 1 < X := by rw [hX]; exact Nat.lt_pow_self (by decide)
  rw [hX2] at hp ho
  rw [← hX] at ih
  unfold ScanD
  rw [hX2]
  refine s_enter 98 [(0, _), (1, _), (2, _), (3, _), (4, _), (5, _), (6, _), (7, _)] (fun F => [_, _, _, _, _, _, _, _, F]) Tryz.func51 fun F => ?_
  refine go_ ?_
  refine s_call (sp := (by repeat (first | exact Split.nil | apply Split.perx (by repeat (first | with_reducible exact Sel.here | with_reducible apply Sel.there)) (by infer_instance) | apply Split.cons (by repeat (first | with_reducible exact Sel.here | with_reducible apply Sel.there))))) (hs := gat_c hR y.wk k lv path (by omega)) (h := ?_)
  rintro v Bs (⟨L, u, hA, hok, rfl, rfl⟩ | ⟨e, hA, he0, rfl, rfl⟩)
  rotate_left
  · have hS : scanR rd fr to most k lv out = .error e := by unfold scanR; rw [hA]
    refine go_ ?_
    refine s_alloc fun r11 => ?_
    refine go_ ?_
    rw [show (((e : Nat) : Int) != 0) = true by simp; omega]
    refine go_ ?_
    exact s_ret1 (rs := [.tmp 10]) Tryz.func51 rfl (by intro j; refine RVS.tmp _ rfl ?_; exact RVS.nil) (.inr ⟨e, out, path, hS, he0, rfl, rfl⟩) (by repeat (first | exact Ent.nil | refine Ent.per (by repeat (first | with_reducible exact Sel.here | with_reducible apply Sel.there)) ?_ | refine Ent.cons (by repeat (first | with_reducible exact Sel.here | with_reducible apply Sel.there)) ?_))
  have hl0 := hlv L hA
  have hs := small_of hok
  have hsk := seekX_kid hok (by omega) fr
  obtain ⟨hi1, hi6, hk0⟩ := nodeOk_kids hok (by omega)
  obtain ⟨RC, hRC⟩ : ∃ RC : Int → List Item → Except Nat (List Item), RC = fun a o => match atR rd a (h : Nat) with
    | .error e => .error e
    | .ok y => scanX rd fr to most h y o := ⟨_, rfl⟩
  have hRC2 : ∀ a o, scanR rd fr to most a (h : Nat) o = RC a o := fun a o => by
    rw [hRC]
    show scanR rd fr to most a (h : Nat) o = (match atR rd a (h : Nat) with
    | .error e => .error e
    | .ok y => scanX rd fr to most h y o)
    unfold scanR
    cases hq : atR rd a (h : Nat) with
    | error e => rfl
    | ok y =>
      show scanX rd fr to most y.level.toNat y o = scanX rd fr to most h y o
      rw [atR_lv hq (by omega)]; rfl
  have hS : scanR rd fr to most k lv out = scanKidsE to most RC (L.kids.drop (seekX L fr)) out := by unfold scanR; rw [hA]; dsimp only; rw [hl0, hRC]; rfl
  rw [hS]
  refine go_ ?_
  refine s_alloc fun r11 => ?_
  refine go_ ?_
  refine s_call (sp := (by repeat (first | exact Split.nil | apply Split.perx (by repeat (first | with_reducible exact Sel.here | with_reducible apply Sel.there)) (by infer_instance) | apply Split.cons (by repeat (first | with_reducible exact Sel.here | with_reducible apply Sel.there))))) (hs := nseek_c L fr (a := u.a) (b := u.b) (c := u.c) (d := u.d) (w := u.w) rfl rfl hs.i hs.k) (h := ?_)
  rintro v Bs ⟨rfl, rfl⟩
  generalize seekX L fr = i at *
  refine go_ ?_
  refine s_look (lk_min (0 : Int)) ?_
  refine go_ ?_
  refine s_loop (fun _ : Unit => [(2, .pointer (some ⟨y.w, 0, none⟩)), (3, .pointer (some ⟨y.fr, 0, none⟩)), (4, .pointer (some ⟨y.to, 0, none⟩)), (5, .pointer (some ⟨y.out, 0, none⟩)), (6, .pointer (some ⟨y.most, 0, none⟩)), (7, .pointer (some ⟨y.below, 0, none⟩)), (11, .pointer (some ⟨r11, 0, none⟩)), (13, .int .i64 (i : Nat)), (44, .int .i64 (L.items.length - 0 : Nat)), (45, .int .i64 0)])
    (fun _ => [OutA y.out out, Box r11 88 [.int .i64 L.level, .slice u.a L.items.length u.c, .slice u.b L.kids.length u.d], Wk y.wk p (path ++ [k]), PP, Nd3 L u, bW y, bF y fr, bT y to, bM y most, bB y, F]) (fun _ => True) (fun _ => 0) () trivial (by repeat (first | exact Ent.nil | refine Ent.per (by repeat (first | with_reducible exact Sel.here | with_reducible apply Sel.there)) ?_ | refine Ent.cons (by repeat (first | with_reducible exact Sel.here | with_reducible apply Sel.there)) ?_)) ?_
  rintro _ _ _
  refine go_ ?_
  refine s_if (fun h5 => ?_) (fun h5 => ?_)
  · exact absurd h5 (by omega)
  refine go_ ?_
  refine s_look (lk_min ((i : Nat) : Int)) ?_
  refine go_ ?_
  refine s_know (a := Nd3 L u) (by repeat (first | with_reducible exact Sel.here | with_reducible apply Sel.there)) (SA.cap) fun hcap => ?_
  refine s_look (lk_slc i L.kids.length (cap := u.d) (by omega) hcap) ?_
  refine s_part i L.kids.length (by omega) (Nat.le_refl _) (a := u.b) (cap := u.d) (m := L.kids.length) (by repeat (first | with_reducible exact Sel.here | with_reducible apply Sel.there)) ?_
  refine go_ ?_
  refine s_loop (fun q : Nat × List Item × List Int => [(2, .pointer (some ⟨y.w, 0, none⟩)), (3, .pointer (some ⟨y.fr, 0, none⟩)), (4, .pointer (some ⟨y.to, 0, none⟩)), (5, .pointer (some ⟨y.out, 0, none⟩)), (6, .pointer (some ⟨y.most, 0, none⟩)), (7, .pointer (some ⟨y.below, 0, none⟩)), (11, .pointer (some ⟨r11, 0, none⟩)), (71, .slice (sladdr u.b 4 i u.d) (L.kids.length - i) (u.d - i)), (72, .int .i64 (L.kids.length - i : Nat)), (73, .int .i64 q.1)])
    (fun q => [OutA y.out q.2.1, SA none 4 (.slice (sladdr u.b 4 i u.d) (L.kids.length - i) (u.d - i)) (L.kids.length - i) (fun j => kidRow L.kids (i + j)), Box r11 88 [.int .i64 L.level, .slice u.a L.items.length u.c, .slice u.b L.kids.length u.d], Wk y.wk p q.2.2, PP, bW y, bF y fr, bT y to, bM y most, bB y, F])
    (fun q => q.1 ≤ L.kids.length - i ∧ q.2.1.length ≤ out.length + q.1 * X ∧ q.2.2.length ≤ path.length + 1 + q.1 * X ∧ scanKidsE to most RC (L.kids.drop (i + q.1)) q.2.1 = scanKidsE to most RC (L.kids.drop i) out) (fun q => L.kids.length - i - q.1) (0, out, path ++ [k]) ⟨Nat.zero_le _, by simp, by simp, rfl⟩ (by repeat (first | exact Ent.nil | refine Ent.per (by repeat (first | with_reducible exact Sel.here | with_reducible apply Sel.there)) ?_ | refine Ent.cons (by repeat (first | with_reducible exact Sel.here | with_reducible apply Sel.there)) ?_)) ?_
  rintro ⟨j, oj, pj⟩ ⟨hj, hlo, hpj, he⟩ next
  dsimp only at hj hlo hpj he next ⊢
  have hjX : j * X ≤ 12 * X := Nat.mul_le_mul_right X (by omega)
  refine go_ ?_
  refine s_if (fun h6 => ?_) (fun h6 => ?_)
  · have hj2 : i + j < L.kids.length := by omega
    have hjX2 : j * X ≤ 11 * X := Nat.mul_le_mul_right X (by omega)
    have hx : L.kids.getD (i + j) default = L.kids[i + j] := by simp [List.getD_eq_getElem?_getD, hj2]
    rw [List.drop_eq_getElem_cons hj2, ← hx, scanKidsE] at he
    refine go_ ?_
    refine s_alloc fun r18 => ?_
    refine s_opn (φ := fun _ : Option Addr × Nat × (Nat → Option Addr × Nat) => True) (X := Out.parts y.out oj) (by repeat (first | with_reducible exact Sel.here | with_reducible apply Sel.there)) fun q hq => ?_
    obtain ⟨a, c, w⟩ := q
    unfold Out.parts
    refine s_nrm ?_
    refine go_ ?_
    refine s_call (sp := (by repeat (first | exact Split.nil | apply Split.perx (by repeat (first | with_reducible exact Sel.here | with_reducible apply Sel.there)) (by infer_instance) | apply Split.cons (by repeat (first | with_reducible exact Sel.here | with_reducible apply Sel.there))))) (hs := less_ok to (L.kids.getD (i + j) default).key) (h := ?_)
    rintro v Bs ⟨rfl, rfl⟩
    cases hlt : to.lt (L.kids.getD (i + j) default).key with
    | true =>
      refine go_ ?_
      refine s_cls (φ := fun _ : Option Addr × Nat × (Nat → Option Addr × Nat) => True) (X := Out.parts y.out oj) (a, c, w) trivial (by repeat (first | exact Split.nil | apply Split.perx (by repeat (first | with_reducible exact Sel.here | with_reducible apply Sel.there)) (by infer_instance) | apply Split.cons (by repeat (first | with_reducible exact Sel.here | with_reducible apply Sel.there)))) ?_
      rw [if_pos (by unfold scanStop; rw [hlt]; rfl)] at he
      rw [← he]
      exact s_ret1 (rs := [.tmp 10]) Tryz.func51 rfl (by intro j; refine RVS.tmp _ rfl ?_; exact RVS.nil) (.inl ⟨_, pj, rfl, rfl, by omega, by omega, rfl⟩) (by repeat (first | exact Ent.nil | refine Ent.per (by repeat (first | with_reducible exact Sel.here | with_reducible apply Sel.there)) ?_ | refine Ent.cons (by repeat (first | with_reducible exact Sel.here | with_reducible apply Sel.there)) ?_))
    | false =>
      refine go_ ?_
      cases hm : decide ((oj.length : Int) ≥ most) with
      | true =>
        refine go_ ?_
        refine s_cls (φ := fun _ : Option Addr × Nat × (Nat → Option Addr × Nat) => True) (X := Out.parts y.out oj) (a, c, w) trivial (by repeat (first | exact Split.nil | apply Split.perx (by repeat (first | with_reducible exact Sel.here | with_reducible apply Sel.there)) (by infer_instance) | apply Split.cons (by repeat (first | with_reducible exact Sel.here | with_reducible apply Sel.there)))) ?_
        rw [if_pos (by unfold scanStop; rw [hlt, hm]; rfl)] at he
        rw [← he]
        exact s_ret1 (rs := [.tmp 10]) Tryz.func51 rfl (by intro j; refine RVS.tmp _ rfl ?_; exact RVS.nil) (.inl ⟨_, pj, rfl, rfl, by omega, by omega, rfl⟩) (by repeat (first | exact Ent.nil | refine Ent.per (by repeat (first | with_reducible exact Sel.here | with_reducible apply Sel.there)) ?_ | refine Ent.cons (by repeat (first | with_reducible exact Sel.here | with_reducible apply Sel.there)) ?_))
      | false =>
        rw [if_neg (by unfold scanStop; rw [hlt, hm]; decide)] at he
        refine go_ ?_
        refine s_cls (φ := fun _ : Option Addr × Nat × (Nat → Option Addr × Nat) => True) (X := Out.parts y.out oj) (a, c, w) trivial (by repeat (first | exact Split.nil | apply Split.perx (by repeat (first | with_reducible exact Sel.here | with_reducible apply Sel.there)) (by infer_instance) | apply Split.cons (by repeat (first | with_reducible exact Sel.here | with_reducible apply Sel.there)))) ?_
        rw [show L.level - 1 = (h : Nat) by rw [hl0]; omega]
        refine go_ ?_
        refine s_step (st_callC (sp := (by repeat (first | exact Split.nil | apply Split.perx (by repeat (first | with_reducible exact Sel.here | with_reducible apply Sel.there)) (by infer_instance) | apply Split.cons (by repeat (first | with_reducible exact Sel.here | with_reducible apply Sel.there))))) (hs := ih (L.kids.getD (i + j) default).addr (h : Nat) oj pj (fun x hx => atR_lv hx (by omega)) (by omega) (by omega))) ?_
        rintro v Bs ⟨Cs, (⟨o1, p1, hq1, rfl, hl1, hp1, rfl⟩ | ⟨e, o1, p1, hq1, he1, rfl, rfl⟩), rfl⟩
        · rw [hRC2] at hq1
          rw [hq1] at he
          refine go_ ?_
          have hjs : (j + 1) * X = j * X + X := Nat.succ_mul j X
          exact s_entF (by repeat (first | exact Ent.nil | refine Ent.per (by repeat (first | with_reducible exact Sel.here | with_reducible apply Sel.there)) ?_ | refine Ent.cons (by repeat (first | with_reducible exact Sel.here | with_reducible apply Sel.there)) ?_)) (s_keep _ (next (j + 1, o1, p1) ⟨by dsimp only; omega, by dsimp only; omega, by dsimp only; omega, by rw [← he]; rfl⟩ (by dsimp only; omega)))
        · rw [hRC2] at hq1
          rw [hq1] at he
          rw [← he]
          refine go_ ?_
          rw [show (((e : Nat) : Int) != 0) = true by simp; omega]
          refine go_ ?_
          exact s_ret1 (rs := [.tmp 10]) Tryz.func51 rfl (by intro j; refine RVS.tmp _ rfl ?_; exact RVS.nil) (.inr ⟨e, o1, p1, rfl, he1, rfl, rfl⟩) (by repeat (first | exact Ent.nil | refine Ent.per (by repeat (first | with_reducible exact Sel.here | with_reducible apply Sel.there)) ?_ | refine Ent.cons (by repeat (first | with_reducible exact Sel.here | with_reducible apply Sel.there)) ?_))
  · rw [show L.kids.drop (i + j) = [] from List.drop_eq_nil_of_le (by omega), scanKidsE] at he
    rw [← he]
    refine go_ ?_
    exact s_ret1 (rs := [.tmp 10]) Tryz.func51 rfl (by intro j; refine RVS.tmp _ rfl ?_; exact RVS.nil) (.inl ⟨_, pj, rfl, rfl, by omega, by omega, rfl⟩) (by repeat (first | exact Ent.nil | refine Ent.per (by repeat (first | with_reducible exact Sel.here | with_reducible apply Sel.there)) ?_ | refine Ent.cons (by repeat (first | with_reducible exact Sel.here | with_reducible apply Sel.there)) ?_))
theorem gscan1_c {PP : HP} {p : Nat} {rd : Int → Except Nat Node} (hR : NdC PP p rd) (y : ScB) (fr to : Key) (most : Int) : ∀ (h : Nat) (k lv : Int) (out : List Item) (path : List Int), (∀ x, atR rd k lv = .ok x → x.level = (h : Nat)) → path.length + 13 ^ (h + 1) < 900000000000 → out.length + 13 ^ (h + 1) < 900000000000 → ScanD PP p rd y fr to most h k lv out path
  | 0, k, lv, out, path, hlv, hp, ho => gscan0_c hR y fr to most k lv out path hlv (by omega) (by omega)
  | h + 1, k, lv, out, path, hlv, hp, ho => gscanS_c hR y fr to most h (fun k lv out path => gscan1_c hR y fr to most h k lv out path) k lv out path hlv hp ho
theorem pow8 {h : Nat} (hh : h ≤ 7) : 13 ^ (h + 1) < 900000000000 := Nat.lt_of_le_of_lt (Nat.pow_le_pow_right (by decide) (show h + 1 ≤ 8 by omega)) (by decide)
theorem emp_rowE {w : Nat → Option Addr × Nat} (H M : Heap) : (Sat [SO 51 4 (.slice none ([] : List Item).length 0) ([] : List Item).length (itemRow w []), Fam ([] : List Item).length (itemFam w [])]).p H M :=
  ⟨fun _ => none, M, (fun _ _ h => nomatch h), Le.refl _, fun _ => .inl rfl, .inr ⟨rfl, none, rfl⟩, per_add (M0 := M) (fun i hi => absurd hi (Nat.not_lt_zero _)) trivial⟩
/-- what Scan tells -/
def scanG (rd : Int → Except Nat Node) (fr to : Key) (most : Int) (k : Int) : Except Nat (List Item) := if k = 0 ∨ most < 1 then .ok [] else scanR rd fr to most k (-1) []
set_option maxHeartbeats 4000000 in
theorem gscan_c {PP : HP} {p : Nat} {rd : Int → Except Nat Node} (hR : NdC PP p rd) (k : Int) (hO : ∀ x, rd k = .ok x → nodeOk x = true) (fr to : Key) (most : Int) : Ctr Tryz.prog 20 [.pointer (some ⟨p, 0, none⟩), .int .i64 k, fr.v, to.v, .int .i64 most] [PP]
    (fun v Bs => (∃ o a c w, scanG rd fr to most k = .ok o ∧ o.length < 900000000000 ∧ v = .tuple #[.slice a o.length c, .int .i64 0] ∧ Bs = [PP, SO 51 4 (.slice a o.length c) o.length (itemRow w o), Fam o.length (itemFam w o)]) ∨
      (∃ e : Nat, scanG rd fr to most k = .error e ∧ e ≠ 0 ∧ v = .tuple #[.slice none 0 0, .int .i64 e] ∧ Bs = [PP])) := by
  by_cases h0 : k = 0 ∨ most < 1
  · have e : scanG rd fr to most k = .ok [] := by unfold scanG; rw [if_pos h0]
    rw [e]
    refine Ctr.post ((scanNone_c p k fr to most h0).frame [PP]) fun v Bs ⟨Cs, ⟨hv, hc⟩, hb⟩ => ⟨_, .inl ⟨[], none, 0, fun _ => (none, 0), rfl, by decide, hv, rfl⟩, fun H M q => ?_⟩
    subst hc; subst hb
    exact star_mono (fun H M _ => emp_rowE H M) q
  have hk : k ≠ 0 := fun e => h0 (.inl e)
  have hm : 1 ≤ most := by
    have : ¬ most < 1 := fun e => h0 (.inr e)
    omega
  have e : scanG rd fr to most k = scanR rd fr to most k (-1) [] := by unfold scanG; rw [if_neg h0]
  rw [e]
  obtain ⟨h, hh, hlv⟩ : ∃ h : Nat, h ≤ 7 ∧ ∀ x, atR rd k (-1) = .ok x → x.level = (h : Nat) := by
    cases hA : atR rd k (-1) with
    | error e => exact ⟨0, by decide, fun x hx => nomatch hx⟩
    | ok x =>
      have h1 : rd k = .ok x := by
        unfold atR at hA
        cases hr : rd k with
        | error e => rw [hr] at hA; cases hA
        | ok y =>
          rw [hr] at hA; dsimp only at hA
          split at hA
          · cases hA
          · exact hA
      have := nodeOk_lv (hO x h1)
      exact ⟨x.level.toNat, by omega, fun y hy => by cases hy; omega⟩
  have hP := pow8 hh
  refine s_enter 33 [(0, _), (1, _), (2, _), (3, _), (4, _)] (fun F => [_, F]) Tryz.func20 fun F => ?_
  refine go_ ?_
  refine s_box fun r7 => ?_
  refine s_box fun r8 => ?_
  refine s_box fun r9 => ?_
  refine go_ ?_
  refine s_alloc fun r12 => ?_
  refine go_ ?_
  refine s_box fun r1 => ?_
  refine s_alloc fun r13 => ?_
  refine go_ ?_
  refine s_alloc fun r14 => ?_
  refine go_ ?_
  refine s_look lk_mkf6 ?_
  refine go_ ?_
  refine s_wk0 (r := r1) (p := p) (by repeat (first | with_reducible exact Sel.here | with_reducible apply Sel.there)) ?_
  refine s_out0 (r := r12) (by repeat (first | with_reducible exact Sel.here | with_reducible apply Sel.there)) ?_
  refine go_ ?_
  rw [show (k == 0) = false by simpa using hk]
  refine go_ ?_
  rw [show decide (most < 1) = false from decide_eq_false (by omega)]
  refine go_ ?_
  refine s_step (st_callC (sp := (by repeat (first | exact Split.nil | apply Split.perx (by repeat (first | with_reducible exact Sel.here | with_reducible apply Sel.there)) (by infer_instance) | apply Split.cons (by repeat (first | with_reducible exact Sel.here | with_reducible apply Sel.there))))) (hs := gscan1_c hR ⟨r13, r7, r8, r12, r9, r14, r1⟩ fr to most h k (-1) [] [] hlv (by simp; omega) (by simp; omega))) ?_
  rintro v Bs ⟨Cs, (⟨o, p1, hS, rfl, hl1, hp1, rfl⟩ | ⟨e, o, p1, hS, he, rfl, rfl⟩), rfl⟩
  · rw [hS]
    refine go_ ?_
    refine s_opn (φ := fun _ : Option Addr × Nat × (Nat → Option Addr × Nat) => True) (X := Out.parts r12 o) (by repeat (first | with_reducible exact Sel.here | with_reducible apply Sel.there)) fun q hq => ?_
    obtain ⟨a, c, w⟩ := q
    unfold Out.parts
    refine s_nrm ?_
    refine go_ ?_
    exact s_rett (rs := [.tmp 10, .tmp 11]) (vs := [_, _]) Tryz.func20 rfl (by intro j; refine RVS.tmp _ rfl ?_; refine RVS.tmp _ rfl ?_; exact RVS.nil) rfl (.inl ⟨o, a, c, w, rfl, by have h00 : ([] : List Item).length = 0 := rfl; omega, rfl, rfl⟩) (by repeat (first | exact Ent.nil | refine Ent.per (by repeat (first | with_reducible exact Sel.here | with_reducible apply Sel.there)) ?_ | refine Ent.cons (by repeat (first | with_reducible exact Sel.here | with_reducible apply Sel.there)) ?_))
  · rw [hS]
    refine go_ ?_
    rw [show (((e : Nat) : Int) != 0) = true by simp; omega]
    refine go_ ?_
    exact s_rett (rs := [.tmp 10, .tmp 11]) (vs := [_, _]) Tryz.func20 rfl (by intro j; refine RVS.tmp _ rfl ?_; refine RVS.tmp _ rfl ?_; exact RVS.nil) rfl (.inr ⟨e, rfl, he, rfl, rfl⟩) (by repeat (first | exact Ent.nil | refine Ent.per (by repeat (first | with_reducible exact Sel.here | with_reducible apply Sel.there)) ?_ | refine Ent.cons (by repeat (first | with_reducible exact Sel.here | with_reducible apply Sel.there)) ?_))
end Go.Proofs.YtgbbcpfnmkeijaaGreat
/- The plain law of the sum: a block of which one byte differs is none. -/
namespace Go.Proofs.YtgbbcpfnmkeijaaGreat
open Go.Cam
set_option maxRecDepth 100000
theorem xor_back (a b : Nat) : a ^^^ b ^^^ b = a := by rw [Nat.xor_assoc, Nat.xor_self, Nat.xor_zero]
theorem xor_inj {a b c : Nat} (h : a ^^^ c = b ^^^ c) : a = b := by rw [← xor_back a c, h, xor_back]
theorem xor_injL {a b c : Nat} (h : c ^^^ a = c ^^^ b) : a = b := xor_inj (c := c) (by rw [Nat.xor_comm a c, Nat.xor_comm b c]; exact h)
theorem nib_top : ∀ i, i < 16 → ∀ j, j < 16 → nib i / 268435456 = nib j / 268435456 → i = j := by decide +kernel
theorem crcH_inj {x y : Nat} (hx : x < 4294967296) (hy : y < 4294967296) (h : crcH x = crcH y) : x = y := by
  have e15 : ∀ z : Nat, z &&& 15 = z % 16 := fun z => Nat.and_two_pow_sub_one_eq_mod z 4
  unfold crcH at h
  have h1 : (x / 2 ^ 4 ^^^ nib (x &&& 15)) / 2 ^ 28 = (y / 2 ^ 4 ^^^ nib (y &&& 15)) / 2 ^ 28 := by rw [h]
  rw [Nat.xor_div_two_pow, Nat.xor_div_two_pow, show x / 2 ^ 4 / 2 ^ 28 = 0 by omega, show y / 2 ^ 4 / 2 ^ 28 = 0 by omega, Nat.zero_xor, Nat.zero_xor] at h1
  have h2 := nib_top _ (and15_lt x) _ (and15_lt y) h1
  rw [h2] at h
  have h3 := xor_inj h
  rw [e15, e15] at h2
  omega
theorem crcS_inj {r s c d : Nat} (hr : r < 4294967296) (hs : s < 4294967296) (hc : c < 256) (hd : d < 256) (h : crcS r c = crcS s d) : r ^^^ c = s ^^^ d := by
  have h1 : r ^^^ c < 4294967296 := Nat.xor_lt_two_pow (n := 32) (by omega) (by omega)
  have h2 : s ^^^ d < 4294967296 := Nat.xor_lt_two_pow (n := 32) (by omega) (by omega)
  exact crcH_inj h1 h2 (crcH_inj (crcH_lt h1) (crcH_lt h2) h)
theorem fold_inj : ∀ (l : List Nat) {r s : Nat}, Bys l → r < 4294967296 → s < 4294967296 → l.foldl crcS r = l.foldl crcS s → r = s
  | [], _, _, _, _, _, h => h
  | c :: l, r, s, hb, hr, hs, h => by
    have hc := hb c (List.mem_cons_self ..)
    have h1 := fold_inj l (fun x hx => hb x (List.mem_cons_of_mem _ hx)) (crcS_lt hr hc) (crcS_lt hs hc) h
    exact xor_inj (crcS_inj hr hs hc hc h1)
theorem sum_turn (a b : List Nat) {c d : Nat} (ha : Bys a) (hb : Bys b) (hc : c < 256) (hd : d < 256) (h : sumB (a ++ c :: b) = sumB (a ++ d :: b)) : c = d := by
  have h1 : (a ++ c :: b).foldl crcS (notN 0) = (a ++ d :: b).foldl crcS (notN 0) := xor_injL h
  have hr := fold_lt a (notN 0) ha (notN_lt (by decide))
  rw [List.foldl_append, List.foldl_append, List.foldl_cons, List.foldl_cons] at h1
  generalize a.foldl crcS (notN 0) = r at *
  have h2 := fold_inj b hb (crcS_lt hr hc) (crcS_lt hr hd) h1
  exact xor_injL (crcS_inj hr hr hc hd h2)
theorem numB_cons (c : Nat) : ∀ (l : List Nat), numB (c :: l) = c * 256 ^ l.length + numB l := by
  have key : ∀ (l : List Nat) (a : Nat), l.foldl (fun a c => a * 256 + c) a = a * 256 ^ l.length + l.foldl (fun a c => a * 256 + c) 0 := by
    intro l
    induction l with
    | nil => intro a; simp
    | cons d l ih =>
      intro a
      rw [List.foldl_cons, List.foldl_cons, ih, ih (0 * 256 + d), List.length_cons, Nat.pow_succ, Nat.zero_mul, Nat.zero_add, Nat.add_mul, Nat.mul_assoc, Nat.mul_comm 256, Nat.add_assoc]
  intro l
  unfold numB
  rw [List.foldl_cons, key, Nat.zero_mul, Nat.zero_add]
theorem num_turn : ∀ (a b : List Nat) {c d : Nat}, numB (a ++ c :: b) = numB (a ++ d :: b) → c = d
  | [], b, c, d, h => by
    rw [List.nil_append, List.nil_append, numB_cons, numB_cons] at h
    have h1 : c * 256 ^ b.length = d * 256 ^ b.length := by omega
    exact Nat.eq_of_mul_eq_mul_right (Nat.pow_pos (by decide)) h1
  | x :: a, b, c, d, h => by
    rw [List.cons_append, List.cons_append, numB_cons, numB_cons, List.length_append, List.length_append, List.length_cons, List.length_cons] at h
    exact num_turn a b (by omega)
/-- a block of which one byte differs is no block -/
theorem open_turn {l : List Nat} (hb : Bys l) (ho : openOk l) {i d : Nat} (hi : i < l.length) (hd : d < 256) (hne : d ≠ l.getD i 0) : ¬ openOk (l.set i d) := by
  have hl : l.getD i 0 = l[i] := by simp [List.getD_eq_getElem?_getD, hi]
  rw [hl] at hne
  have hc : l[i] < 256 := hb _ (List.getElem_mem hi)
  have e1 : l = l.take i ++ l[i] :: l.drop (i + 1) := by rw [List.getElem_cons_drop, List.take_append_drop]
  have e2 : l.set i d = l.take i ++ d :: l.drop (i + 1) := by rw [List.set_eq_take_append_cons_drop, if_pos hi]
  intro hq
  have h1 := ho.2.1
  have h2 := hq.2.1
  by_cases h4 : i < 4
  · have e3 : (l.set i d).drop 4 = l.drop 4 := by rw [List.drop_set, if_pos h4]
    rw [e3] at h2
    rw [← h1] at h2
    have e4 : l.take 4 = l.take i ++ l[i] :: (l.drop (i + 1)).take (3 - i) := by
      conv => lhs; rw [e1]
      rw [List.take_append, List.length_take, Nat.min_eq_left (by omega), List.take_of_length_le (by rw [List.length_take]; omega), show 4 - i = (3 - i) + 1 by omega, List.take_succ_cons]
    have e5 : (l.set i d).take 4 = l.take i ++ d :: (l.drop (i + 1)).take (3 - i) := by
      rw [e2, List.take_append, List.length_take, Nat.min_eq_left (by omega), List.take_of_length_le (by rw [List.length_take]; omega), show 4 - i = (3 - i) + 1 by omega, List.take_succ_cons]
    rw [e4, e5] at h2
    exact hne (num_turn _ _ h2)
  · have e3 : (l.set i d).take 4 = l.take 4 := by rw [List.take_set, List.set_eq_of_length_le (by rw [List.length_take]; omega)]
    rw [e3, h1] at h2
    have e4 : l.drop 4 = (l.drop 4).take (i - 4) ++ l[i] :: l.drop (i + 1) := by
      conv => lhs; rw [← List.take_append_drop (i - 4) (l.drop 4)]
      rw [List.drop_drop, show 4 + (i - 4) = i by omega, List.drop_eq_getElem_cons hi]
    have e5 : (l.set i d).drop 4 = (l.drop 4).take (i - 4) ++ d :: l.drop (i + 1) := by
      rw [List.drop_set, if_neg h4]
      conv => lhs; rw [e4]
      rw [List.set_append_right _ _ (by rw [List.length_take, List.length_drop]; omega)]
      rw [List.length_take, List.length_drop, Nat.min_eq_left (by omega), Nat.sub_self]; rfl
    rw [e4, e5] at h2
    exact hne (sum_turn _ _ (fun x hx => hb x (List.mem_of_mem_drop (List.mem_of_mem_take hx))) (fun x hx => hb x (List.mem_of_mem_drop hx)) hc hd h2).symm
end Go.Proofs.YtgbbcpfnmkeijaaGreat
