/- The table of processes as the program keeps it, in cells. -/
import Derived.Test.YtimaipclgmcekaaCamD
namespace Go.Cam
structure Opn where
  kind : Int
  label : ByteArray
  ino : Int
  off : Int
  flags : Int
  pipe : Int
  writer : Bool
def Opn.zero : Opn := ⟨0, ByteArray.empty, 0, 0, 0, 0, false⟩
def Opn.vals (x : Opn) : Array Value := #[.int .i64 x.kind, .string x.label, .int .i64 x.ino, .int .i64 x.off, .int .i64 x.flags, .int .i64 x.pipe, .bool x.writer]
def Opn.cell (x : Opn) (r : Nat) : Value :=
  if r = 0 then .int .i64 x.kind else if r = 1 then .string x.label else if r = 2 then .int .i64 x.ino else if r = 3 then .int .i64 x.off
  else if r = 4 then .int .i64 x.flags else if r = 5 then .int .i64 x.pipe else .bool x.writer
structure Tb where
  st : Nat → Int
  par : Nat → Int
  code : Nat → Int
  fd : Nat → Nat → Int
  op : Nat → Opn
  us : Nat → Int
namespace Tb
def cell (T : Tb) (o : Nat) : Value :=
  if o < 99 then (if o % 11 = 0 then .int .i64 (T.st (o / 11)) else if o % 11 = 1 then .int .i64 (T.par (o / 11)) else if o % 11 = 2 then .int .i64 (T.code (o / 11))
    else .int .i64 (T.fd (o / 11) (o % 11 - 3)))
  else if (o - 99) % 8 = 7 then .int .i64 (T.us ((o - 99) / 8)) else (T.op ((o - 99) / 8)).cell ((o - 99) % 8)
abbrev obj (T : Tb) : Obj := .cells (tab 227 T.cell) 66 (0, 0)
def setSt (T : Tb) (p : Nat) (v : Int) : Tb := { T with st := fun q => if q = p then v else T.st q }
def setPar (T : Tb) (p : Nat) (v : Int) : Tb := { T with par := fun q => if q = p then v else T.par q }
def setCode (T : Tb) (p : Nat) (v : Int) : Tb := { T with code := fun q => if q = p then v else T.code q }
def setFd (T : Tb) (p f : Nat) (v : Int) : Tb := { T with fd := fun q g => if q = p ∧ g = f then v else T.fd q g }
def setFds (T : Tb) (p : Nat) (v : Nat → Int) : Tb := { T with fd := fun q g => if q = p then v g else T.fd q g }
def setOp (T : Tb) (n : Nat) (x : Opn) : Tb := { T with op := fun m => if m = n then x else T.op m }
def setUs (T : Tb) (n : Nat) (v : Int) : Tb := { T with us := fun m => if m = n then v else T.us m }
variable (T : Tb)
def zero : Tb := ⟨fun _ => 0, fun _ => 0, fun _ => 0, fun _ _ => 0, fun _ => Opn.zero, fun _ => 0⟩
theorem cell_one (o : Nat) : one (T.cell o) = true := by
  unfold cell Opn.cell
  repeat (first | rfl | split)
theorem cell_st {o : Nat} (p : Nat) (h : o = p * 11) (hp : p < 9) : T.cell o = .int .i64 (T.st p) := by
  subst h; unfold cell
  rw [if_pos (by omega), if_pos (by omega), show p * 11 / 11 = p by omega]
theorem cell_par {o : Nat} (p : Nat) (h : o = p * 11 + 1) (hp : p < 9) : T.cell o = .int .i64 (T.par p) := by
  subst h; unfold cell
  rw [if_pos (by omega), if_neg (by omega), if_pos (by omega), show (p * 11 + 1) / 11 = p by omega]
theorem cell_code {o : Nat} (p : Nat) (h : o = p * 11 + 2) (hp : p < 9) : T.cell o = .int .i64 (T.code p) := by
  subst h; unfold cell
  rw [if_pos (by omega), if_neg (by omega), if_neg (by omega), if_pos (by omega), show (p * 11 + 2) / 11 = p by omega]
theorem cell_fd {o : Nat} (p f : Nat) (h : o = p * 11 + 3 + f) (hp : p < 9) (hf : f < 8) : T.cell o = .int .i64 (T.fd p f) := by
  subst h; unfold cell
  rw [if_pos (by omega), if_neg (by omega), if_neg (by omega), if_neg (by omega), show (p * 11 + 3 + f) / 11 = p by omega, show (p * 11 + 3 + f) % 11 - 3 = f by omega]
theorem cell_op {o : Nat} (n r : Nat) (h : o = 99 + n * 8 + r) (hr : r < 7) : T.cell o = (T.op n).cell r := by
  subst h; unfold cell
  rw [if_neg (by omega), if_neg (by omega), show (99 + n * 8 + r - 99) / 8 = n by omega, show (99 + n * 8 + r - 99) % 8 = r by omega]
theorem cell_us {o : Nat} (n : Nat) (h : o = 99 + n * 8 + 7) : T.cell o = .int .i64 (T.us n) := by
  subst h; unfold cell
  rw [if_neg (by omega), if_pos (by omega), show (99 + n * 8 + 7 - 99) / 8 = n by omega]
theorem get_st {o : Nat} (p : Nat) (h : o = p * 11) (hp : p < 9) : (tab 227 T.cell)[o]? = some (.int .i64 (T.st p)) := by
  rw [tab_get (by omega), T.cell_st p h hp]
theorem get_par {o : Nat} (p : Nat) (h : o = p * 11 + 1) (hp : p < 9) : (tab 227 T.cell)[o]? = some (.int .i64 (T.par p)) := by
  rw [tab_get (by omega), T.cell_par p h hp]
theorem get_code {o : Nat} (p : Nat) (h : o = p * 11 + 2) (hp : p < 9) : (tab 227 T.cell)[o]? = some (.int .i64 (T.code p)) := by
  rw [tab_get (by omega), T.cell_code p h hp]
theorem get_fd {o : Nat} (p f : Nat) (h : o = p * 11 + 3 + f) (hp : p < 9) (hf : f < 8) : (tab 227 T.cell)[o]? = some (.int .i64 (T.fd p f)) := by
  rw [tab_get (by omega), T.cell_fd p f h hp hf]
theorem get_us {o : Nat} (n : Nat) (h : o = 99 + n * 8 + 7) (hn : n < 16) : (tab 227 T.cell)[o]? = some (.int .i64 (T.us n)) := by
  rw [tab_get (by omega), T.cell_us n h]
theorem ext_fds {o : Nat} (p : Nat) (h : o = p * 11 + 3) (hp : p < 9) : (tab 227 T.cell).extract o (o + 8) = tab 8 (fun k => .int .i64 (T.fd p k)) := by
  rw [extract_tab (by omega)]
  exact tab_ext fun i hi => T.cell_fd p i (by omega) hp hi
theorem ext_op {o : Nat} (n : Nat) (h : o = 99 + n * 8) (hn : n < 16) : (tab 227 T.cell).extract o (o + 7) = (T.op n).vals := by
  rw [extract_tab (by omega), tab_ext (g := fun i => (T.op n).cell i) fun i hi => T.cell_op n i (by omega) hi]
  rfl
theorem same_setSt {p : Nat} {v : Int} {i : Nat} (h : i ≠ p * 11) : T.cell i = (T.setSt p v).cell i := by
  unfold cell setSt; dsimp only
  by_cases a : i < 99
  · rw [if_pos a, if_pos a]
    by_cases b : i % 11 = 0
    · rw [if_pos b, if_pos b, if_neg (by omega)]
    · rw [if_neg b, if_neg b]
  · rw [if_neg a, if_neg a]
theorem same_setPar {p : Nat} {v : Int} {i : Nat} (h : i ≠ p * 11 + 1) : T.cell i = (T.setPar p v).cell i := by
  unfold cell setPar; dsimp only
  by_cases a : i < 99
  · rw [if_pos a, if_pos a]
    by_cases b : i % 11 = 0
    · rw [if_pos b, if_pos b]
    · rw [if_neg b, if_neg b]
      by_cases c : i % 11 = 1
      · rw [if_pos c, if_pos c, if_neg (by omega)]
      · rw [if_neg c, if_neg c]
  · rw [if_neg a, if_neg a]
theorem same_setCode {p : Nat} {v : Int} {i : Nat} (h : i ≠ p * 11 + 2) : T.cell i = (T.setCode p v).cell i := by
  unfold cell setCode; dsimp only
  by_cases a : i < 99
  · rw [if_pos a, if_pos a]
    by_cases b : i % 11 = 0
    · rw [if_pos b, if_pos b]
    · rw [if_neg b, if_neg b]
      by_cases c : i % 11 = 1
      · rw [if_pos c, if_pos c]
      · rw [if_neg c, if_neg c]
        by_cases d : i % 11 = 2
        · rw [if_pos d, if_pos d, if_neg (by omega)]
        · rw [if_neg d, if_neg d]
  · rw [if_neg a, if_neg a]
theorem same_setFd {p f : Nat} {v : Int} {i : Nat} (h : i ≠ p * 11 + 3 + f) : T.cell i = (T.setFd p f v).cell i := by
  unfold cell setFd; dsimp only
  by_cases a : i < 99
  · rw [if_pos a, if_pos a]
    by_cases b : i % 11 = 0
    · rw [if_pos b, if_pos b]
    · rw [if_neg b, if_neg b]
      by_cases c : i % 11 = 1
      · rw [if_pos c, if_pos c]
      · rw [if_neg c, if_neg c]
        by_cases d : i % 11 = 2
        · rw [if_pos d, if_pos d]
        · rw [if_neg d, if_neg d, if_neg (by omega)]
  · rw [if_neg a, if_neg a]
theorem same_setUs {n : Nat} {v : Int} {i : Nat} (h : i ≠ 99 + n * 8 + 7) : T.cell i = (T.setUs n v).cell i := by
  unfold cell setUs; dsimp only
  by_cases a : i < 99
  · rw [if_pos a, if_pos a]
  · rw [if_neg a, if_neg a]
    by_cases b : (i - 99) % 8 = 7
    · rw [if_pos b, if_pos b, if_neg (by omega)]
    · rw [if_neg b, if_neg b]
theorem same_setOp {n : Nat} {x : Opn} {i : Nat} (h : i < 99 + n * 8 ∨ 99 + n * 8 + 7 ≤ i) : T.cell i = (T.setOp n x).cell i := by
  unfold cell setOp; dsimp only
  by_cases a : i < 99
  · rw [if_pos a, if_pos a]
  · rw [if_neg a, if_neg a]
    by_cases b : (i - 99) % 8 = 7
    · rw [if_pos b, if_pos b]
    · rw [if_neg b, if_neg b, if_neg (by omega)]
theorem put_st {o : Nat} {v : Int} (p : Nat) (h : o = p * 11) (hp : p < 9) : setL (tab 227 T.cell) o [.int .i64 v] = tab 227 (T.setSt p v).cell :=
  setL_tab1 (by rw [cell_st _ p h hp]; simp [setSt]) fun i _ hi => T.same_setSt (by omega)
theorem put_par {o : Nat} {v : Int} (p : Nat) (h : o = p * 11 + 1) (hp : p < 9) : setL (tab 227 T.cell) o [.int .i64 v] = tab 227 (T.setPar p v).cell :=
  setL_tab1 (by rw [cell_par _ p h hp]; simp [setPar]) fun i _ hi => T.same_setPar (by omega)
theorem put_code {o : Nat} {v : Int} (p : Nat) (h : o = p * 11 + 2) (hp : p < 9) : setL (tab 227 T.cell) o [.int .i64 v] = tab 227 (T.setCode p v).cell :=
  setL_tab1 (by rw [cell_code _ p h hp]; simp [setCode]) fun i _ hi => T.same_setCode (by omega)
theorem put_fd {o : Nat} {v : Int} (p f : Nat) (h : o = p * 11 + 3 + f) (hp : p < 9) (hf : f < 8) : setL (tab 227 T.cell) o [.int .i64 v] = tab 227 (T.setFd p f v).cell :=
  setL_tab1 (by rw [cell_fd _ p f h hp hf]; simp [setFd]) fun i _ hi => T.same_setFd (by omega)
theorem put_us {o : Nat} {v : Int} (n : Nat) (h : o = 99 + n * 8 + 7) : setL (tab 227 T.cell) o [.int .i64 v] = tab 227 (T.setUs n v).cell :=
  setL_tab1 (by rw [cell_us _ n h]; simp [setUs]) fun i _ hi => T.same_setUs (by omega)
theorem _root_.Go.Cam.Opn.vals_get (x : Opn) {r : Nat} (h : r < 7) : x.vals.toList[r]? = some (x.cell r) := by
  match r, h with
  | 0, _ | 1, _ | 2, _ | 3, _ | 4, _ | 5, _ | 6, _ => rfl
theorem put_op {o : Nat} {x : Opn} (n : Nat) (h : o = 99 + n * 8) : setL (tab 227 T.cell) o x.vals.toList = tab 227 (T.setOp n x).cell := by
  refine setL_tab fun i _ => ?_
  have hl : x.vals.toList.length = 7 := rfl
  rw [hl]
  by_cases hc : o ≤ i ∧ i < o + 7
  · rw [if_pos hc, x.vals_get (by omega), cell_op _ n (i - o) (by omega) (by omega)]
    simp [setOp]
  · rw [if_neg hc, T.same_setOp (x := x) (n := n) (by omega)]
theorem put_file {o : Nat} {x : Opn} {u : Int} (n : Nat) (h : o = 99 + n * 8) : setL (tab 227 T.cell) o (x.vals.toList ++ [.int .i64 u]) = tab 227 ((T.setOp n x).setUs n u).cell := by
  refine setL_tab fun i _ => ?_
  have hl : (x.vals.toList ++ [Value.int .i64 u]).length = 8 := rfl
  rw [hl]
  by_cases hc : o ≤ i ∧ i < o + 8
  · rw [if_pos hc]
    by_cases h7 : i = o + 7
    · subst h7
      rw [cell_us _ n (by omega), show o + 7 - o = 7 by omega]
      simp [setUs]; rfl
    · rw [List.getElem?_append_left (by show i - o < 7; omega), x.vals_get (by omega), ← same_setUs _ (by omega), cell_op _ n (i - o) (by omega) (by omega)]
      simp [setOp]
  · rw [if_neg hc, ← same_setUs _ (by omega), ← T.same_setOp (by omega)]
def setProc (T : Tb) (p : Nat) (s pr c : Int) (g : Nat → Int) : Tb := (((T.setSt p s).setPar p pr).setCode p c).setFds p g
theorem same_setFds {p : Nat} {g : Nat → Int} {i : Nat} (h : i < p * 11 + 3 ∨ p * 11 + 11 ≤ i) : T.cell i = (T.setFds p g).cell i := by
  unfold cell setFds; dsimp only
  by_cases a : i < 99
  · rw [if_pos a, if_pos a]
    by_cases b : i % 11 = 0
    · rw [if_pos b, if_pos b]
    · rw [if_neg b, if_neg b]
      by_cases c : i % 11 = 1
      · rw [if_pos c, if_pos c]
      · rw [if_neg c, if_neg c]
        by_cases d : i % 11 = 2
        · rw [if_pos d, if_pos d]
        · rw [if_neg d, if_neg d, if_neg (by omega)]
  · rw [if_neg a, if_neg a]
theorem put_proc {o : Nat} {s pr c : Int} {g : Nat → Int} (p : Nat) (h : o = p * 11) (hp : p < 9) :
    setL (tab 227 T.cell) o [.int .i64 s, .int .i64 pr, .int .i64 c, .int .i64 (g 0), .int .i64 (g 1), .int .i64 (g 2), .int .i64 (g 3), .int .i64 (g 4), .int .i64 (g 5), .int .i64 (g 6), .int .i64 (g 7)] = tab 227 (T.setProc p s pr c g).cell := by
  refine setL_tab fun i _ => ?_
  simp only [List.length_cons, List.length_nil]
  by_cases hc : o ≤ i ∧ i < o + (0 + 1 + 1 + 1 + 1 + 1 + 1 + 1 + 1 + 1 + 1 + 1)
  · rw [if_pos hc]
    obtain ⟨r, hr, rfl⟩ : ∃ r, r < 11 ∧ i = o + r := ⟨i - o, by omega, by omega⟩
    rw [show o + r - o = r by omega]
    match r, hr with
    | 0, _ => rw [cell_st _ p (by omega) hp]; simp [setProc, setSt, setPar, setCode, setFds]
    | 1, _ => rw [cell_par _ p (by omega) hp]; simp [setProc, setSt, setPar, setCode, setFds]
    | 2, _ => rw [cell_code _ p (by omega) hp]; simp [setProc, setSt, setPar, setCode, setFds]
    | 3, _ => rw [cell_fd _ p 0 (by omega) hp (by omega)]; simp [setProc, setSt, setPar, setCode, setFds]
    | 4, _ => rw [cell_fd _ p 1 (by omega) hp (by omega)]; simp [setProc, setSt, setPar, setCode, setFds]
    | 5, _ => rw [cell_fd _ p 2 (by omega) hp (by omega)]; simp [setProc, setSt, setPar, setCode, setFds]
    | 6, _ => rw [cell_fd _ p 3 (by omega) hp (by omega)]; simp [setProc, setSt, setPar, setCode, setFds]
    | 7, _ => rw [cell_fd _ p 4 (by omega) hp (by omega)]; simp [setProc, setSt, setPar, setCode, setFds]
    | 8, _ => rw [cell_fd _ p 5 (by omega) hp (by omega)]; simp [setProc, setSt, setPar, setCode, setFds]
    | 9, _ => rw [cell_fd _ p 6 (by omega) hp (by omega)]; simp [setProc, setSt, setPar, setCode, setFds]
    | 10, _ => rw [cell_fd _ p 7 (by omega) hp (by omega)]; simp [setProc, setSt, setPar, setCode, setFds]
  · rw [if_neg hc]
    unfold setProc
    rw [← same_setFds _ (by omega), ← same_setCode _ (by omega), ← same_setPar _ (by omega), ← same_setSt _ (by omega)]
end Tb
end Go.Cam
