/-
  No cell of these rows narrows 'for every input' (looked for: loops, veiled, ifaces, maps, wideKeys, modest, calm, conditions, laid).
  DERIVED. THE GIVEN ROWS OF THIS SEAT. 7 by the template 'for every input the law returns true; each argument reads behind the call as it read before'; 0 by the template 'total and deterministic' (their statements: YtgbbcpfnmkeijaaTotals.lean).
  GIVEN WITH THE SEED: the statements are not yours to turn. If you find one false, say at which input.
  Laid BY PROGRAM, IN A SANDBOX (cutbox-rows.mjs): the forced cells as the released guide's own fill.sh prints them over the translation bb2ac4b27de9b843… (all of the seat's roots in one cut). By AI agents, Wed Nov 11 2026. No macro, syntax, notation, axiom, sorry.
-/
import Derived.Test.YtgbbcpfnmkeijaaChecked
import GoSem.Claim
import GoSem.ClaimJoined
import GoSem.ClaimMapViews
import Derived.JoinedTies
import Derived.KernelRfl
namespace Go.Proofs.Ytgbbcpfnmkeijaa
/- THE CELL 'sum', in the pinned program and in every row, IS THE sha256 OF THE DUMP (.gsa) THAT YtgbbcpfnmkeijaaProg.lean LOADS. Nothing in Lean hashes anything: it is a label: what it is worth is what the hold of that sum in a sandbox is worth. -/
noncomputable def Try.pinned : Pinned := { name := "ytgbbcpfnmkeijaa", sum := "bb2ac4b27de9b843a68373558d00996408ea3fa5f14a94e28f9ce36261c49a22", checked := Try.checked }
namespace Rows
def none {H : Type} : Left H := { results := [], args := [] }

/-- 'cambiumlaw10.FindScans': WHATEVER THE INPUT: true; the input reads as it did. -/
def findScansSpec : ChangeSpec := { name := "findScans", fn := fun _ => fun
  | [d1, d2, d3] => { results := [.lit (.bool true)], args := [d1, d2, d3] }
  | _ => none }
def findScansRow : OpenClaim := { program := "ytgbbcpfnmkeijaa", sum := "bb2ac4b27de9b843a68373558d00996408ea3fa5f14a94e28f9ce36261c49a22", func := "cambium/cambiumlaw10.FindScans", spec := "findScans", unfollowed := true, recurses := true, apart := false }
def FindScansSaid : Prop := findScansRow.holds Try.pinned (OpenSpec.ofChange findScansSpec)

/-- ITS FALSE NEIGHBOUR: 'it returns false'. Refute it at one input. -/
def findScansWrong : ChangeSpec := { name := "findScans", fn := fun _ => fun
  | [d1, d2, d3] => { results := [.lit (.bool false)], args := [d1, d2, d3] }
  | _ => none }
def FindScansWrongFalsely : Prop := findScansRow.holds Try.pinned (OpenSpec.ofChange findScansWrong)

/-- 'cambiumlaw10.FindRows': WHATEVER THE INPUT: true; the input reads as it did. -/
def findRowsSpec : ChangeSpec := { name := "findRows", fn := fun _ => fun
  | [d1, d2] => { results := [.lit (.bool true)], args := [d1, d2] }
  | _ => none }
def findRowsRow : OpenClaim := { program := "ytgbbcpfnmkeijaa", sum := "bb2ac4b27de9b843a68373558d00996408ea3fa5f14a94e28f9ce36261c49a22", func := "cambium/cambiumlaw10.FindRows", spec := "findRows", unfollowed := true, recurses := true, apart := false }
def FindRowsSaid : Prop := findRowsRow.holds Try.pinned (OpenSpec.ofChange findRowsSpec)

/-- ITS FALSE NEIGHBOUR: 'it returns false'. Refute it at one input. -/
def findRowsWrong : ChangeSpec := { name := "findRows", fn := fun _ => fun
  | [d1, d2] => { results := [.lit (.bool false)], args := [d1, d2] }
  | _ => none }
def FindRowsWrongFalsely : Prop := findRowsRow.holds Try.pinned (OpenSpec.ofChange findRowsWrong)

/-- 'cambiumlaw10.FindFew': WHATEVER THE INPUT: true; the input reads as it did. -/
def findFewSpec : ChangeSpec := { name := "findFew", fn := fun _ => fun
  | [d1, d2] => { results := [.lit (.bool true)], args := [d1, d2] }
  | _ => none }
def findFewRow : OpenClaim := { program := "ytgbbcpfnmkeijaa", sum := "bb2ac4b27de9b843a68373558d00996408ea3fa5f14a94e28f9ce36261c49a22", func := "cambium/cambiumlaw10.FindFew", spec := "findFew", unfollowed := true, recurses := true, apart := false }
def FindFewSaid : Prop := findFewRow.holds Try.pinned (OpenSpec.ofChange findFewSpec)

/-- ITS FALSE NEIGHBOUR: 'it returns false'. Refute it at one input. -/
def findFewWrong : ChangeSpec := { name := "findFew", fn := fun _ => fun
  | [d1, d2] => { results := [.lit (.bool false)], args := [d1, d2] }
  | _ => none }
def FindFewWrongFalsely : Prop := findFewRow.holds Try.pinned (OpenSpec.ofChange findFewWrong)

/-- 'cambiumlaw10.FindSame': WHATEVER THE INPUT: true; the input reads as it did. -/
def findSameSpec : ChangeSpec := { name := "findSame", fn := fun _ => fun
  | [d1, d2, d3] => { results := [.lit (.bool true)], args := [d1, d2, d3] }
  | _ => none }
def findSameRow : OpenClaim := { program := "ytgbbcpfnmkeijaa", sum := "bb2ac4b27de9b843a68373558d00996408ea3fa5f14a94e28f9ce36261c49a22", func := "cambium/cambiumlaw10.FindSame", spec := "findSame", unfollowed := true, recurses := true, apart := false }
def FindSameSaid : Prop := findSameRow.holds Try.pinned (OpenSpec.ofChange findSameSpec)

/-- ITS FALSE NEIGHBOUR: 'it returns false'. Refute it at one input. -/
def findSameWrong : ChangeSpec := { name := "findSame", fn := fun _ => fun
  | [d1, d2, d3] => { results := [.lit (.bool false)], args := [d1, d2, d3] }
  | _ => none }
def FindSameWrongFalsely : Prop := findSameRow.holds Try.pinned (OpenSpec.ofChange findSameWrong)

/-- 'cambiumlaw10.FindPaths': WHATEVER THE INPUT: true; the input reads as it did. -/
def findPathsSpec : ChangeSpec := { name := "findPaths", fn := fun _ => fun
  | [d1, d2] => { results := [.lit (.bool true)], args := [d1, d2] }
  | _ => none }
def findPathsRow : OpenClaim := { program := "ytgbbcpfnmkeijaa", sum := "bb2ac4b27de9b843a68373558d00996408ea3fa5f14a94e28f9ce36261c49a22", func := "cambium/cambiumlaw10.FindPaths", spec := "findPaths", unfollowed := true, recurses := true, apart := false }
def FindPathsSaid : Prop := findPathsRow.holds Try.pinned (OpenSpec.ofChange findPathsSpec)

/-- ITS FALSE NEIGHBOUR: 'it returns false'. Refute it at one input. -/
def findPathsWrong : ChangeSpec := { name := "findPaths", fn := fun _ => fun
  | [d1, d2] => { results := [.lit (.bool false)], args := [d1, d2] }
  | _ => none }
def FindPathsWrongFalsely : Prop := findPathsRow.holds Try.pinned (OpenSpec.ofChange findPathsWrong)

/-- 'cambiumlaw09.PoolFormats': WHATEVER THE INPUT: true; the input reads as it did. -/
def poolFormatsSpec : ChangeSpec := { name := "poolFormats", fn := fun _ => fun
  | [d1, d2] => { results := [.lit (.bool true)], args := [d1, d2] }
  | _ => none }
def poolFormatsRow : OpenClaim := { program := "ytgbbcpfnmkeijaa", sum := "bb2ac4b27de9b843a68373558d00996408ea3fa5f14a94e28f9ce36261c49a22", func := "cambium/cambiumlaw09.PoolFormats", spec := "poolFormats", unfollowed := true, recurses := true, apart := false }
def PoolFormatsSaid : Prop := poolFormatsRow.holds Try.pinned (OpenSpec.ofChange poolFormatsSpec)

/-- ITS FALSE NEIGHBOUR: 'it returns false'. Refute it at one input. -/
def poolFormatsWrong : ChangeSpec := { name := "poolFormats", fn := fun _ => fun
  | [d1, d2] => { results := [.lit (.bool false)], args := [d1, d2] }
  | _ => none }
def PoolFormatsWrongFalsely : Prop := poolFormatsRow.holds Try.pinned (OpenSpec.ofChange poolFormatsWrong)

/-- 'cambiumlaw09.PoolSteps': WHATEVER THE INPUT: true; the input reads as it did. -/
def poolStepsSpec : ChangeSpec := { name := "poolSteps", fn := fun _ => fun
  | [d1, d2, d3] => { results := [.lit (.bool true)], args := [d1, d2, d3] }
  | _ => none }
def poolStepsRow : OpenClaim := { program := "ytgbbcpfnmkeijaa", sum := "bb2ac4b27de9b843a68373558d00996408ea3fa5f14a94e28f9ce36261c49a22", func := "cambium/cambiumlaw09.PoolSteps", spec := "poolSteps", unfollowed := true, recurses := true, apart := false }
def PoolStepsSaid : Prop := poolStepsRow.holds Try.pinned (OpenSpec.ofChange poolStepsSpec)

/-- ITS FALSE NEIGHBOUR: 'it returns false'. Refute it at one input. -/
def poolStepsWrong : ChangeSpec := { name := "poolSteps", fn := fun _ => fun
  | [d1, d2, d3] => { results := [.lit (.bool false)], args := [d1, d2, d3] }
  | _ => none }
def PoolStepsWrongFalsely : Prop := poolStepsRow.holds Try.pinned (OpenSpec.ofChange poolStepsWrong)

/- THE SECOND FORM. 'bulk': how many values and letters a reading holds, each counted each time it is reached (what is shared counts as often as it is met; a slice's spare places count too). A statement '..UptoSaid' is the law's where the arguments, and the package variables that the reading takes, are together of bulk at most 1048576: NARROWER than '..Said'. Prove '..Said' where nothing that the law and all that it calls make is longer than what came in: it says more and counts as full. Else prove '..UptoSaid'. A law counts once. -/
mutual
def uptoBulk {H : Type} : DataW H → Nat
  | .lit (.string bytes) => bytes.length + 1
  | .lit _ => 1
  | .nil => 1
  | .ptr d => uptoBulk d + 1
  | .slice elems spare => uptoBulkAll elems + uptoBulkAll spare + 1
  | .agg parts => uptoBulkAll parts + 1
  | .iface _ d => uptoBulk d + 1
  | .map entries => uptoBulkEntries entries + 1
  | .held _ => 1
def uptoBulkAll {H : Type} : List (DataW H) → Nat
  | [] => 0
  | d :: r => uptoBulk d + uptoBulkAll r
def uptoBulkEntries {H : Type} : List (Lit × DataW H) → Nat
  | [] => 0
  | x :: r => uptoBulkEntry x + uptoBulkEntries r
def uptoBulkEntry {H : Type} : Lit × DataW H → Nat
  | (.string bytes, d) => bytes.length + uptoBulk d + 1
  | (_, d) => uptoBulk d + 1
 end
def uptoSmall : (H : Type) → List (DataW H) → Bool := fun _ ds => decide (uptoBulkAll ds ≤ 1048576)
def OpenSpec.upto (s : _root_.Go.ChangeSpec) : _root_.Go.OpenSpec := { _root_.Go.OpenSpec.ofChange s with cond := some uptoSmall }

/-- 'cambiumlaw10.FindScans', WHERE WHAT IT READS IS OF BULK AT MOST 1048576: true; the input reads as it did. -/
def findScansUptoRow : OpenClaim := { program := "ytgbbcpfnmkeijaa", sum := "bb2ac4b27de9b843a68373558d00996408ea3fa5f14a94e28f9ce36261c49a22", func := "cambium/cambiumlaw10.FindScans", spec := "findScans", unfollowed := true, recurses := true, apart := false, narrowed := true }
def FindScansUptoSaid : Prop := findScansUptoRow.holds Try.pinned (OpenSpec.upto findScansSpec)

/-- 'cambiumlaw10.FindRows', WHERE WHAT IT READS IS OF BULK AT MOST 1048576: true; the input reads as it did. -/
def findRowsUptoRow : OpenClaim := { program := "ytgbbcpfnmkeijaa", sum := "bb2ac4b27de9b843a68373558d00996408ea3fa5f14a94e28f9ce36261c49a22", func := "cambium/cambiumlaw10.FindRows", spec := "findRows", unfollowed := true, recurses := true, apart := false, narrowed := true }
def FindRowsUptoSaid : Prop := findRowsUptoRow.holds Try.pinned (OpenSpec.upto findRowsSpec)

/-- 'cambiumlaw10.FindFew', WHERE WHAT IT READS IS OF BULK AT MOST 1048576: true; the input reads as it did. -/
def findFewUptoRow : OpenClaim := { program := "ytgbbcpfnmkeijaa", sum := "bb2ac4b27de9b843a68373558d00996408ea3fa5f14a94e28f9ce36261c49a22", func := "cambium/cambiumlaw10.FindFew", spec := "findFew", unfollowed := true, recurses := true, apart := false, narrowed := true }
def FindFewUptoSaid : Prop := findFewUptoRow.holds Try.pinned (OpenSpec.upto findFewSpec)

/-- 'cambiumlaw10.FindSame', WHERE WHAT IT READS IS OF BULK AT MOST 1048576: true; the input reads as it did. -/
def findSameUptoRow : OpenClaim := { program := "ytgbbcpfnmkeijaa", sum := "bb2ac4b27de9b843a68373558d00996408ea3fa5f14a94e28f9ce36261c49a22", func := "cambium/cambiumlaw10.FindSame", spec := "findSame", unfollowed := true, recurses := true, apart := false, narrowed := true }
def FindSameUptoSaid : Prop := findSameUptoRow.holds Try.pinned (OpenSpec.upto findSameSpec)

/-- 'cambiumlaw10.FindPaths', WHERE WHAT IT READS IS OF BULK AT MOST 1048576: true; the input reads as it did. -/
def findPathsUptoRow : OpenClaim := { program := "ytgbbcpfnmkeijaa", sum := "bb2ac4b27de9b843a68373558d00996408ea3fa5f14a94e28f9ce36261c49a22", func := "cambium/cambiumlaw10.FindPaths", spec := "findPaths", unfollowed := true, recurses := true, apart := false, narrowed := true }
def FindPathsUptoSaid : Prop := findPathsUptoRow.holds Try.pinned (OpenSpec.upto findPathsSpec)

/-- 'cambiumlaw09.PoolFormats', WHERE WHAT IT READS IS OF BULK AT MOST 1048576: true; the input reads as it did. -/
def poolFormatsUptoRow : OpenClaim := { program := "ytgbbcpfnmkeijaa", sum := "bb2ac4b27de9b843a68373558d00996408ea3fa5f14a94e28f9ce36261c49a22", func := "cambium/cambiumlaw09.PoolFormats", spec := "poolFormats", unfollowed := true, recurses := true, apart := false, narrowed := true }
def PoolFormatsUptoSaid : Prop := poolFormatsUptoRow.holds Try.pinned (OpenSpec.upto poolFormatsSpec)

/-- 'cambiumlaw09.PoolSteps', WHERE WHAT IT READS IS OF BULK AT MOST 1048576: true; the input reads as it did. -/
def poolStepsUptoRow : OpenClaim := { program := "ytgbbcpfnmkeijaa", sum := "bb2ac4b27de9b843a68373558d00996408ea3fa5f14a94e28f9ce36261c49a22", func := "cambium/cambiumlaw09.PoolSteps", spec := "poolSteps", unfollowed := true, recurses := true, apart := false, narrowed := true }
def PoolStepsUptoSaid : Prop := poolStepsUptoRow.holds Try.pinned (OpenSpec.upto poolStepsSpec)

end Rows
end Go.Proofs.Ytgbbcpfnmkeijaa
