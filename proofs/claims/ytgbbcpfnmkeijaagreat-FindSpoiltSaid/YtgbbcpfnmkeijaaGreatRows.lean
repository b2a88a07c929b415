/-
  No cell of these rows narrows 'for every input' (looked for: loops, veiled, ifaces, maps, wideKeys, modest, calm, conditions, laid).
  DERIVED. THE GIVEN ROWS OF THIS SEAT. 3 by the template 'for every input the law returns true; each argument reads behind the call as it read before'; 0 by the template 'total and deterministic' (their statements: YtgbbcpfnmkeijaaGreatTotals.lean).
  GIVEN WITH THE SEED: the statements are not yours to turn. If you find one false, say at which input.
  Laid BY PROGRAM, IN A SANDBOX (cutbox-rows.mjs): the forced cells as the released guide's own fill.sh prints them over the translation 198d18d6a759cc5c… (all of the seat's roots in one cut). By AI agents, Wed Nov 11 2026. No macro, syntax, notation, axiom, sorry.
-/
import Derived.Test.YtgbbcpfnmkeijaaGreatChecked
import GoSem.Claim
import GoSem.ClaimJoined
import GoSem.ClaimMapViews
import Derived.JoinedTies
import Derived.KernelRfl
namespace Go.Proofs.YtgbbcpfnmkeijaaGreat
/- THE CELL 'sum', in the pinned program and in every row, IS THE sha256 OF THE DUMP (.gsa) THAT YtgbbcpfnmkeijaaGreatProg.lean LOADS. Nothing in Lean hashes anything: it is a label: what it is worth is what the hold of that sum in a sandbox is worth. -/
noncomputable def Tryz.pinned : Pinned := { name := "ytgbbcpfnmkeijaagreat", sum := "198d18d6a759cc5c900173c032c43a7eeffa2ea9a03ef0eec12fa0567a8d0f33", checked := Tryz.checked }
namespace Rows
def none {H : Type} : Left H := { results := [], args := [] }

/-- 'cambiumlaw09.PoolShared': WHATEVER THE INPUT: true; the input reads as it did. -/
def poolSharedSpec : ChangeSpec := { name := "poolShared", fn := fun _ => fun
  | [d1, d2, d3] => { results := [.lit (.bool true)], args := [d1, d2, d3] }
  | _ => none }
def poolSharedRow : OpenClaim := { program := "ytgbbcpfnmkeijaagreat", sum := "198d18d6a759cc5c900173c032c43a7eeffa2ea9a03ef0eec12fa0567a8d0f33", func := "cambium/cambiumlaw09.PoolShared", spec := "poolShared", inPlace := ["maps.clone"], unfollowed := true, recurses := true, apart := false }
def PoolSharedSaid : Prop := poolSharedRow.holds Tryz.pinned (OpenSpec.ofChange poolSharedSpec)

/-- ITS FALSE NEIGHBOUR: 'it returns false'. Refute it at one input. -/
def poolSharedWrong : ChangeSpec := { name := "poolShared", fn := fun _ => fun
  | [d1, d2, d3] => { results := [.lit (.bool false)], args := [d1, d2, d3] }
  | _ => none }
def PoolSharedWrongFalsely : Prop := poolSharedRow.holds Tryz.pinned (OpenSpec.ofChange poolSharedWrong)

/-- 'cambiumlaw10.FindGets': WHATEVER THE INPUT: true; the input reads as it did. -/
def findGetsSpec : ChangeSpec := { name := "findGets", fn := fun _ => fun
  | [d1, d2, d3] => { results := [.lit (.bool true)], args := [d1, d2, d3] }
  | _ => none }
def findGetsRow : OpenClaim := { program := "ytgbbcpfnmkeijaagreat", sum := "198d18d6a759cc5c900173c032c43a7eeffa2ea9a03ef0eec12fa0567a8d0f33", func := "cambium/cambiumlaw10.FindGets", spec := "findGets", unfollowed := true, recurses := true, apart := false }
def FindGetsSaid : Prop := findGetsRow.holds Tryz.pinned (OpenSpec.ofChange findGetsSpec)

/-- ITS FALSE NEIGHBOUR: 'it returns false'. Refute it at one input. -/
def findGetsWrong : ChangeSpec := { name := "findGets", fn := fun _ => fun
  | [d1, d2, d3] => { results := [.lit (.bool false)], args := [d1, d2, d3] }
  | _ => none }
def FindGetsWrongFalsely : Prop := findGetsRow.holds Tryz.pinned (OpenSpec.ofChange findGetsWrong)

/-- 'cambiumlaw10.FindSpoilt': WHATEVER THE INPUT: true; the input reads as it did. -/
def findSpoiltSpec : ChangeSpec := { name := "findSpoilt", fn := fun _ => fun
  | [d1, d2] => { results := [.lit (.bool true)], args := [d1, d2] }
  | _ => none }
def findSpoiltRow : OpenClaim := { program := "ytgbbcpfnmkeijaagreat", sum := "198d18d6a759cc5c900173c032c43a7eeffa2ea9a03ef0eec12fa0567a8d0f33", func := "cambium/cambiumlaw10.FindSpoilt", spec := "findSpoilt", unfollowed := true, recurses := true, apart := false }
def FindSpoiltSaid : Prop := findSpoiltRow.holds Tryz.pinned (OpenSpec.ofChange findSpoiltSpec)

/-- ITS FALSE NEIGHBOUR: 'it returns false'. Refute it at one input. -/
def findSpoiltWrong : ChangeSpec := { name := "findSpoilt", fn := fun _ => fun
  | [d1, d2] => { results := [.lit (.bool false)], args := [d1, d2] }
  | _ => none }
def FindSpoiltWrongFalsely : Prop := findSpoiltRow.holds Tryz.pinned (OpenSpec.ofChange findSpoiltWrong)

/- THE SECOND FORM. 'bulk': how many values and letters a reading holds, each counted each time it is reached (what is shared counts as often as it is met; a slice's spare places count too). A statement '..UptoSaid' is the law's where the arguments, and the package variables that the reading takes, are together of bulk at most 1048576: NARROWER than '..Said'. Prove '..Said' where nothing that the law and all that it calls make is longer than what came in: it says more and counts as full. Else prove '..UptoSaid'. A law counts once. -/
mutual
def uptoBulk {H : Type} : DataW H → Nat
  | .lit (.string bytes) => bytes.length + 1
  | .lit _ => 1
  | .nil => 1
  | .ptr d => uptoBulk d + 1
  | .slice elems spare => uptoBulkAll elems + uptoBulkAll spare + 1
  | .agg parts => uptoBulkAll parts + 1
  | .iface _ d => uptoBulk d + 1
  | .map entries => uptoBulkEntries entries + 1
  | .held _ => 1
def uptoBulkAll {H : Type} : List (DataW H) → Nat
  | [] => 0
  | d :: r => uptoBulk d + uptoBulkAll r
def uptoBulkEntries {H : Type} : List (Lit × DataW H) → Nat
  | [] => 0
  | x :: r => uptoBulkEntry x + uptoBulkEntries r
def uptoBulkEntry {H : Type} : Lit × DataW H → Nat
  | (.string bytes, d) => bytes.length + uptoBulk d + 1
  | (_, d) => uptoBulk d + 1
 end
def uptoSmall : (H : Type) → List (DataW H) → Bool := fun _ ds => decide (uptoBulkAll ds ≤ 1048576)
def OpenSpec.upto (s : _root_.Go.ChangeSpec) : _root_.Go.OpenSpec := { _root_.Go.OpenSpec.ofChange s with cond := some uptoSmall }

/-- 'cambiumlaw09.PoolShared', WHERE WHAT IT READS IS OF BULK AT MOST 1048576: true; the input reads as it did. -/
def poolSharedUptoRow : OpenClaim := { program := "ytgbbcpfnmkeijaagreat", sum := "198d18d6a759cc5c900173c032c43a7eeffa2ea9a03ef0eec12fa0567a8d0f33", func := "cambium/cambiumlaw09.PoolShared", spec := "poolShared", inPlace := ["maps.clone"], unfollowed := true, recurses := true, apart := false, narrowed := true }
def PoolSharedUptoSaid : Prop := poolSharedUptoRow.holds Tryz.pinned (OpenSpec.upto poolSharedSpec)

/-- 'cambiumlaw10.FindGets', WHERE WHAT IT READS IS OF BULK AT MOST 1048576: true; the input reads as it did. -/
def findGetsUptoRow : OpenClaim := { program := "ytgbbcpfnmkeijaagreat", sum := "198d18d6a759cc5c900173c032c43a7eeffa2ea9a03ef0eec12fa0567a8d0f33", func := "cambium/cambiumlaw10.FindGets", spec := "findGets", unfollowed := true, recurses := true, apart := false, narrowed := true }
def FindGetsUptoSaid : Prop := findGetsUptoRow.holds Tryz.pinned (OpenSpec.upto findGetsSpec)

/-- 'cambiumlaw10.FindSpoilt', WHERE WHAT IT READS IS OF BULK AT MOST 1048576: true; the input reads as it did. -/
def findSpoiltUptoRow : OpenClaim := { program := "ytgbbcpfnmkeijaagreat", sum := "198d18d6a759cc5c900173c032c43a7eeffa2ea9a03ef0eec12fa0567a8d0f33", func := "cambium/cambiumlaw10.FindSpoilt", spec := "findSpoilt", unfollowed := true, recurses := true, apart := false, narrowed := true }
def FindSpoiltUptoSaid : Prop := findSpoiltUptoRow.holds Tryz.pinned (OpenSpec.upto findSpoiltSpec)

end Rows
end Go.Proofs.YtgbbcpfnmkeijaaGreat
