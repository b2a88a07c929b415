/-
  No cell of these rows narrows 'for every input' (looked for: loops, veiled, ifaces, maps, wideKeys, modest, calm, conditions, laid).
  DERIVED. THE GIVEN ROWS OF THIS SEAT. 4 by the template 'for every input the law returns true; each argument reads behind the call as it read before'; 0 by the template 'total and deterministic' (their statements: YtimaipclgmcekaaTotals.lean).
  GIVEN WITH THE SEED: the statements are not yours to turn. If you find one false, say at which input.
  Laid BY PROGRAM, IN A SANDBOX (cutbox-rows.mjs): the forced cells as the released guide's own fill.sh prints them over the translation ddc384e3c60fe6b2… (all of the seat's roots in one cut). By AI agents, Wed Nov 11 2026. No macro, syntax, notation, axiom, sorry.
-/
import Derived.Test.YtimaipclgmcekaaChecked
import GoSem.Claim
import GoSem.ClaimJoined
import GoSem.ClaimMapViews
import Derived.JoinedTies
import Derived.KernelRfl
namespace Go.Proofs.Ytimaipclgmcekaa
/- THE CELL 'sum', in the pinned program and in every row, IS THE sha256 OF THE DUMP (.gsa) THAT YtimaipclgmcekaaProg.lean LOADS. Nothing in Lean hashes anything: it is a label: what it is worth is what the hold of that sum in a sandbox is worth. -/
noncomputable def Try.pinned : Pinned := { name := "ytimaipclgmcekaa", sum := "ddc384e3c60fe6b2908f7646119639879e92fbfd473e143566441a835b9b9a1c", checked := Try.checked }
namespace Rows
def none {H : Type} : Left H := { results := [], args := [] }

/-- 'cambiumlaw23.ProcFamily': WHATEVER THE INPUT: true; the input reads as it did. -/
def procFamilySpec : ChangeSpec := { name := "procFamily", fn := fun _ => fun
  | [d1, d2] => { results := [.lit (.bool true)], args := [d1, d2] }
  | _ => none }
def procFamilyRow : OpenClaim := { program := "ytimaipclgmcekaa", sum := "ddc384e3c60fe6b2908f7646119639879e92fbfd473e143566441a835b9b9a1c", func := "cambium/cambiumlaw23.ProcFamily", spec := "procFamily", apart := false }
def ProcFamilySaid : Prop := procFamilyRow.holds Try.pinned (OpenSpec.ofChange procFamilySpec)

/-- ITS FALSE NEIGHBOUR: 'it returns false'. Refute it at one input. -/
def procFamilyWrong : ChangeSpec := { name := "procFamily", fn := fun _ => fun
  | [d1, d2] => { results := [.lit (.bool false)], args := [d1, d2] }
  | _ => none }
def ProcFamilyWrongFalsely : Prop := procFamilyRow.holds Try.pinned (OpenSpec.ofChange procFamilyWrong)

/-- 'cambiumlaw23.ProcOpen': WHATEVER THE INPUT: true; the input reads as it did. -/
def procOpenSpec : ChangeSpec := { name := "procOpen", fn := fun _ => fun
  | [d] => { results := [.lit (.bool true)], args := [d] }
  | _ => none }
def procOpenRow : OpenClaim := { program := "ytimaipclgmcekaa", sum := "ddc384e3c60fe6b2908f7646119639879e92fbfd473e143566441a835b9b9a1c", func := "cambium/cambiumlaw23.ProcOpen", spec := "procOpen", apart := false }
def ProcOpenSaid : Prop := procOpenRow.holds Try.pinned (OpenSpec.ofChange procOpenSpec)

/-- ITS FALSE NEIGHBOUR: 'it returns false'. Refute it at one input. -/
def procOpenWrong : ChangeSpec := { name := "procOpen", fn := fun _ => fun
  | [d] => { results := [.lit (.bool false)], args := [d] }
  | _ => none }
def ProcOpenWrongFalsely : Prop := procOpenRow.holds Try.pinned (OpenSpec.ofChange procOpenWrong)

/-- 'cambiumlaw23.ProcShared': WHATEVER THE INPUT: true; the input reads as it did. -/
def procSharedSpec : ChangeSpec := { name := "procShared", fn := fun _ => fun
  | [d1, d2, d3] => { results := [.lit (.bool true)], args := [d1, d2, d3] }
  | _ => none }
def procSharedRow : OpenClaim := { program := "ytimaipclgmcekaa", sum := "ddc384e3c60fe6b2908f7646119639879e92fbfd473e143566441a835b9b9a1c", func := "cambium/cambiumlaw23.ProcShared", spec := "procShared", apart := false }
def ProcSharedSaid : Prop := procSharedRow.holds Try.pinned (OpenSpec.ofChange procSharedSpec)

/-- ITS FALSE NEIGHBOUR: 'it returns false'. Refute it at one input. -/
def procSharedWrong : ChangeSpec := { name := "procShared", fn := fun _ => fun
  | [d1, d2, d3] => { results := [.lit (.bool false)], args := [d1, d2, d3] }
  | _ => none }
def ProcSharedWrongFalsely : Prop := procSharedRow.holds Try.pinned (OpenSpec.ofChange procSharedWrong)

/-- 'cambiumlaw23.ProcPlays': WHATEVER THE INPUT: true; the input reads as it did. -/
def procPlaysSpec : ChangeSpec := { name := "procPlays", fn := fun _ => fun
  | [d] => { results := [.lit (.bool true)], args := [d] }
  | _ => none }
def procPlaysRow : OpenClaim := { program := "ytimaipclgmcekaa", sum := "ddc384e3c60fe6b2908f7646119639879e92fbfd473e143566441a835b9b9a1c", func := "cambium/cambiumlaw23.ProcPlays", spec := "procPlays", apart := false }
def ProcPlaysSaid : Prop := procPlaysRow.holds Try.pinned (OpenSpec.ofChange procPlaysSpec)

/-- ITS FALSE NEIGHBOUR: 'it returns false'. Refute it at one input. -/
def procPlaysWrong : ChangeSpec := { name := "procPlays", fn := fun _ => fun
  | [d] => { results := [.lit (.bool false)], args := [d] }
  | _ => none }
def ProcPlaysWrongFalsely : Prop := procPlaysRow.holds Try.pinned (OpenSpec.ofChange procPlaysWrong)

/- THE SECOND FORM. 'bulk': how many values and letters a reading holds, each counted each time it is reached (what is shared counts as often as it is met; a slice's spare places count too). A statement '..UptoSaid' is the law's where the arguments, and the package variables that the reading takes, are together of bulk at most 1048576: NARROWER than '..Said'. Prove '..Said' where nothing that the law and all that it calls make is longer than what came in: it says more and counts as full. Else prove '..UptoSaid'. A law counts once. -/
mutual
def uptoBulk {H : Type} : DataW H → Nat
  | .lit (.string bytes) => bytes.length + 1
  | .lit _ => 1
  | .nil => 1
  | .ptr d => uptoBulk d + 1
  | .slice elems spare => uptoBulkAll elems + uptoBulkAll spare + 1
  | .agg parts => uptoBulkAll parts + 1
  | .iface _ d => uptoBulk d + 1
  | .map entries => uptoBulkEntries entries + 1
  | .held _ => 1
def uptoBulkAll {H : Type} : List (DataW H) → Nat
  | [] => 0
  | d :: r => uptoBulk d + uptoBulkAll r
def uptoBulkEntries {H : Type} : List (Lit × DataW H) → Nat
  | [] => 0
  | x :: r => uptoBulkEntry x + uptoBulkEntries r
def uptoBulkEntry {H : Type} : Lit × DataW H → Nat
  | (.string bytes, d) => bytes.length + uptoBulk d + 1
  | (_, d) => uptoBulk d + 1
 end
def uptoSmall : (H : Type) → List (DataW H) → Bool := fun _ ds => decide (uptoBulkAll ds ≤ 1048576)
def OpenSpec.upto (s : _root_.Go.ChangeSpec) : _root_.Go.OpenSpec := { _root_.Go.OpenSpec.ofChange s with cond := some uptoSmall }

/-- 'cambiumlaw23.ProcFamily', WHERE WHAT IT READS IS OF BULK AT MOST 1048576: true; the input reads as it did. -/
def procFamilyUptoRow : OpenClaim := { program := "ytimaipclgmcekaa", sum := "ddc384e3c60fe6b2908f7646119639879e92fbfd473e143566441a835b9b9a1c", func := "cambium/cambiumlaw23.ProcFamily", spec := "procFamily", apart := false, narrowed := true }
def ProcFamilyUptoSaid : Prop := procFamilyUptoRow.holds Try.pinned (OpenSpec.upto procFamilySpec)

/-- 'cambiumlaw23.ProcOpen', WHERE WHAT IT READS IS OF BULK AT MOST 1048576: true; the input reads as it did. -/
def procOpenUptoRow : OpenClaim := { program := "ytimaipclgmcekaa", sum := "ddc384e3c60fe6b2908f7646119639879e92fbfd473e143566441a835b9b9a1c", func := "cambium/cambiumlaw23.ProcOpen", spec := "procOpen", apart := false, narrowed := true }
def ProcOpenUptoSaid : Prop := procOpenUptoRow.holds Try.pinned (OpenSpec.upto procOpenSpec)

/-- 'cambiumlaw23.ProcShared', WHERE WHAT IT READS IS OF BULK AT MOST 1048576: true; the input reads as it did. -/
def procSharedUptoRow : OpenClaim := { program := "ytimaipclgmcekaa", sum := "ddc384e3c60fe6b2908f7646119639879e92fbfd473e143566441a835b9b9a1c", func := "cambium/cambiumlaw23.ProcShared", spec := "procShared", apart := false, narrowed := true }
def ProcSharedUptoSaid : Prop := procSharedUptoRow.holds Try.pinned (OpenSpec.upto procSharedSpec)

/-- 'cambiumlaw23.ProcPlays', WHERE WHAT IT READS IS OF BULK AT MOST 1048576: true; the input reads as it did. -/
def procPlaysUptoRow : OpenClaim := { program := "ytimaipclgmcekaa", sum := "ddc384e3c60fe6b2908f7646119639879e92fbfd473e143566441a835b9b9a1c", func := "cambium/cambiumlaw23.ProcPlays", spec := "procPlays", apart := false, narrowed := true }
def ProcPlaysUptoSaid : Prop := procPlaysUptoRow.holds Try.pinned (OpenSpec.upto procPlaysSpec)

end Rows
end Go.Proofs.Ytimaipclgmcekaa
