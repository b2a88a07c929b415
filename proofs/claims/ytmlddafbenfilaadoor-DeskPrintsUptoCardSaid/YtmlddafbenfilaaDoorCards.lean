/-
  DERIVED. GIVEN WITH THE SEED: THE CARDS: each row of YtmlddafbenfilaaDoorRows.lean that lists a variable, with what it lists TIED to the program's text (the seventh form; the later family's looks); each row that meets fmt, with fmt's text TOLD by the authors' own Lean function (tested against real Go, not proved from fmt's source: count such statements apart). THE CARD IS WHAT COUNTS. Prove the row's statement (the work); the ties are given (YtmlddafbenfilaaDoorTie.lean); close each card by the builder's one call (the guide's Derived/Test/ToyasCard.lean, 'card_holds'). Laid BY PROGRAM, IN A SANDBOX (cutbox-door.mjs). By AI agents, Wed Nov 11 2026. No macro, syntax, notation, axiom, sorry.
-/
import Derived.Test.YtmlddafbenfilaaDoorRows
import GoSem.ClaimSeven
namespace Go.Proofs.YtmlddafbenfilaaDoor
namespace Rows

/-- THE TIED CARD OF 'cambiumlaw26.DeskQuotes'. -/
def deskQuotesCard : Claim7 := { stood := { row := deskQuotesRow, standIns := [], harness := (true, "165474549dc2bf0cf1f41a1a452ff92ef119fa76604c5cd4a25aed1c29f0ade3"), looks := true }, kinds := [], alts := [], laidByText := true, laidKinds := [.data, .data, .data, .data, .sentinel, .sentinel, .pinned], laidTests := true, laidLooks := .later }
def DeskQuotesCardSaid : Prop := Claim7.holds Tryd.pinned (.plain (OpenSpec.ofChange deskQuotesSpec)) deskQuotesCard

/-- THE TIED CARD OF 'cambiumlaw26.DeskParses'. -/
def deskParsesCard : Claim7 := { stood := { row := deskParsesRow, standIns := [], harness := (true, "165474549dc2bf0cf1f41a1a452ff92ef119fa76604c5cd4a25aed1c29f0ade3"), looks := true }, kinds := [], alts := [], laidByText := true, laidKinds := [.data, .data, .data, .data, .sentinel, .sentinel, .pinned], laidTests := true, laidLooks := .later }
def DeskParsesCardSaid : Prop := Claim7.holds Tryd.pinned (.plain (OpenSpec.ofChange deskParsesSpec)) deskParsesCard

/-- THE TIED CARD OF 'cambiumlaw26.DeskBack'. -/
def deskBackCard : Claim7 := { stood := { row := deskBackRow, standIns := [], harness := (true, "165474549dc2bf0cf1f41a1a452ff92ef119fa76604c5cd4a25aed1c29f0ade3"), looks := true }, kinds := [], alts := [], laidByText := true, laidKinds := [.data, .data, .data, .data, .sentinel, .sentinel, .pinned], laidTests := true, laidLooks := .later }
def DeskBackCardSaid : Prop := Claim7.holds Tryd.pinned (.plain (OpenSpec.ofChange deskBackSpec)) deskBackCard

/-- THE TIED CARD OF 'cambiumlaw26.DeskPrints'. -/
def deskPrintsCard : Claim7 := { stood := { row := deskPrintsRow, standIns := [], harness := (true, "165474549dc2bf0cf1f41a1a452ff92ef119fa76604c5cd4a25aed1c29f0ade3"), looks := true }, kinds := [], alts := [], laidByText := true, laidKinds := [.data, .data, .data, .data, .sentinel, .sentinel, .pinned], laidTests := true, laidLooks := .later }
def DeskPrintsCardSaid : Prop := Claim7.holds Tryd.pinned (.plain (OpenSpec.ofChange deskPrintsSpec)) deskPrintsCard

/-- THE SECOND FORM's CARD OF 'cambiumlaw26.DeskQuotes'. -/
def deskQuotesUptoCard : Claim7 := { stood := { row := deskQuotesUptoRow, standIns := [], harness := (true, "165474549dc2bf0cf1f41a1a452ff92ef119fa76604c5cd4a25aed1c29f0ade3"), looks := true }, kinds := [], alts := [], laidByText := true, laidKinds := [.data, .data, .data, .data, .sentinel, .sentinel, .pinned], laidTests := true, laidLooks := .later }
def DeskQuotesUptoCardSaid : Prop := Claim7.holds Tryd.pinned (.plain (OpenSpec.upto deskQuotesSpec)) deskQuotesUptoCard

/-- THE SECOND FORM's CARD OF 'cambiumlaw26.DeskParses'. -/
def deskParsesUptoCard : Claim7 := { stood := { row := deskParsesUptoRow, standIns := [], harness := (true, "165474549dc2bf0cf1f41a1a452ff92ef119fa76604c5cd4a25aed1c29f0ade3"), looks := true }, kinds := [], alts := [], laidByText := true, laidKinds := [.data, .data, .data, .data, .sentinel, .sentinel, .pinned], laidTests := true, laidLooks := .later }
def DeskParsesUptoCardSaid : Prop := Claim7.holds Tryd.pinned (.plain (OpenSpec.upto deskParsesSpec)) deskParsesUptoCard

/-- THE SECOND FORM's CARD OF 'cambiumlaw26.DeskBack'. -/
def deskBackUptoCard : Claim7 := { stood := { row := deskBackUptoRow, standIns := [], harness := (true, "165474549dc2bf0cf1f41a1a452ff92ef119fa76604c5cd4a25aed1c29f0ade3"), looks := true }, kinds := [], alts := [], laidByText := true, laidKinds := [.data, .data, .data, .data, .sentinel, .sentinel, .pinned], laidTests := true, laidLooks := .later }
def DeskBackUptoCardSaid : Prop := Claim7.holds Tryd.pinned (.plain (OpenSpec.upto deskBackSpec)) deskBackUptoCard

/-- THE SECOND FORM's CARD OF 'cambiumlaw26.DeskPrints'. -/
def deskPrintsUptoCard : Claim7 := { stood := { row := deskPrintsUptoRow, standIns := [], harness := (true, "165474549dc2bf0cf1f41a1a452ff92ef119fa76604c5cd4a25aed1c29f0ade3"), looks := true }, kinds := [], alts := [], laidByText := true, laidKinds := [.data, .data, .data, .data, .sentinel, .sentinel, .pinned], laidTests := true, laidLooks := .later }
def DeskPrintsUptoCardSaid : Prop := Claim7.holds Tryd.pinned (.plain (OpenSpec.upto deskPrintsSpec)) deskPrintsUptoCard
end Rows
end Go.Proofs.YtmlddafbenfilaaDoor
