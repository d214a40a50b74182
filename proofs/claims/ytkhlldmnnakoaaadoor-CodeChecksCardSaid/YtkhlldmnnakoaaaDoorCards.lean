/-
  DERIVED. GIVEN WITH THE SEED: THE CARDS: each row of YtkhlldmnnakoaaaDoorRows.lean that lists a variable, with what it lists TIED to the program's text (the seventh form; the later family's looks); each row that meets fmt, with fmt's text TOLD by the authors' own Lean function (tested against real Go, not proved from fmt's source: count such statements apart). THE CARD IS WHAT COUNTS. Prove the row's statement (the work); the ties are given (YtkhlldmnnakoaaaDoorTie.lean); close each card by the builder's one call (the guide's Derived/Test/ToyasCard.lean, 'card_holds'). Laid BY PROGRAM, IN A SANDBOX (cutbox-door.mjs). By AI agents, Wed Nov 11 2026. No macro, syntax, notation, axiom, sorry.
-/
import Derived.Test.YtkhlldmnnakoaaaDoorRows
import GoSem.ClaimSeven
namespace Go.Proofs.YtkhlldmnnakoaaaDoor
namespace Rows

/-- THE TIED CARD OF 'boomeranglaw05.CodePrints'. -/
def codePrintsCard : Claim7 := { stood := { row := codePrintsRow, standIns := [], harness := (true, "9b899c55b7f7b318579a2b45eee91d3c674815d295bc1b87a3059a793efb5353"), looks := true }, kinds := [], alts := [], laidByText := true, laidKinds := [.data, .data, .data, .data, .sentinel, .sentinel, .data, .pinned], laidTests := true, laidLooks := .later }
def CodePrintsCardSaid : Prop := Claim7.holds Tryd.pinned (.plain (OpenSpec.ofChange codePrintsSpec)) codePrintsCard

/-- THE TIED CARD OF 'boomeranglaw05.CodeBack'. -/
def codeBackCard : Claim7 := { stood := { row := codeBackRow, standIns := [], harness := (true, "9b899c55b7f7b318579a2b45eee91d3c674815d295bc1b87a3059a793efb5353"), looks := true }, kinds := [], alts := [], laidByText := true, laidKinds := [.data, .data, .data, .data, .sentinel, .sentinel, .data, .pinned], laidTests := true, laidLooks := .later }
def CodeBackCardSaid : Prop := Claim7.holds Tryd.pinned (.plain (OpenSpec.ofChange codeBackSpec)) codeBackCard

/-- THE TIED CARD OF 'boomeranglaw05.CodeChecks'. -/
def codeChecksCard : Claim7 := { stood := { row := codeChecksRow, standIns := [], harness := (true, "9b899c55b7f7b318579a2b45eee91d3c674815d295bc1b87a3059a793efb5353"), looks := true }, kinds := [], alts := [], laidByText := true, laidKinds := [.data, .data, .data, .data, .sentinel, .sentinel, .data, .pinned], laidTests := true, laidLooks := .later }
def CodeChecksCardSaid : Prop := Claim7.holds Tryd.pinned (.plain (OpenSpec.ofChange codeChecksSpec)) codeChecksCard

/-- THE TIED CARD OF 'boomeranglaw05.CodeParts'. -/
def codePartsCard : Claim7 := { stood := { row := codePartsRow, standIns := [], harness := (true, "9b899c55b7f7b318579a2b45eee91d3c674815d295bc1b87a3059a793efb5353"), looks := true }, kinds := [], alts := [], laidByText := true, laidKinds := [.data, .data, .data, .data, .sentinel, .sentinel, .data, .pinned], laidTests := true, laidLooks := .later }
def CodePartsCardSaid : Prop := Claim7.holds Tryd.pinned (.plain (OpenSpec.ofChange codePartsSpec)) codePartsCard

/-- THE TIED CARD OF 'boomeranglaw05.CodeShift'. -/
def codeShiftCard : Claim7 := { stood := { row := codeShiftRow, standIns := [], harness := (true, "9b899c55b7f7b318579a2b45eee91d3c674815d295bc1b87a3059a793efb5353"), looks := true }, kinds := [], alts := [], laidByText := true, laidKinds := [.data, .data, .data, .data, .sentinel, .sentinel, .data, .pinned], laidTests := true, laidLooks := .later }
def CodeShiftCardSaid : Prop := Claim7.holds Tryd.pinned (.plain (OpenSpec.ofChange codeShiftSpec)) codeShiftCard

/-- THE SECOND FORM's CARD OF 'boomeranglaw05.CodePrints'. -/
def codePrintsUptoCard : Claim7 := { stood := { row := codePrintsUptoRow, standIns := [], harness := (true, "9b899c55b7f7b318579a2b45eee91d3c674815d295bc1b87a3059a793efb5353"), looks := true }, kinds := [], alts := [], laidByText := true, laidKinds := [.data, .data, .data, .data, .sentinel, .sentinel, .data, .pinned], laidTests := true, laidLooks := .later }
def CodePrintsUptoCardSaid : Prop := Claim7.holds Tryd.pinned (.plain (OpenSpec.upto codePrintsSpec)) codePrintsUptoCard

/-- THE SECOND FORM's CARD OF 'boomeranglaw05.CodeBack'. -/
def codeBackUptoCard : Claim7 := { stood := { row := codeBackUptoRow, standIns := [], harness := (true, "9b899c55b7f7b318579a2b45eee91d3c674815d295bc1b87a3059a793efb5353"), looks := true }, kinds := [], alts := [], laidByText := true, laidKinds := [.data, .data, .data, .data, .sentinel, .sentinel, .data, .pinned], laidTests := true, laidLooks := .later }
def CodeBackUptoCardSaid : Prop := Claim7.holds Tryd.pinned (.plain (OpenSpec.upto codeBackSpec)) codeBackUptoCard

/-- THE SECOND FORM's CARD OF 'boomeranglaw05.CodeChecks'. -/
def codeChecksUptoCard : Claim7 := { stood := { row := codeChecksUptoRow, standIns := [], harness := (true, "9b899c55b7f7b318579a2b45eee91d3c674815d295bc1b87a3059a793efb5353"), looks := true }, kinds := [], alts := [], laidByText := true, laidKinds := [.data, .data, .data, .data, .sentinel, .sentinel, .data, .pinned], laidTests := true, laidLooks := .later }
def CodeChecksUptoCardSaid : Prop := Claim7.holds Tryd.pinned (.plain (OpenSpec.upto codeChecksSpec)) codeChecksUptoCard

/-- THE SECOND FORM's CARD OF 'boomeranglaw05.CodeParts'. -/
def codePartsUptoCard : Claim7 := { stood := { row := codePartsUptoRow, standIns := [], harness := (true, "9b899c55b7f7b318579a2b45eee91d3c674815d295bc1b87a3059a793efb5353"), looks := true }, kinds := [], alts := [], laidByText := true, laidKinds := [.data, .data, .data, .data, .sentinel, .sentinel, .data, .pinned], laidTests := true, laidLooks := .later }
def CodePartsUptoCardSaid : Prop := Claim7.holds Tryd.pinned (.plain (OpenSpec.upto codePartsSpec)) codePartsUptoCard

/-- THE SECOND FORM's CARD OF 'boomeranglaw05.CodeShift'. -/
def codeShiftUptoCard : Claim7 := { stood := { row := codeShiftUptoRow, standIns := [], harness := (true, "9b899c55b7f7b318579a2b45eee91d3c674815d295bc1b87a3059a793efb5353"), looks := true }, kinds := [], alts := [], laidByText := true, laidKinds := [.data, .data, .data, .data, .sentinel, .sentinel, .data, .pinned], laidTests := true, laidLooks := .later }
def CodeShiftUptoCardSaid : Prop := Claim7.holds Tryd.pinned (.plain (OpenSpec.upto codeShiftSpec)) codeShiftUptoCard
end Rows
end Go.Proofs.YtkhlldmnnakoaaaDoor
