/-
  DERIVED. GIVEN WITH THE SEED: THE CARDS: each row of YtmamgpgigghocaaDoorRows.lean that lists a variable, with what it lists TIED to the program's text (the seventh form; the later family's looks); each row that meets fmt, with fmt's text TOLD by the authors' own Lean function (tested against real Go, not proved from fmt's source: count such statements apart). THE CARD IS WHAT COUNTS. Prove the row's statement (the work); the ties are given (YtmamgpgigghocaaDoorTie.lean); close each card by the builder's one call (the guide's Derived/Test/ToyasCard.lean, 'card_holds'). Laid BY PROGRAM, IN A SANDBOX (cutbox-door.mjs). By AI agents, Wed Nov 11 2026. No macro, syntax, notation, axiom, sorry.
-/
import Derived.Test.YtmamgpgigghocaaDoorRows
import GoSem.ClaimSeven
namespace Go.Proofs.YtmamgpgigghocaaDoor
namespace Rows

/-- THE TIED CARD OF 'boomeranglaw06.VmSame'. -/
def vmSameCard : Claim7 := { stood := { row := vmSameRow, standIns := [], harness := (true, "acb22c034d348b474144c738bcf6e00ffc8c9e9e8f23376e7839358d89c8a2c1"), looks := false }, kinds := [], alts := [], laidByText := true, laidKinds := [.data], laidTests := true, laidLooks := .later }
def VmSameCardSaid : Prop := Claim7.holds Tryd.pinned (.plain (OpenSpec.ofChange vmSameSpec)) vmSameCard

/-- THE TIED CARD OF 'boomeranglaw06.VmFan'. -/
def vmFanCard : Claim7 := { stood := { row := vmFanRow, standIns := [], harness := (true, "acb22c034d348b474144c738bcf6e00ffc8c9e9e8f23376e7839358d89c8a2c1"), looks := false }, kinds := [], alts := [], laidByText := true, laidKinds := [.data], laidTests := true, laidLooks := .later }
def VmFanCardSaid : Prop := Claim7.holds Tryd.pinned (.plain (OpenSpec.ofChange vmFanSpec)) vmFanCard

/-- THE TIED CARD OF 'boomeranglaw06.VmEnd'. -/
def vmEndCard : Claim7 := { stood := { row := vmEndRow, standIns := [], harness := (true, "acb22c034d348b474144c738bcf6e00ffc8c9e9e8f23376e7839358d89c8a2c1"), looks := false }, kinds := [], alts := [], laidByText := true, laidKinds := [.data], laidTests := true, laidLooks := .later }
def VmEndCardSaid : Prop := Claim7.holds Tryd.pinned (.plain (OpenSpec.ofChange vmEndSpec)) vmEndCard

/-- THE TIED CARD OF 'boomeranglaw06.VmNil'. -/
def vmNilCard : Claim7 := { stood := { row := vmNilRow, standIns := [], harness := (true, "acb22c034d348b474144c738bcf6e00ffc8c9e9e8f23376e7839358d89c8a2c1"), looks := false }, kinds := [], alts := [], laidByText := true, laidKinds := [.data], laidTests := true, laidLooks := .later }
def VmNilCardSaid : Prop := Claim7.holds Tryd.pinned (.plain (OpenSpec.ofChange vmNilSpec)) vmNilCard

/-- THE SECOND FORM's CARD OF 'boomeranglaw06.VmSame'. -/
def vmSameUptoCard : Claim7 := { stood := { row := vmSameUptoRow, standIns := [], harness := (true, "acb22c034d348b474144c738bcf6e00ffc8c9e9e8f23376e7839358d89c8a2c1"), looks := false }, kinds := [], alts := [], laidByText := true, laidKinds := [.data], laidTests := true, laidLooks := .later }
def VmSameUptoCardSaid : Prop := Claim7.holds Tryd.pinned (.plain (OpenSpec.upto vmSameSpec)) vmSameUptoCard

/-- THE SECOND FORM's CARD OF 'boomeranglaw06.VmFan'. -/
def vmFanUptoCard : Claim7 := { stood := { row := vmFanUptoRow, standIns := [], harness := (true, "acb22c034d348b474144c738bcf6e00ffc8c9e9e8f23376e7839358d89c8a2c1"), looks := false }, kinds := [], alts := [], laidByText := true, laidKinds := [.data], laidTests := true, laidLooks := .later }
def VmFanUptoCardSaid : Prop := Claim7.holds Tryd.pinned (.plain (OpenSpec.upto vmFanSpec)) vmFanUptoCard

/-- THE SECOND FORM's CARD OF 'boomeranglaw06.VmEnd'. -/
def vmEndUptoCard : Claim7 := { stood := { row := vmEndUptoRow, standIns := [], harness := (true, "acb22c034d348b474144c738bcf6e00ffc8c9e9e8f23376e7839358d89c8a2c1"), looks := false }, kinds := [], alts := [], laidByText := true, laidKinds := [.data], laidTests := true, laidLooks := .later }
def VmEndUptoCardSaid : Prop := Claim7.holds Tryd.pinned (.plain (OpenSpec.upto vmEndSpec)) vmEndUptoCard

/-- THE SECOND FORM's CARD OF 'boomeranglaw06.VmNil'. -/
def vmNilUptoCard : Claim7 := { stood := { row := vmNilUptoRow, standIns := [], harness := (true, "acb22c034d348b474144c738bcf6e00ffc8c9e9e8f23376e7839358d89c8a2c1"), looks := false }, kinds := [], alts := [], laidByText := true, laidKinds := [.data], laidTests := true, laidLooks := .later }
def VmNilUptoCardSaid : Prop := Claim7.holds Tryd.pinned (.plain (OpenSpec.upto vmNilSpec)) vmNilUptoCard
end Rows
end Go.Proofs.YtmamgpgigghocaaDoor
