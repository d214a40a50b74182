/-
  No cell of these rows narrows 'for every input' (looked for: loops, veiled, ifaces, maps, wideKeys, modest, calm, conditions, laid).
  DERIVED. THE GIVEN ROWS OF THIS SEAT. 6 by the template 'for every input the law returns true; each argument reads behind the call as it read before'; 0 by the template 'total and deterministic' (their statements: YtegffmnenicldaaTotals.lean).
  GIVEN WITH THE SEED: the statements are not yours to turn. If you find one false, say at which input.
  Laid BY PROGRAM, IN A SANDBOX (cutbox-rows.mjs): the forced cells as the released guide's own fill.sh prints them over the translation 5af724901c9a4c84… (all of the seat's roots in one cut). By AI agents, Wed Nov 11 2026. No macro, syntax, notation, axiom, sorry.
-/
import Derived.Test.YtegffmnenicldaaChecked
import GoSem.Claim
import GoSem.ClaimJoined
import GoSem.ClaimMapViews
import Derived.JoinedTies
import Derived.KernelRfl
namespace Go.Proofs.Ytegffmnenicldaa
/- THE CELL 'sum', in the pinned program and in every row, IS THE sha256 OF THE DUMP (.gsa) THAT YtegffmnenicldaaProg.lean LOADS. Nothing in Lean hashes anything: it is a label: what it is worth is what the hold of that sum in a sandbox is worth. -/
noncomputable def Try.pinned : Pinned := { name := "ytegffmnenicldaa", sum := "5af724901c9a4c840faddd6de0c1aa272cf40ff46aa94b2bfb0347586dfae266", checked := Try.checked }
namespace Rows
def none {H : Type} : Left H := { results := [], args := [] }

/-- 'boomeranglaw15.GvtWorks': WHATEVER THE INPUT: true; the input reads as it did. -/
def gvtWorksSpec : ChangeSpec := { name := "gvtWorks", fn := fun _ => fun
  | [d] => { results := [.lit (.bool true)], args := [d] }
  | _ => none }
def gvtWorksRow : OpenClaim := { program := "ytegffmnenicldaa", sum := "5af724901c9a4c840faddd6de0c1aa272cf40ff46aa94b2bfb0347586dfae266", func := "boomerang/boomeranglaw15.GvtWorks", spec := "gvtWorks", apart := false }
def GvtWorksSaid : Prop := gvtWorksRow.holds Try.pinned (OpenSpec.ofChange gvtWorksSpec)

/-- ITS FALSE NEIGHBOUR: 'it returns false'. Refute it at one input. -/
def gvtWorksWrong : ChangeSpec := { name := "gvtWorks", fn := fun _ => fun
  | [d] => { results := [.lit (.bool false)], args := [d] }
  | _ => none }
def GvtWorksWrongFalsely : Prop := gvtWorksRow.holds Try.pinned (OpenSpec.ofChange gvtWorksWrong)

/-- 'boomeranglaw15.GvtLocal': WHATEVER THE INPUT: true; the input reads as it did. -/
def gvtLocalSpec : ChangeSpec := { name := "gvtLocal", fn := fun _ => fun
  | [d1, d2, d3] => { results := [.lit (.bool true)], args := [d1, d2, d3] }
  | _ => none }
def gvtLocalRow : OpenClaim := { program := "ytegffmnenicldaa", sum := "5af724901c9a4c840faddd6de0c1aa272cf40ff46aa94b2bfb0347586dfae266", func := "boomerang/boomeranglaw15.GvtLocal", spec := "gvtLocal", apart := false }
def GvtLocalSaid : Prop := gvtLocalRow.holds Try.pinned (OpenSpec.ofChange gvtLocalSpec)

/-- ITS FALSE NEIGHBOUR: 'it returns false'. Refute it at one input. -/
def gvtLocalWrong : ChangeSpec := { name := "gvtLocal", fn := fun _ => fun
  | [d1, d2, d3] => { results := [.lit (.bool false)], args := [d1, d2, d3] }
  | _ => none }
def GvtLocalWrongFalsely : Prop := gvtLocalRow.holds Try.pinned (OpenSpec.ofChange gvtLocalWrong)

/-- 'boomeranglaw15.GvtBelow': WHATEVER THE INPUT: true; the input reads as it did. -/
def gvtBelowSpec : ChangeSpec := { name := "gvtBelow", fn := fun _ => fun
  | [d1, d2] => { results := [.lit (.bool true)], args := [d1, d2] }
  | _ => none }
def gvtBelowRow : OpenClaim := { program := "ytegffmnenicldaa", sum := "5af724901c9a4c840faddd6de0c1aa272cf40ff46aa94b2bfb0347586dfae266", func := "boomerang/boomeranglaw15.GvtBelow", spec := "gvtBelow", apart := false }
def GvtBelowSaid : Prop := gvtBelowRow.holds Try.pinned (OpenSpec.ofChange gvtBelowSpec)

/-- ITS FALSE NEIGHBOUR: 'it returns false'. Refute it at one input. -/
def gvtBelowWrong : ChangeSpec := { name := "gvtBelow", fn := fun _ => fun
  | [d1, d2] => { results := [.lit (.bool false)], args := [d1, d2] }
  | _ => none }
def GvtBelowWrongFalsely : Prop := gvtBelowRow.holds Try.pinned (OpenSpec.ofChange gvtBelowWrong)

/-- 'boomeranglaw15.GvtComes': WHATEVER THE INPUT: true; the input reads as it did. -/
def gvtComesSpec : ChangeSpec := { name := "gvtComes", fn := fun _ => fun
  | [d1, d2] => { results := [.lit (.bool true)], args := [d1, d2] }
  | _ => none }
def gvtComesRow : OpenClaim := { program := "ytegffmnenicldaa", sum := "5af724901c9a4c840faddd6de0c1aa272cf40ff46aa94b2bfb0347586dfae266", func := "boomerang/boomeranglaw15.GvtComes", spec := "gvtComes", apart := false }
def GvtComesSaid : Prop := gvtComesRow.holds Try.pinned (OpenSpec.ofChange gvtComesSpec)

/-- ITS FALSE NEIGHBOUR: 'it returns false'. Refute it at one input. -/
def gvtComesWrong : ChangeSpec := { name := "gvtComes", fn := fun _ => fun
  | [d1, d2] => { results := [.lit (.bool false)], args := [d1, d2] }
  | _ => none }
def GvtComesWrongFalsely : Prop := gvtComesRow.holds Try.pinned (OpenSpec.ofChange gvtComesWrong)

/-- 'boomeranglaw15.GvtMasters': WHATEVER THE INPUT: true; the input reads as it did. -/
def gvtMastersSpec : ChangeSpec := { name := "gvtMasters", fn := fun _ => fun
  | [d1, d2] => { results := [.lit (.bool true)], args := [d1, d2] }
  | _ => none }
def gvtMastersRow : OpenClaim := { program := "ytegffmnenicldaa", sum := "5af724901c9a4c840faddd6de0c1aa272cf40ff46aa94b2bfb0347586dfae266", func := "boomerang/boomeranglaw15.GvtMasters", spec := "gvtMasters", apart := false }
def GvtMastersSaid : Prop := gvtMastersRow.holds Try.pinned (OpenSpec.ofChange gvtMastersSpec)

/-- ITS FALSE NEIGHBOUR: 'it returns false'. Refute it at one input. -/
def gvtMastersWrong : ChangeSpec := { name := "gvtMasters", fn := fun _ => fun
  | [d1, d2] => { results := [.lit (.bool false)], args := [d1, d2] }
  | _ => none }
def GvtMastersWrongFalsely : Prop := gvtMastersRow.holds Try.pinned (OpenSpec.ofChange gvtMastersWrong)

/-- 'boomeranglaw15.GvtNil': WHATEVER THE INPUT: true; the input reads as it did. -/
def gvtNilSpec : ChangeSpec := { name := "gvtNil", fn := fun _ => fun
  | [d1, d2, d3] => { results := [.lit (.bool true)], args := [d1, d2, d3] }
  | _ => none }
def gvtNilRow : OpenClaim := { program := "ytegffmnenicldaa", sum := "5af724901c9a4c840faddd6de0c1aa272cf40ff46aa94b2bfb0347586dfae266", func := "boomerang/boomeranglaw15.GvtNil", spec := "gvtNil", apart := false }
def GvtNilSaid : Prop := gvtNilRow.holds Try.pinned (OpenSpec.ofChange gvtNilSpec)

/-- ITS FALSE NEIGHBOUR: 'it returns false'. Refute it at one input. -/
def gvtNilWrong : ChangeSpec := { name := "gvtNil", fn := fun _ => fun
  | [d1, d2, d3] => { results := [.lit (.bool false)], args := [d1, d2, d3] }
  | _ => none }
def GvtNilWrongFalsely : Prop := gvtNilRow.holds Try.pinned (OpenSpec.ofChange gvtNilWrong)

/- THE SECOND FORM. 'bulk': how many values and letters a reading holds, each counted each time it is reached (what is shared counts as often as it is met; a slice's spare places count too). A statement '..UptoSaid' is the law's where the arguments, and the package variables that the reading takes, are together of bulk at most 1048576: NARROWER than '..Said'. Prove '..Said' where nothing that the law and all that it calls make is longer than what came in: it says more and counts as full. Else prove '..UptoSaid'. A law counts once. -/
mutual
def uptoBulk {H : Type} : DataW H → Nat
  | .lit (.string bytes) => bytes.length + 1
  | .lit _ => 1
  | .nil => 1
  | .ptr d => uptoBulk d + 1
  | .slice elems spare => uptoBulkAll elems + uptoBulkAll spare + 1
  | .agg parts => uptoBulkAll parts + 1
  | .iface _ d => uptoBulk d + 1
  | .map entries => uptoBulkEntries entries + 1
  | .held _ => 1
def uptoBulkAll {H : Type} : List (DataW H) → Nat
  | [] => 0
  | d :: r => uptoBulk d + uptoBulkAll r
def uptoBulkEntries {H : Type} : List (Lit × DataW H) → Nat
  | [] => 0
  | x :: r => uptoBulkEntry x + uptoBulkEntries r
def uptoBulkEntry {H : Type} : Lit × DataW H → Nat
  | (.string bytes, d) => bytes.length + uptoBulk d + 1
  | (_, d) => uptoBulk d + 1
 end
def uptoSmall : (H : Type) → List (DataW H) → Bool := fun _ ds => decide (uptoBulkAll ds ≤ 1048576)
def OpenSpec.upto (s : _root_.Go.ChangeSpec) : _root_.Go.OpenSpec := { _root_.Go.OpenSpec.ofChange s with cond := some uptoSmall }

/-- 'boomeranglaw15.GvtWorks', WHERE WHAT IT READS IS OF BULK AT MOST 1048576: true; the input reads as it did. -/
def gvtWorksUptoRow : OpenClaim := { program := "ytegffmnenicldaa", sum := "5af724901c9a4c840faddd6de0c1aa272cf40ff46aa94b2bfb0347586dfae266", func := "boomerang/boomeranglaw15.GvtWorks", spec := "gvtWorks", apart := false, narrowed := true }
def GvtWorksUptoSaid : Prop := gvtWorksUptoRow.holds Try.pinned (OpenSpec.upto gvtWorksSpec)

/-- 'boomeranglaw15.GvtLocal', WHERE WHAT IT READS IS OF BULK AT MOST 1048576: true; the input reads as it did. -/
def gvtLocalUptoRow : OpenClaim := { program := "ytegffmnenicldaa", sum := "5af724901c9a4c840faddd6de0c1aa272cf40ff46aa94b2bfb0347586dfae266", func := "boomerang/boomeranglaw15.GvtLocal", spec := "gvtLocal", apart := false, narrowed := true }
def GvtLocalUptoSaid : Prop := gvtLocalUptoRow.holds Try.pinned (OpenSpec.upto gvtLocalSpec)

/-- 'boomeranglaw15.GvtBelow', WHERE WHAT IT READS IS OF BULK AT MOST 1048576: true; the input reads as it did. -/
def gvtBelowUptoRow : OpenClaim := { program := "ytegffmnenicldaa", sum := "5af724901c9a4c840faddd6de0c1aa272cf40ff46aa94b2bfb0347586dfae266", func := "boomerang/boomeranglaw15.GvtBelow", spec := "gvtBelow", apart := false, narrowed := true }
def GvtBelowUptoSaid : Prop := gvtBelowUptoRow.holds Try.pinned (OpenSpec.upto gvtBelowSpec)

/-- 'boomeranglaw15.GvtComes', WHERE WHAT IT READS IS OF BULK AT MOST 1048576: true; the input reads as it did. -/
def gvtComesUptoRow : OpenClaim := { program := "ytegffmnenicldaa", sum := "5af724901c9a4c840faddd6de0c1aa272cf40ff46aa94b2bfb0347586dfae266", func := "boomerang/boomeranglaw15.GvtComes", spec := "gvtComes", apart := false, narrowed := true }
def GvtComesUptoSaid : Prop := gvtComesUptoRow.holds Try.pinned (OpenSpec.upto gvtComesSpec)

/-- 'boomeranglaw15.GvtMasters', WHERE WHAT IT READS IS OF BULK AT MOST 1048576: true; the input reads as it did. -/
def gvtMastersUptoRow : OpenClaim := { program := "ytegffmnenicldaa", sum := "5af724901c9a4c840faddd6de0c1aa272cf40ff46aa94b2bfb0347586dfae266", func := "boomerang/boomeranglaw15.GvtMasters", spec := "gvtMasters", apart := false, narrowed := true }
def GvtMastersUptoSaid : Prop := gvtMastersUptoRow.holds Try.pinned (OpenSpec.upto gvtMastersSpec)

/-- 'boomeranglaw15.GvtNil', WHERE WHAT IT READS IS OF BULK AT MOST 1048576: true; the input reads as it did. -/
def gvtNilUptoRow : OpenClaim := { program := "ytegffmnenicldaa", sum := "5af724901c9a4c840faddd6de0c1aa272cf40ff46aa94b2bfb0347586dfae266", func := "boomerang/boomeranglaw15.GvtNil", spec := "gvtNil", apart := false, narrowed := true }
def GvtNilUptoSaid : Prop := gvtNilUptoRow.holds Try.pinned (OpenSpec.upto gvtNilSpec)

end Rows
end Go.Proofs.Ytegffmnenicldaa
