/-
  No cell of these rows narrows 'for every input' (looked for: loops, veiled, ifaces, maps, wideKeys, modest, calm, conditions, laid).
  DERIVED. THE GIVEN ROWS OF THIS SEAT. 4 by the template 'for every input the law returns true; each argument reads behind the call as it read before'; 0 by the template 'total and deterministic' (their statements: YtfldnbmafbdpeaaTotals.lean).
  GIVEN WITH THE SEED: the statements are not yours to turn. If you find one false, say at which input.
  Laid BY PROGRAM, IN A SANDBOX (cutbox-rows.mjs): the forced cells as the released guide's own fill.sh prints them over the translation ed4538ea884d4e17… (all of the seat's roots in one cut). By AI agents, Wed Nov 11 2026. No macro, syntax, notation, axiom, sorry.
-/
import Derived.Test.YtfldnbmafbdpeaaChecked
import GoSem.Claim
import GoSem.ClaimJoined
import GoSem.ClaimMapViews
import Derived.JoinedTies
import Derived.KernelRfl
namespace Go.Proofs.Ytfldnbmafbdpeaa
/- THE CELL 'sum', in the pinned program and in every row, IS THE sha256 OF THE DUMP (.gsa) THAT YtfldnbmafbdpeaaProg.lean LOADS. Nothing in Lean hashes anything: it is a label: what it is worth is what the hold of that sum in a sandbox is worth. -/
noncomputable def Try.pinned : Pinned := { name := "ytfldnbmafbdpeaa", sum := "ed4538ea884d4e17743426de5317fa6eb22d30044b66e4ec59512d89bcc6297d", checked := Try.checked }
namespace Rows
def none {H : Type} : Left H := { results := [], args := [] }

/-- 'boomeranglaw17.BudgetLess': WHATEVER THE INPUT: true; the input reads as it did. -/
def budgetLessSpec : ChangeSpec := { name := "budgetLess", fn := fun _ => fun
  | [d1, d2, d3] => { results := [.lit (.bool true)], args := [d1, d2, d3] }
  | _ => none }
def budgetLessRow : OpenClaim := { program := "ytfldnbmafbdpeaa", sum := "ed4538ea884d4e17743426de5317fa6eb22d30044b66e4ec59512d89bcc6297d", func := "boomerang/boomeranglaw17.BudgetLess", spec := "budgetLess", apart := false }
def BudgetLessSaid : Prop := budgetLessRow.holds Try.pinned (OpenSpec.ofChange budgetLessSpec)

/-- ITS FALSE NEIGHBOUR: 'it returns false'. Refute it at one input. -/
def budgetLessWrong : ChangeSpec := { name := "budgetLess", fn := fun _ => fun
  | [d1, d2, d3] => { results := [.lit (.bool false)], args := [d1, d2, d3] }
  | _ => none }
def BudgetLessWrongFalsely : Prop := budgetLessRow.holds Try.pinned (OpenSpec.ofChange budgetLessWrong)

/-- 'boomeranglaw17.BudgetFits': WHATEVER THE INPUT: true; the input reads as it did. -/
def budgetFitsSpec : ChangeSpec := { name := "budgetFits", fn := fun _ => fun
  | [d1, d2, d3] => { results := [.lit (.bool true)], args := [d1, d2, d3] }
  | _ => none }
def budgetFitsRow : OpenClaim := { program := "ytfldnbmafbdpeaa", sum := "ed4538ea884d4e17743426de5317fa6eb22d30044b66e4ec59512d89bcc6297d", func := "boomerang/boomeranglaw17.BudgetFits", spec := "budgetFits", apart := false }
def BudgetFitsSaid : Prop := budgetFitsRow.holds Try.pinned (OpenSpec.ofChange budgetFitsSpec)

/-- ITS FALSE NEIGHBOUR: 'it returns false'. Refute it at one input. -/
def budgetFitsWrong : ChangeSpec := { name := "budgetFits", fn := fun _ => fun
  | [d1, d2, d3] => { results := [.lit (.bool false)], args := [d1, d2, d3] }
  | _ => none }
def BudgetFitsWrongFalsely : Prop := budgetFitsRow.holds Try.pinned (OpenSpec.ofChange budgetFitsWrong)

/-- 'boomeranglaw17.BudgetNil': WHATEVER THE INPUT: true; the input reads as it did. -/
def budgetNilSpec : ChangeSpec := { name := "budgetNil", fn := fun _ => fun
  | [d] => { results := [.lit (.bool true)], args := [d] }
  | _ => none }
def budgetNilRow : OpenClaim := { program := "ytfldnbmafbdpeaa", sum := "ed4538ea884d4e17743426de5317fa6eb22d30044b66e4ec59512d89bcc6297d", func := "boomerang/boomeranglaw17.BudgetNil", spec := "budgetNil", apart := false }
def BudgetNilSaid : Prop := budgetNilRow.holds Try.pinned (OpenSpec.ofChange budgetNilSpec)

/-- ITS FALSE NEIGHBOUR: 'it returns false'. Refute it at one input. -/
def budgetNilWrong : ChangeSpec := { name := "budgetNil", fn := fun _ => fun
  | [d] => { results := [.lit (.bool false)], args := [d] }
  | _ => none }
def BudgetNilWrongFalsely : Prop := budgetNilRow.holds Try.pinned (OpenSpec.ofChange budgetNilWrong)

/-- 'boomeranglaw17.BudgetVictims': WHATEVER THE INPUT: true; the input reads as it did. -/
def budgetVictimsSpec : ChangeSpec := { name := "budgetVictims", fn := fun _ => fun
  | [d1, d2] => { results := [.lit (.bool true)], args := [d1, d2] }
  | _ => none }
def budgetVictimsRow : OpenClaim := { program := "ytfldnbmafbdpeaa", sum := "ed4538ea884d4e17743426de5317fa6eb22d30044b66e4ec59512d89bcc6297d", func := "boomerang/boomeranglaw17.BudgetVictims", spec := "budgetVictims", apart := false }
def BudgetVictimsSaid : Prop := budgetVictimsRow.holds Try.pinned (OpenSpec.ofChange budgetVictimsSpec)

/-- ITS FALSE NEIGHBOUR: 'it returns false'. Refute it at one input. -/
def budgetVictimsWrong : ChangeSpec := { name := "budgetVictims", fn := fun _ => fun
  | [d1, d2] => { results := [.lit (.bool false)], args := [d1, d2] }
  | _ => none }
def BudgetVictimsWrongFalsely : Prop := budgetVictimsRow.holds Try.pinned (OpenSpec.ofChange budgetVictimsWrong)

/- THE SECOND FORM. 'bulk': how many values and letters a reading holds, each counted each time it is reached (what is shared counts as often as it is met; a slice's spare places count too). A statement '..UptoSaid' is the law's where the arguments, and the package variables that the reading takes, are together of bulk at most 1048576: NARROWER than '..Said'. Prove '..Said' where nothing that the law and all that it calls make is longer than what came in: it says more and counts as full. Else prove '..UptoSaid'. A law counts once. -/
mutual
def uptoBulk {H : Type} : DataW H → Nat
  | .lit (.string bytes) => bytes.length + 1
  | .lit _ => 1
  | .nil => 1
  | .ptr d => uptoBulk d + 1
  | .slice elems spare => uptoBulkAll elems + uptoBulkAll spare + 1
  | .agg parts => uptoBulkAll parts + 1
  | .iface _ d => uptoBulk d + 1
  | .map entries => uptoBulkEntries entries + 1
  | .held _ => 1
def uptoBulkAll {H : Type} : List (DataW H) → Nat
  | [] => 0
  | d :: r => uptoBulk d + uptoBulkAll r
def uptoBulkEntries {H : Type} : List (Lit × DataW H) → Nat
  | [] => 0
  | x :: r => uptoBulkEntry x + uptoBulkEntries r
def uptoBulkEntry {H : Type} : Lit × DataW H → Nat
  | (.string bytes, d) => bytes.length + uptoBulk d + 1
  | (_, d) => uptoBulk d + 1
 end
def uptoSmall : (H : Type) → List (DataW H) → Bool := fun _ ds => decide (uptoBulkAll ds ≤ 1048576)
def OpenSpec.upto (s : _root_.Go.ChangeSpec) : _root_.Go.OpenSpec := { _root_.Go.OpenSpec.ofChange s with cond := some uptoSmall }

/-- 'boomeranglaw17.BudgetLess', WHERE WHAT IT READS IS OF BULK AT MOST 1048576: true; the input reads as it did. -/
def budgetLessUptoRow : OpenClaim := { program := "ytfldnbmafbdpeaa", sum := "ed4538ea884d4e17743426de5317fa6eb22d30044b66e4ec59512d89bcc6297d", func := "boomerang/boomeranglaw17.BudgetLess", spec := "budgetLess", apart := false, narrowed := true }
def BudgetLessUptoSaid : Prop := budgetLessUptoRow.holds Try.pinned (OpenSpec.upto budgetLessSpec)

/-- 'boomeranglaw17.BudgetFits', WHERE WHAT IT READS IS OF BULK AT MOST 1048576: true; the input reads as it did. -/
def budgetFitsUptoRow : OpenClaim := { program := "ytfldnbmafbdpeaa", sum := "ed4538ea884d4e17743426de5317fa6eb22d30044b66e4ec59512d89bcc6297d", func := "boomerang/boomeranglaw17.BudgetFits", spec := "budgetFits", apart := false, narrowed := true }
def BudgetFitsUptoSaid : Prop := budgetFitsUptoRow.holds Try.pinned (OpenSpec.upto budgetFitsSpec)

/-- 'boomeranglaw17.BudgetNil', WHERE WHAT IT READS IS OF BULK AT MOST 1048576: true; the input reads as it did. -/
def budgetNilUptoRow : OpenClaim := { program := "ytfldnbmafbdpeaa", sum := "ed4538ea884d4e17743426de5317fa6eb22d30044b66e4ec59512d89bcc6297d", func := "boomerang/boomeranglaw17.BudgetNil", spec := "budgetNil", apart := false, narrowed := true }
def BudgetNilUptoSaid : Prop := budgetNilUptoRow.holds Try.pinned (OpenSpec.upto budgetNilSpec)

/-- 'boomeranglaw17.BudgetVictims', WHERE WHAT IT READS IS OF BULK AT MOST 1048576: true; the input reads as it did. -/
def budgetVictimsUptoRow : OpenClaim := { program := "ytfldnbmafbdpeaa", sum := "ed4538ea884d4e17743426de5317fa6eb22d30044b66e4ec59512d89bcc6297d", func := "boomerang/boomeranglaw17.BudgetVictims", spec := "budgetVictims", apart := false, narrowed := true }
def BudgetVictimsUptoSaid : Prop := budgetVictimsUptoRow.holds Try.pinned (OpenSpec.upto budgetVictimsSpec)

end Rows
end Go.Proofs.Ytfldnbmafbdpeaa
