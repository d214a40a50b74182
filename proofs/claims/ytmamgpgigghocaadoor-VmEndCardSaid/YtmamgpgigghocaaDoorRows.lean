/-
  NARROWER THAN 'FOR EVERY INPUT', by the rows' own cells (each row's printed sentence says how): VmSame: laid · VmFan: laid · VmEnd: laid · VmNil: laid.
  DERIVED. THE GIVEN ROWS OF THIS SEAT. 4 by the template 'for every input the law returns true; each argument reads behind the call as it read before'; 0 by the template 'total and deterministic' (their statements: YtmamgpgigghocaaDoorTotals.lean).
  GIVEN WITH THE SEED: the statements are not yours to turn. If you find one false, say at which input.
  Laid BY PROGRAM, IN A SANDBOX (cutbox-rows.mjs): the forced cells as the released guide's own fill.sh prints them over the translation 34d9dab5b9d04350… (all of the seat's roots in one cut). By AI agents, Wed Nov 11 2026. No macro, syntax, notation, axiom, sorry.
-/
import Derived.Test.YtmamgpgigghocaaDoorChecked
import GoSem.Claim
import GoSem.ClaimJoined
import GoSem.ClaimMapViews
import Derived.JoinedTies
import Derived.KernelRfl
namespace Go.Proofs.YtmamgpgigghocaaDoor
/- THE CELL 'sum', in the pinned program and in every row, IS THE sha256 OF THE DUMP (.gsa) THAT YtmamgpgigghocaaDoorProg.lean LOADS. Nothing in Lean hashes anything: it is a label: what it is worth is what the hold of that sum in a sandbox is worth. -/
noncomputable def Tryd.pinned : Pinned := { name := "ytmamgpgigghocaadoor", sum := "34d9dab5b9d0435061e4c3b3419f47c9fe325937ba18a2f6ce950794cd8e8af4", checked := Tryd.checked }
namespace Rows
def none {H : Type} : Left H := { results := [], args := [] }

/- WHAT THE LISTED PACKAGE-LEVEL VARIABLES READ AS WHEN THE CALL BEGINS. Each datum BY PROGRAM (the guide's laid-datum.mjs) off the statement by which the dump's own 'gosem.cut.vars' lays the variable. In a bare row this is a premise. The card (YtmamgpgigghocaaDoorCards.lean) ties it to the program's text. -/
def laid_boomerang_code_table {H : Type} : DataW H := .agg [.agg [.agg [.lit (.string []), .lit (.int .i64 0)], .agg [.lit (.int .i64 0), .lit (.int .i64 0), .lit (.int .i64 0), .lit (.int .i64 0)]], .agg [.agg [.lit (.string [115, 101, 116]), .lit (.int .i64 2)], .agg [.lit (.int .i64 1), .lit (.int .i64 2), .lit (.int .i64 0), .lit (.int .i64 0)]], .agg [.agg [.lit (.string [109, 111, 118, 101]), .lit (.int .i64 2)], .agg [.lit (.int .i64 1), .lit (.int .i64 1), .lit (.int .i64 0), .lit (.int .i64 0)]], .agg [.agg [.lit (.string [97, 100, 100]), .lit (.int .i64 3)], .agg [.lit (.int .i64 1), .lit (.int .i64 1), .lit (.int .i64 1), .lit (.int .i64 0)]], .agg [.agg [.lit (.string [115, 117, 98]), .lit (.int .i64 3)], .agg [.lit (.int .i64 1), .lit (.int .i64 1), .lit (.int .i64 1), .lit (.int .i64 0)]], .agg [.agg [.lit (.string [109, 117, 108]), .lit (.int .i64 3)], .agg [.lit (.int .i64 1), .lit (.int .i64 1), .lit (.int .i64 1), .lit (.int .i64 0)]], .agg [.agg [.lit (.string [109, 111, 100]), .lit (.int .i64 3)], .agg [.lit (.int .i64 1), .lit (.int .i64 1), .lit (.int .i64 1), .lit (.int .i64 0)]], .agg [.agg [.lit (.string [108, 101, 115, 115]), .lit (.int .i64 3)], .agg [.lit (.int .i64 1), .lit (.int .i64 1), .lit (.int .i64 1), .lit (.int .i64 0)]], .agg [.agg [.lit (.string [106, 117, 109, 112]), .lit (.int .i64 1)], .agg [.lit (.int .i64 3), .lit (.int .i64 0), .lit (.int .i64 0), .lit (.int .i64 0)]], .agg [.agg [.lit (.string [122, 101, 114, 111]), .lit (.int .i64 2)], .agg [.lit (.int .i64 1), .lit (.int .i64 3), .lit (.int .i64 0), .lit (.int .i64 0)]], .agg [.agg [.lit (.string [110, 111, 119]), .lit (.int .i64 1)], .agg [.lit (.int .i64 1), .lit (.int .i64 0), .lit (.int .i64 0), .lit (.int .i64 0)]], .agg [.agg [.lit (.string [107, 105, 110, 100]), .lit (.int .i64 1)], .agg [.lit (.int .i64 1), .lit (.int .i64 0), .lit (.int .i64 0), .lit (.int .i64 0)]], .agg [.agg [.lit (.string [100, 97, 116, 97]), .lit (.int .i64 1)], .agg [.lit (.int .i64 1), .lit (.int .i64 0), .lit (.int .i64 0), .lit (.int .i64 0)]], .agg [.agg [.lit (.string [115, 101, 108, 102]), .lit (.int .i64 1)], .agg [.lit (.int .i64 1), .lit (.int .i64 0), .lit (.int .i64 0), .lit (.int .i64 0)]], .agg [.agg [.lit (.string [115, 101, 110, 100]), .lit (.int .i64 4)], .agg [.lit (.int .i64 1), .lit (.int .i64 1), .lit (.int .i64 1), .lit (.int .i64 4)]], .agg [.agg [.lit (.string [115, 116, 111, 112]), .lit (.int .i64 0)], .agg [.lit (.int .i64 0), .lit (.int .i64 0), .lit (.int .i64 0), .lit (.int .i64 0)]]]

/-- 'boomeranglaw06.VmSame': WHATEVER THE INPUT: true; the input reads as it did. -/
def vmSameSpec : ChangeSpec := { name := "vmSame", fn := fun _ => fun
  | [d1, d2, d3] => { results := [.lit (.bool true)], args := [d1, d2, d3] }
  | _ => none }
def vmSameRow : OpenClaim := { program := "ytmamgpgigghocaadoor", sum := "34d9dab5b9d0435061e4c3b3419f47c9fe325937ba18a2f6ce950794cd8e8af4", func := "boomerang/boomeranglaw06.VmSame", spec := "vmSame", named := ["boomerang/code.table"], apart := false, laid := [("boomerang/code.table", laid_boomerang_code_table)] }
def VmSameSaid : Prop := vmSameRow.holds Tryd.pinned (OpenSpec.ofChange vmSameSpec)

/-- ITS FALSE NEIGHBOUR: 'it returns false'. Refute it at one input. -/
def vmSameWrong : ChangeSpec := { name := "vmSame", fn := fun _ => fun
  | [d1, d2, d3] => { results := [.lit (.bool false)], args := [d1, d2, d3] }
  | _ => none }
def VmSameWrongFalsely : Prop := vmSameRow.holds Tryd.pinned (OpenSpec.ofChange vmSameWrong)

/-- 'boomeranglaw06.VmFan': WHATEVER THE INPUT: true; the input reads as it did. -/
def vmFanSpec : ChangeSpec := { name := "vmFan", fn := fun _ => fun
  | [d1, d2, d3] => { results := [.lit (.bool true)], args := [d1, d2, d3] }
  | _ => none }
def vmFanRow : OpenClaim := { program := "ytmamgpgigghocaadoor", sum := "34d9dab5b9d0435061e4c3b3419f47c9fe325937ba18a2f6ce950794cd8e8af4", func := "boomerang/boomeranglaw06.VmFan", spec := "vmFan", named := ["boomerang/code.table"], apart := false, laid := [("boomerang/code.table", laid_boomerang_code_table)] }
def VmFanSaid : Prop := vmFanRow.holds Tryd.pinned (OpenSpec.ofChange vmFanSpec)

/-- ITS FALSE NEIGHBOUR: 'it returns false'. Refute it at one input. -/
def vmFanWrong : ChangeSpec := { name := "vmFan", fn := fun _ => fun
  | [d1, d2, d3] => { results := [.lit (.bool false)], args := [d1, d2, d3] }
  | _ => none }
def VmFanWrongFalsely : Prop := vmFanRow.holds Tryd.pinned (OpenSpec.ofChange vmFanWrong)

/-- 'boomeranglaw06.VmEnd': WHATEVER THE INPUT: true; the input reads as it did. -/
def vmEndSpec : ChangeSpec := { name := "vmEnd", fn := fun _ => fun
  | [d1, d2] => { results := [.lit (.bool true)], args := [d1, d2] }
  | _ => none }
def vmEndRow : OpenClaim := { program := "ytmamgpgigghocaadoor", sum := "34d9dab5b9d0435061e4c3b3419f47c9fe325937ba18a2f6ce950794cd8e8af4", func := "boomerang/boomeranglaw06.VmEnd", spec := "vmEnd", named := ["boomerang/code.table"], apart := false, laid := [("boomerang/code.table", laid_boomerang_code_table)] }
def VmEndSaid : Prop := vmEndRow.holds Tryd.pinned (OpenSpec.ofChange vmEndSpec)

/-- ITS FALSE NEIGHBOUR: 'it returns false'. Refute it at one input. -/
def vmEndWrong : ChangeSpec := { name := "vmEnd", fn := fun _ => fun
  | [d1, d2] => { results := [.lit (.bool false)], args := [d1, d2] }
  | _ => none }
def VmEndWrongFalsely : Prop := vmEndRow.holds Tryd.pinned (OpenSpec.ofChange vmEndWrong)

/-- 'boomeranglaw06.VmNil': WHATEVER THE INPUT: true; the input reads as it did. -/
def vmNilSpec : ChangeSpec := { name := "vmNil", fn := fun _ => fun
  | [d1, d2] => { results := [.lit (.bool true)], args := [d1, d2] }
  | _ => none }
def vmNilRow : OpenClaim := { program := "ytmamgpgigghocaadoor", sum := "34d9dab5b9d0435061e4c3b3419f47c9fe325937ba18a2f6ce950794cd8e8af4", func := "boomerang/boomeranglaw06.VmNil", spec := "vmNil", named := ["boomerang/code.table"], apart := false, laid := [("boomerang/code.table", laid_boomerang_code_table)] }
def VmNilSaid : Prop := vmNilRow.holds Tryd.pinned (OpenSpec.ofChange vmNilSpec)

/-- ITS FALSE NEIGHBOUR: 'it returns false'. Refute it at one input. -/
def vmNilWrong : ChangeSpec := { name := "vmNil", fn := fun _ => fun
  | [d1, d2] => { results := [.lit (.bool false)], args := [d1, d2] }
  | _ => none }
def VmNilWrongFalsely : Prop := vmNilRow.holds Tryd.pinned (OpenSpec.ofChange vmNilWrong)

/- THE SECOND FORM. 'bulk': how many values and letters a reading holds, each counted each time it is reached (what is shared counts as often as it is met; a slice's spare places count too). A statement '..UptoSaid' is the law's where the arguments, and the package variables that the reading takes, are together of bulk at most 1048576: NARROWER than '..Said'. Prove '..Said' where nothing that the law and all that it calls make is longer than what came in: it says more and counts as full. Else prove '..UptoSaid'. A law counts once. -/
mutual
def uptoBulk {H : Type} : DataW H → Nat
  | .lit (.string bytes) => bytes.length + 1
  | .lit _ => 1
  | .nil => 1
  | .ptr d => uptoBulk d + 1
  | .slice elems spare => uptoBulkAll elems + uptoBulkAll spare + 1
  | .agg parts => uptoBulkAll parts + 1
  | .iface _ d => uptoBulk d + 1
  | .map entries => uptoBulkEntries entries + 1
  | .held _ => 1
def uptoBulkAll {H : Type} : List (DataW H) → Nat
  | [] => 0
  | d :: r => uptoBulk d + uptoBulkAll r
def uptoBulkEntries {H : Type} : List (Lit × DataW H) → Nat
  | [] => 0
  | x :: r => uptoBulkEntry x + uptoBulkEntries r
def uptoBulkEntry {H : Type} : Lit × DataW H → Nat
  | (.string bytes, d) => bytes.length + uptoBulk d + 1
  | (_, d) => uptoBulk d + 1
 end
def uptoSmall : (H : Type) → List (DataW H) → Bool := fun _ ds => decide (uptoBulkAll ds ≤ 1048576)
def OpenSpec.upto (s : _root_.Go.ChangeSpec) : _root_.Go.OpenSpec := { _root_.Go.OpenSpec.ofChange s with cond := some uptoSmall }

/-- 'boomeranglaw06.VmSame', WHERE WHAT IT READS IS OF BULK AT MOST 1048576: true; the input reads as it did. -/
def vmSameUptoRow : OpenClaim := { program := "ytmamgpgigghocaadoor", sum := "34d9dab5b9d0435061e4c3b3419f47c9fe325937ba18a2f6ce950794cd8e8af4", func := "boomerang/boomeranglaw06.VmSame", spec := "vmSame", named := ["boomerang/code.table"], apart := false, laid := [("boomerang/code.table", laid_boomerang_code_table)], narrowed := true }
def VmSameUptoSaid : Prop := vmSameUptoRow.holds Tryd.pinned (OpenSpec.upto vmSameSpec)

/-- 'boomeranglaw06.VmFan', WHERE WHAT IT READS IS OF BULK AT MOST 1048576: true; the input reads as it did. -/
def vmFanUptoRow : OpenClaim := { program := "ytmamgpgigghocaadoor", sum := "34d9dab5b9d0435061e4c3b3419f47c9fe325937ba18a2f6ce950794cd8e8af4", func := "boomerang/boomeranglaw06.VmFan", spec := "vmFan", named := ["boomerang/code.table"], apart := false, laid := [("boomerang/code.table", laid_boomerang_code_table)], narrowed := true }
def VmFanUptoSaid : Prop := vmFanUptoRow.holds Tryd.pinned (OpenSpec.upto vmFanSpec)

/-- 'boomeranglaw06.VmEnd', WHERE WHAT IT READS IS OF BULK AT MOST 1048576: true; the input reads as it did. -/
def vmEndUptoRow : OpenClaim := { program := "ytmamgpgigghocaadoor", sum := "34d9dab5b9d0435061e4c3b3419f47c9fe325937ba18a2f6ce950794cd8e8af4", func := "boomerang/boomeranglaw06.VmEnd", spec := "vmEnd", named := ["boomerang/code.table"], apart := false, laid := [("boomerang/code.table", laid_boomerang_code_table)], narrowed := true }
def VmEndUptoSaid : Prop := vmEndUptoRow.holds Tryd.pinned (OpenSpec.upto vmEndSpec)

/-- 'boomeranglaw06.VmNil', WHERE WHAT IT READS IS OF BULK AT MOST 1048576: true; the input reads as it did. -/
def vmNilUptoRow : OpenClaim := { program := "ytmamgpgigghocaadoor", sum := "34d9dab5b9d0435061e4c3b3419f47c9fe325937ba18a2f6ce950794cd8e8af4", func := "boomerang/boomeranglaw06.VmNil", spec := "vmNil", named := ["boomerang/code.table"], apart := false, laid := [("boomerang/code.table", laid_boomerang_code_table)], narrowed := true }
def VmNilUptoSaid : Prop := vmNilUptoRow.holds Tryd.pinned (OpenSpec.upto vmNilSpec)

end Rows
end Go.Proofs.YtmamgpgigghocaaDoor
