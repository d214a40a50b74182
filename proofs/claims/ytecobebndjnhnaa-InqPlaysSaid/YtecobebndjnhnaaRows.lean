/-
  No cell of these rows narrows 'for every input' (looked for: loops, veiled, ifaces, maps, wideKeys, modest, calm, conditions, laid).
  DERIVED. THE GIVEN ROWS OF THIS SEAT. 7 by the template 'for every input the law returns true; each argument reads behind the call as it read before'; 0 by the template 'total and deterministic' (their statements: YtecobebndjnhnaaTotals.lean).
  GIVEN WITH THE SEED: the statements are not yours to turn. If you find one false, say at which input.
  Laid BY PROGRAM, IN A SANDBOX (cutbox-rows.mjs): the forced cells as the released guide's own fill.sh prints them over the translation 1ff0c37c9fe7166b… (all of the seat's roots in one cut). By AI agents, Wed Nov 11 2026. No macro, syntax, notation, axiom, sorry.
-/
import Derived.Test.YtecobebndjnhnaaChecked
import GoSem.Claim
import GoSem.ClaimJoined
import GoSem.ClaimMapViews
import Derived.JoinedTies
import Derived.KernelRfl
namespace Go.Proofs.Ytecobebndjnhnaa
/- THE CELL 'sum', in the pinned program and in every row, IS THE sha256 OF THE DUMP (.gsa) THAT YtecobebndjnhnaaProg.lean LOADS. Nothing in Lean hashes anything: it is a label: what it is worth is what the hold of that sum in a sandbox is worth. -/
noncomputable def Try.pinned : Pinned := { name := "ytecobebndjnhnaa", sum := "1ff0c37c9fe7166b74d9f076f7a1079609bb15db96e30da7f3eef6f1b362028e", checked := Try.checked }
namespace Rows
def none {H : Type} : Left H := { results := [], args := [] }

/-- 'boomeranglaw10.InqOrder': WHATEVER THE INPUT: true; the input reads as it did. -/
def inqOrderSpec : ChangeSpec := { name := "inqOrder", fn := fun _ => fun
  | [d1, d2, d3] => { results := [.lit (.bool true)], args := [d1, d2, d3] }
  | _ => none }
def inqOrderRow : OpenClaim := { program := "ytecobebndjnhnaa", sum := "1ff0c37c9fe7166b74d9f076f7a1079609bb15db96e30da7f3eef6f1b362028e", func := "boomerang/boomeranglaw10.InqOrder", spec := "inqOrder", inPlace := ["slices.overlaps[boomerang/api.Event]"], unfollowed := true, recurses := true, apart := false }
def InqOrderSaid : Prop := inqOrderRow.holds Try.pinned (OpenSpec.ofChange inqOrderSpec)

/-- ITS FALSE NEIGHBOUR: 'it returns false'. Refute it at one input. -/
def inqOrderWrong : ChangeSpec := { name := "inqOrder", fn := fun _ => fun
  | [d1, d2, d3] => { results := [.lit (.bool false)], args := [d1, d2, d3] }
  | _ => none }
def InqOrderWrongFalsely : Prop := inqOrderRow.holds Try.pinned (OpenSpec.ofChange inqOrderWrong)

/-- 'boomeranglaw10.InqTurns': WHATEVER THE INPUT: true; the input reads as it did. -/
def inqTurnsSpec : ChangeSpec := { name := "inqTurns", fn := fun _ => fun
  | [d1, d2] => { results := [.lit (.bool true)], args := [d1, d2] }
  | _ => none }
def inqTurnsRow : OpenClaim := { program := "ytecobebndjnhnaa", sum := "1ff0c37c9fe7166b74d9f076f7a1079609bb15db96e30da7f3eef6f1b362028e", func := "boomerang/boomeranglaw10.InqTurns", spec := "inqTurns", inPlace := ["slices.overlaps[boomerang/api.Event]"], unfollowed := true, recurses := true, apart := false }
def InqTurnsSaid : Prop := inqTurnsRow.holds Try.pinned (OpenSpec.ofChange inqTurnsSpec)

/-- ITS FALSE NEIGHBOUR: 'it returns false'. Refute it at one input. -/
def inqTurnsWrong : ChangeSpec := { name := "inqTurns", fn := fun _ => fun
  | [d1, d2] => { results := [.lit (.bool false)], args := [d1, d2] }
  | _ => none }
def InqTurnsWrongFalsely : Prop := inqTurnsRow.holds Try.pinned (OpenSpec.ofChange inqTurnsWrong)

/-- 'boomeranglaw10.InqCounts': WHATEVER THE INPUT: true; the input reads as it did. -/
def inqCountsSpec : ChangeSpec := { name := "inqCounts", fn := fun _ => fun
  | [d] => { results := [.lit (.bool true)], args := [d] }
  | _ => none }
def inqCountsRow : OpenClaim := { program := "ytecobebndjnhnaa", sum := "1ff0c37c9fe7166b74d9f076f7a1079609bb15db96e30da7f3eef6f1b362028e", func := "boomerang/boomeranglaw10.InqCounts", spec := "inqCounts", inPlace := ["slices.overlaps[boomerang/api.Event]"], unfollowed := true, recurses := true, apart := false }
def InqCountsSaid : Prop := inqCountsRow.holds Try.pinned (OpenSpec.ofChange inqCountsSpec)

/-- ITS FALSE NEIGHBOUR: 'it returns false'. Refute it at one input. -/
def inqCountsWrong : ChangeSpec := { name := "inqCounts", fn := fun _ => fun
  | [d] => { results := [.lit (.bool false)], args := [d] }
  | _ => none }
def InqCountsWrongFalsely : Prop := inqCountsRow.holds Try.pinned (OpenSpec.ofChange inqCountsWrong)

/-- 'boomeranglaw10.InqBack': WHATEVER THE INPUT: true; the input reads as it did. -/
def inqBackSpec : ChangeSpec := { name := "inqBack", fn := fun _ => fun
  | [d1, d2] => { results := [.lit (.bool true)], args := [d1, d2] }
  | _ => none }
def inqBackRow : OpenClaim := { program := "ytecobebndjnhnaa", sum := "1ff0c37c9fe7166b74d9f076f7a1079609bb15db96e30da7f3eef6f1b362028e", func := "boomerang/boomeranglaw10.InqBack", spec := "inqBack", inPlace := ["slices.overlaps[boomerang/api.Event]"], unfollowed := true, recurses := true, apart := false }
def InqBackSaid : Prop := inqBackRow.holds Try.pinned (OpenSpec.ofChange inqBackSpec)

/-- ITS FALSE NEIGHBOUR: 'it returns false'. Refute it at one input. -/
def inqBackWrong : ChangeSpec := { name := "inqBack", fn := fun _ => fun
  | [d1, d2] => { results := [.lit (.bool false)], args := [d1, d2] }
  | _ => none }
def InqBackWrongFalsely : Prop := inqBackRow.holds Try.pinned (OpenSpec.ofChange inqBackWrong)

/-- 'boomeranglaw10.InqBatches': WHATEVER THE INPUT: true; the input reads as it did. -/
def inqBatchesSpec : ChangeSpec := { name := "inqBatches", fn := fun _ => fun
  | [d1, d2] => { results := [.lit (.bool true)], args := [d1, d2] }
  | _ => none }
def inqBatchesRow : OpenClaim := { program := "ytecobebndjnhnaa", sum := "1ff0c37c9fe7166b74d9f076f7a1079609bb15db96e30da7f3eef6f1b362028e", func := "boomerang/boomeranglaw10.InqBatches", spec := "inqBatches", inPlace := ["slices.overlaps[boomerang/api.Event]"], unfollowed := true, recurses := true, apart := false }
def InqBatchesSaid : Prop := inqBatchesRow.holds Try.pinned (OpenSpec.ofChange inqBatchesSpec)

/-- ITS FALSE NEIGHBOUR: 'it returns false'. Refute it at one input. -/
def inqBatchesWrong : ChangeSpec := { name := "inqBatches", fn := fun _ => fun
  | [d1, d2] => { results := [.lit (.bool false)], args := [d1, d2] }
  | _ => none }
def InqBatchesWrongFalsely : Prop := inqBatchesRow.holds Try.pinned (OpenSpec.ofChange inqBatchesWrong)

/-- 'boomeranglaw10.InqPlays': WHATEVER THE INPUT: true; the input reads as it did. -/
def inqPlaysSpec : ChangeSpec := { name := "inqPlays", fn := fun _ => fun
  | [d1, d2] => { results := [.lit (.bool true)], args := [d1, d2] }
  | _ => none }
def inqPlaysRow : OpenClaim := { program := "ytecobebndjnhnaa", sum := "1ff0c37c9fe7166b74d9f076f7a1079609bb15db96e30da7f3eef6f1b362028e", func := "boomerang/boomeranglaw10.InqPlays", spec := "inqPlays", inPlace := ["slices.overlaps[boomerang/api.Event]"], unfollowed := true, recurses := true, apart := false }
def InqPlaysSaid : Prop := inqPlaysRow.holds Try.pinned (OpenSpec.ofChange inqPlaysSpec)

/-- ITS FALSE NEIGHBOUR: 'it returns false'. Refute it at one input. -/
def inqPlaysWrong : ChangeSpec := { name := "inqPlays", fn := fun _ => fun
  | [d1, d2] => { results := [.lit (.bool false)], args := [d1, d2] }
  | _ => none }
def InqPlaysWrongFalsely : Prop := inqPlaysRow.holds Try.pinned (OpenSpec.ofChange inqPlaysWrong)

/-- 'boomeranglaw10.InqNil': WHATEVER THE INPUT: true; the input reads as it did. -/
def inqNilSpec : ChangeSpec := { name := "inqNil", fn := fun _ => fun
  | [d1, d2] => { results := [.lit (.bool true)], args := [d1, d2] }
  | _ => none }
def inqNilRow : OpenClaim := { program := "ytecobebndjnhnaa", sum := "1ff0c37c9fe7166b74d9f076f7a1079609bb15db96e30da7f3eef6f1b362028e", func := "boomerang/boomeranglaw10.InqNil", spec := "inqNil", inPlace := ["slices.overlaps[boomerang/api.Event]"], unfollowed := true, recurses := true, apart := false }
def InqNilSaid : Prop := inqNilRow.holds Try.pinned (OpenSpec.ofChange inqNilSpec)

/-- ITS FALSE NEIGHBOUR: 'it returns false'. Refute it at one input. -/
def inqNilWrong : ChangeSpec := { name := "inqNil", fn := fun _ => fun
  | [d1, d2] => { results := [.lit (.bool false)], args := [d1, d2] }
  | _ => none }
def InqNilWrongFalsely : Prop := inqNilRow.holds Try.pinned (OpenSpec.ofChange inqNilWrong)

/- THE SECOND FORM. 'bulk': how many values and letters a reading holds, each counted each time it is reached (what is shared counts as often as it is met; a slice's spare places count too). A statement '..UptoSaid' is the law's where the arguments, and the package variables that the reading takes, are together of bulk at most 1048576: NARROWER than '..Said'. Prove '..Said' where nothing that the law and all that it calls make is longer than what came in: it says more and counts as full. Else prove '..UptoSaid'. A law counts once. -/
mutual
def uptoBulk {H : Type} : DataW H → Nat
  | .lit (.string bytes) => bytes.length + 1
  | .lit _ => 1
  | .nil => 1
  | .ptr d => uptoBulk d + 1
  | .slice elems spare => uptoBulkAll elems + uptoBulkAll spare + 1
  | .agg parts => uptoBulkAll parts + 1
  | .iface _ d => uptoBulk d + 1
  | .map entries => uptoBulkEntries entries + 1
  | .held _ => 1
def uptoBulkAll {H : Type} : List (DataW H) → Nat
  | [] => 0
  | d :: r => uptoBulk d + uptoBulkAll r
def uptoBulkEntries {H : Type} : List (Lit × DataW H) → Nat
  | [] => 0
  | x :: r => uptoBulkEntry x + uptoBulkEntries r
def uptoBulkEntry {H : Type} : Lit × DataW H → Nat
  | (.string bytes, d) => bytes.length + uptoBulk d + 1
  | (_, d) => uptoBulk d + 1
 end
def uptoSmall : (H : Type) → List (DataW H) → Bool := fun _ ds => decide (uptoBulkAll ds ≤ 1048576)
def OpenSpec.upto (s : _root_.Go.ChangeSpec) : _root_.Go.OpenSpec := { _root_.Go.OpenSpec.ofChange s with cond := some uptoSmall }

/-- 'boomeranglaw10.InqOrder', WHERE WHAT IT READS IS OF BULK AT MOST 1048576: true; the input reads as it did. -/
def inqOrderUptoRow : OpenClaim := { program := "ytecobebndjnhnaa", sum := "1ff0c37c9fe7166b74d9f076f7a1079609bb15db96e30da7f3eef6f1b362028e", func := "boomerang/boomeranglaw10.InqOrder", spec := "inqOrder", inPlace := ["slices.overlaps[boomerang/api.Event]"], unfollowed := true, recurses := true, apart := false, narrowed := true }
def InqOrderUptoSaid : Prop := inqOrderUptoRow.holds Try.pinned (OpenSpec.upto inqOrderSpec)

/-- 'boomeranglaw10.InqTurns', WHERE WHAT IT READS IS OF BULK AT MOST 1048576: true; the input reads as it did. -/
def inqTurnsUptoRow : OpenClaim := { program := "ytecobebndjnhnaa", sum := "1ff0c37c9fe7166b74d9f076f7a1079609bb15db96e30da7f3eef6f1b362028e", func := "boomerang/boomeranglaw10.InqTurns", spec := "inqTurns", inPlace := ["slices.overlaps[boomerang/api.Event]"], unfollowed := true, recurses := true, apart := false, narrowed := true }
def InqTurnsUptoSaid : Prop := inqTurnsUptoRow.holds Try.pinned (OpenSpec.upto inqTurnsSpec)

/-- 'boomeranglaw10.InqCounts', WHERE WHAT IT READS IS OF BULK AT MOST 1048576: true; the input reads as it did. -/
def inqCountsUptoRow : OpenClaim := { program := "ytecobebndjnhnaa", sum := "1ff0c37c9fe7166b74d9f076f7a1079609bb15db96e30da7f3eef6f1b362028e", func := "boomerang/boomeranglaw10.InqCounts", spec := "inqCounts", inPlace := ["slices.overlaps[boomerang/api.Event]"], unfollowed := true, recurses := true, apart := false, narrowed := true }
def InqCountsUptoSaid : Prop := inqCountsUptoRow.holds Try.pinned (OpenSpec.upto inqCountsSpec)

/-- 'boomeranglaw10.InqBack', WHERE WHAT IT READS IS OF BULK AT MOST 1048576: true; the input reads as it did. -/
def inqBackUptoRow : OpenClaim := { program := "ytecobebndjnhnaa", sum := "1ff0c37c9fe7166b74d9f076f7a1079609bb15db96e30da7f3eef6f1b362028e", func := "boomerang/boomeranglaw10.InqBack", spec := "inqBack", inPlace := ["slices.overlaps[boomerang/api.Event]"], unfollowed := true, recurses := true, apart := false, narrowed := true }
def InqBackUptoSaid : Prop := inqBackUptoRow.holds Try.pinned (OpenSpec.upto inqBackSpec)

/-- 'boomeranglaw10.InqBatches', WHERE WHAT IT READS IS OF BULK AT MOST 1048576: true; the input reads as it did. -/
def inqBatchesUptoRow : OpenClaim := { program := "ytecobebndjnhnaa", sum := "1ff0c37c9fe7166b74d9f076f7a1079609bb15db96e30da7f3eef6f1b362028e", func := "boomerang/boomeranglaw10.InqBatches", spec := "inqBatches", inPlace := ["slices.overlaps[boomerang/api.Event]"], unfollowed := true, recurses := true, apart := false, narrowed := true }
def InqBatchesUptoSaid : Prop := inqBatchesUptoRow.holds Try.pinned (OpenSpec.upto inqBatchesSpec)

/-- 'boomeranglaw10.InqPlays', WHERE WHAT IT READS IS OF BULK AT MOST 1048576: true; the input reads as it did. -/
def inqPlaysUptoRow : OpenClaim := { program := "ytecobebndjnhnaa", sum := "1ff0c37c9fe7166b74d9f076f7a1079609bb15db96e30da7f3eef6f1b362028e", func := "boomerang/boomeranglaw10.InqPlays", spec := "inqPlays", inPlace := ["slices.overlaps[boomerang/api.Event]"], unfollowed := true, recurses := true, apart := false, narrowed := true }
def InqPlaysUptoSaid : Prop := inqPlaysUptoRow.holds Try.pinned (OpenSpec.upto inqPlaysSpec)

/-- 'boomeranglaw10.InqNil', WHERE WHAT IT READS IS OF BULK AT MOST 1048576: true; the input reads as it did. -/
def inqNilUptoRow : OpenClaim := { program := "ytecobebndjnhnaa", sum := "1ff0c37c9fe7166b74d9f076f7a1079609bb15db96e30da7f3eef6f1b362028e", func := "boomerang/boomeranglaw10.InqNil", spec := "inqNil", inPlace := ["slices.overlaps[boomerang/api.Event]"], unfollowed := true, recurses := true, apart := false, narrowed := true }
def InqNilUptoSaid : Prop := inqNilUptoRow.holds Try.pinned (OpenSpec.upto inqNilSpec)

end Rows
end Go.Proofs.Ytecobebndjnhnaa
