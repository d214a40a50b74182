/-
  No cell of these rows narrows 'for every input' (looked for: loops, veiled, ifaces, maps, wideKeys, modest, calm, conditions, laid).
  DERIVED. THE GIVEN ROWS OF THIS SEAT. 6 by the template 'for every input the law returns true; each argument reads behind the call as it read before'; 0 by the template 'total and deterministic' (their statements: YtdobhicjhgdhnaaTotals.lean).
  GIVEN WITH THE SEED: the statements are not yours to turn. If you find one false, say at which input.
  Laid BY PROGRAM, IN A SANDBOX (cutbox-rows.mjs): the forced cells as the released guide's own fill.sh prints them over the translation 5f6e7b4290a36951… (all of the seat's roots in one cut). By AI agents, Wed Nov 11 2026. No macro, syntax, notation, axiom, sorry.
-/
import Derived.Test.YtdobhicjhgdhnaaChecked
import GoSem.Claim
import GoSem.ClaimJoined
import GoSem.ClaimMapViews
import Derived.JoinedTies
import Derived.KernelRfl
namespace Go.Proofs.Ytdobhicjhgdhnaa
/- THE CELL 'sum', in the pinned program and in every row, IS THE sha256 OF THE DUMP (.gsa) THAT YtdobhicjhgdhnaaProg.lean LOADS. Nothing in Lean hashes anything: it is a label: what it is worth is what the hold of that sum in a sandbox is worth. -/
noncomputable def Try.pinned : Pinned := { name := "ytdobhicjhgdhnaa", sum := "5f6e7b4290a36951f08673c8fa1dbfeb59d76705498fea1eb80397f30864258c", checked := Try.checked }
namespace Rows
def none {H : Type} : Left H := { results := [], args := [] }

/-- 'boomeranglaw01.SlabTurns': WHATEVER THE INPUT: true; the input reads as it did. -/
def slabTurnsSpec : ChangeSpec := { name := "slabTurns", fn := fun _ => fun
  | [d1, d2] => { results := [.lit (.bool true)], args := [d1, d2] }
  | _ => none }
def slabTurnsRow : OpenClaim := { program := "ytdobhicjhgdhnaa", sum := "5f6e7b4290a36951f08673c8fa1dbfeb59d76705498fea1eb80397f30864258c", func := "boomerang/boomeranglaw01.SlabTurns", spec := "slabTurns", apart := false }
def SlabTurnsSaid : Prop := slabTurnsRow.holds Try.pinned (OpenSpec.ofChange slabTurnsSpec)

/-- ITS FALSE NEIGHBOUR: 'it returns false'. Refute it at one input. -/
def slabTurnsWrong : ChangeSpec := { name := "slabTurns", fn := fun _ => fun
  | [d1, d2] => { results := [.lit (.bool false)], args := [d1, d2] }
  | _ => none }
def SlabTurnsWrongFalsely : Prop := slabTurnsRow.holds Try.pinned (OpenSpec.ofChange slabTurnsWrong)

/-- 'boomeranglaw01.SlabCounts': WHATEVER THE INPUT: true; the input reads as it did. -/
def slabCountsSpec : ChangeSpec := { name := "slabCounts", fn := fun _ => fun
  | [d1, d2] => { results := [.lit (.bool true)], args := [d1, d2] }
  | _ => none }
def slabCountsRow : OpenClaim := { program := "ytdobhicjhgdhnaa", sum := "5f6e7b4290a36951f08673c8fa1dbfeb59d76705498fea1eb80397f30864258c", func := "boomerang/boomeranglaw01.SlabCounts", spec := "slabCounts", apart := false }
def SlabCountsSaid : Prop := slabCountsRow.holds Try.pinned (OpenSpec.ofChange slabCountsSpec)

/-- ITS FALSE NEIGHBOUR: 'it returns false'. Refute it at one input. -/
def slabCountsWrong : ChangeSpec := { name := "slabCounts", fn := fun _ => fun
  | [d1, d2] => { results := [.lit (.bool false)], args := [d1, d2] }
  | _ => none }
def SlabCountsWrongFalsely : Prop := slabCountsRow.holds Try.pinned (OpenSpec.ofChange slabCountsWrong)

/-- 'boomeranglaw01.SlabKeeps': WHATEVER THE INPUT: true; the input reads as it did. -/
def slabKeepsSpec : ChangeSpec := { name := "slabKeeps", fn := fun _ => fun
  | [d1, d2, d3] => { results := [.lit (.bool true)], args := [d1, d2, d3] }
  | _ => none }
def slabKeepsRow : OpenClaim := { program := "ytdobhicjhgdhnaa", sum := "5f6e7b4290a36951f08673c8fa1dbfeb59d76705498fea1eb80397f30864258c", func := "boomerang/boomeranglaw01.SlabKeeps", spec := "slabKeeps", apart := false }
def SlabKeepsSaid : Prop := slabKeepsRow.holds Try.pinned (OpenSpec.ofChange slabKeepsSpec)

/-- ITS FALSE NEIGHBOUR: 'it returns false'. Refute it at one input. -/
def slabKeepsWrong : ChangeSpec := { name := "slabKeeps", fn := fun _ => fun
  | [d1, d2, d3] => { results := [.lit (.bool false)], args := [d1, d2, d3] }
  | _ => none }
def SlabKeepsWrongFalsely : Prop := slabKeepsRow.holds Try.pinned (OpenSpec.ofChange slabKeepsWrong)

/-- 'boomeranglaw01.SlabPlays': WHATEVER THE INPUT: true; the input reads as it did. -/
def slabPlaysSpec : ChangeSpec := { name := "slabPlays", fn := fun _ => fun
  | [d1, d2] => { results := [.lit (.bool true)], args := [d1, d2] }
  | _ => none }
def slabPlaysRow : OpenClaim := { program := "ytdobhicjhgdhnaa", sum := "5f6e7b4290a36951f08673c8fa1dbfeb59d76705498fea1eb80397f30864258c", func := "boomerang/boomeranglaw01.SlabPlays", spec := "slabPlays", unfollowed := true, recurses := true, apart := false }
def SlabPlaysSaid : Prop := slabPlaysRow.holds Try.pinned (OpenSpec.ofChange slabPlaysSpec)

/-- ITS FALSE NEIGHBOUR: 'it returns false'. Refute it at one input. -/
def slabPlaysWrong : ChangeSpec := { name := "slabPlays", fn := fun _ => fun
  | [d1, d2] => { results := [.lit (.bool false)], args := [d1, d2] }
  | _ => none }
def SlabPlaysWrongFalsely : Prop := slabPlaysRow.holds Try.pinned (OpenSpec.ofChange slabPlaysWrong)

/-- 'boomeranglaw01.SlabCopies': WHATEVER THE INPUT: true; the input reads as it did. -/
def slabCopiesSpec : ChangeSpec := { name := "slabCopies", fn := fun _ => fun
  | [d1, d2, d3] => { results := [.lit (.bool true)], args := [d1, d2, d3] }
  | _ => none }
def slabCopiesRow : OpenClaim := { program := "ytdobhicjhgdhnaa", sum := "5f6e7b4290a36951f08673c8fa1dbfeb59d76705498fea1eb80397f30864258c", func := "boomerang/boomeranglaw01.SlabCopies", spec := "slabCopies", unfollowed := true, recurses := true, apart := false }
def SlabCopiesSaid : Prop := slabCopiesRow.holds Try.pinned (OpenSpec.ofChange slabCopiesSpec)

/-- ITS FALSE NEIGHBOUR: 'it returns false'. Refute it at one input. -/
def slabCopiesWrong : ChangeSpec := { name := "slabCopies", fn := fun _ => fun
  | [d1, d2, d3] => { results := [.lit (.bool false)], args := [d1, d2, d3] }
  | _ => none }
def SlabCopiesWrongFalsely : Prop := slabCopiesRow.holds Try.pinned (OpenSpec.ofChange slabCopiesWrong)

/-- 'boomeranglaw01.SlabNil': WHATEVER THE INPUT: true; the input reads as it did. -/
def slabNilSpec : ChangeSpec := { name := "slabNil", fn := fun _ => fun
  | [d] => { results := [.lit (.bool true)], args := [d] }
  | _ => none }
def slabNilRow : OpenClaim := { program := "ytdobhicjhgdhnaa", sum := "5f6e7b4290a36951f08673c8fa1dbfeb59d76705498fea1eb80397f30864258c", func := "boomerang/boomeranglaw01.SlabNil", spec := "slabNil", unfollowed := true, recurses := true, apart := false }
def SlabNilSaid : Prop := slabNilRow.holds Try.pinned (OpenSpec.ofChange slabNilSpec)

/-- ITS FALSE NEIGHBOUR: 'it returns false'. Refute it at one input. -/
def slabNilWrong : ChangeSpec := { name := "slabNil", fn := fun _ => fun
  | [d] => { results := [.lit (.bool false)], args := [d] }
  | _ => none }
def SlabNilWrongFalsely : Prop := slabNilRow.holds Try.pinned (OpenSpec.ofChange slabNilWrong)

/- THE SECOND FORM. 'bulk': how many values and letters a reading holds, each counted each time it is reached (what is shared counts as often as it is met; a slice's spare places count too). A statement '..UptoSaid' is the law's where the arguments, and the package variables that the reading takes, are together of bulk at most 1048576: NARROWER than '..Said'. Prove '..Said' where nothing that the law and all that it calls make is longer than what came in: it says more and counts as full. Else prove '..UptoSaid'. A law counts once. -/
mutual
def uptoBulk {H : Type} : DataW H → Nat
  | .lit (.string bytes) => bytes.length + 1
  | .lit _ => 1
  | .nil => 1
  | .ptr d => uptoBulk d + 1
  | .slice elems spare => uptoBulkAll elems + uptoBulkAll spare + 1
  | .agg parts => uptoBulkAll parts + 1
  | .iface _ d => uptoBulk d + 1
  | .map entries => uptoBulkEntries entries + 1
  | .held _ => 1
def uptoBulkAll {H : Type} : List (DataW H) → Nat
  | [] => 0
  | d :: r => uptoBulk d + uptoBulkAll r
def uptoBulkEntries {H : Type} : List (Lit × DataW H) → Nat
  | [] => 0
  | x :: r => uptoBulkEntry x + uptoBulkEntries r
def uptoBulkEntry {H : Type} : Lit × DataW H → Nat
  | (.string bytes, d) => bytes.length + uptoBulk d + 1
  | (_, d) => uptoBulk d + 1
 end
def uptoSmall : (H : Type) → List (DataW H) → Bool := fun _ ds => decide (uptoBulkAll ds ≤ 1048576)
def OpenSpec.upto (s : _root_.Go.ChangeSpec) : _root_.Go.OpenSpec := { _root_.Go.OpenSpec.ofChange s with cond := some uptoSmall }

/-- 'boomeranglaw01.SlabTurns', WHERE WHAT IT READS IS OF BULK AT MOST 1048576: true; the input reads as it did. -/
def slabTurnsUptoRow : OpenClaim := { program := "ytdobhicjhgdhnaa", sum := "5f6e7b4290a36951f08673c8fa1dbfeb59d76705498fea1eb80397f30864258c", func := "boomerang/boomeranglaw01.SlabTurns", spec := "slabTurns", apart := false, narrowed := true }
def SlabTurnsUptoSaid : Prop := slabTurnsUptoRow.holds Try.pinned (OpenSpec.upto slabTurnsSpec)

/-- 'boomeranglaw01.SlabCounts', WHERE WHAT IT READS IS OF BULK AT MOST 1048576: true; the input reads as it did. -/
def slabCountsUptoRow : OpenClaim := { program := "ytdobhicjhgdhnaa", sum := "5f6e7b4290a36951f08673c8fa1dbfeb59d76705498fea1eb80397f30864258c", func := "boomerang/boomeranglaw01.SlabCounts", spec := "slabCounts", apart := false, narrowed := true }
def SlabCountsUptoSaid : Prop := slabCountsUptoRow.holds Try.pinned (OpenSpec.upto slabCountsSpec)

/-- 'boomeranglaw01.SlabKeeps', WHERE WHAT IT READS IS OF BULK AT MOST 1048576: true; the input reads as it did. -/
def slabKeepsUptoRow : OpenClaim := { program := "ytdobhicjhgdhnaa", sum := "5f6e7b4290a36951f08673c8fa1dbfeb59d76705498fea1eb80397f30864258c", func := "boomerang/boomeranglaw01.SlabKeeps", spec := "slabKeeps", apart := false, narrowed := true }
def SlabKeepsUptoSaid : Prop := slabKeepsUptoRow.holds Try.pinned (OpenSpec.upto slabKeepsSpec)

/-- 'boomeranglaw01.SlabPlays', WHERE WHAT IT READS IS OF BULK AT MOST 1048576: true; the input reads as it did. -/
def slabPlaysUptoRow : OpenClaim := { program := "ytdobhicjhgdhnaa", sum := "5f6e7b4290a36951f08673c8fa1dbfeb59d76705498fea1eb80397f30864258c", func := "boomerang/boomeranglaw01.SlabPlays", spec := "slabPlays", unfollowed := true, recurses := true, apart := false, narrowed := true }
def SlabPlaysUptoSaid : Prop := slabPlaysUptoRow.holds Try.pinned (OpenSpec.upto slabPlaysSpec)

/-- 'boomeranglaw01.SlabCopies', WHERE WHAT IT READS IS OF BULK AT MOST 1048576: true; the input reads as it did. -/
def slabCopiesUptoRow : OpenClaim := { program := "ytdobhicjhgdhnaa", sum := "5f6e7b4290a36951f08673c8fa1dbfeb59d76705498fea1eb80397f30864258c", func := "boomerang/boomeranglaw01.SlabCopies", spec := "slabCopies", unfollowed := true, recurses := true, apart := false, narrowed := true }
def SlabCopiesUptoSaid : Prop := slabCopiesUptoRow.holds Try.pinned (OpenSpec.upto slabCopiesSpec)

/-- 'boomeranglaw01.SlabNil', WHERE WHAT IT READS IS OF BULK AT MOST 1048576: true; the input reads as it did. -/
def slabNilUptoRow : OpenClaim := { program := "ytdobhicjhgdhnaa", sum := "5f6e7b4290a36951f08673c8fa1dbfeb59d76705498fea1eb80397f30864258c", func := "boomerang/boomeranglaw01.SlabNil", spec := "slabNil", unfollowed := true, recurses := true, apart := false, narrowed := true }
def SlabNilUptoSaid : Prop := slabNilUptoRow.holds Try.pinned (OpenSpec.upto slabNilSpec)

end Rows
end Go.Proofs.Ytdobhicjhgdhnaa
