/-
  No cell of these rows narrows 'for every input' (looked for: loops, veiled, ifaces, maps, wideKeys, modest, calm, conditions, laid).
  DERIVED. THE GIVEN ROWS OF THIS SEAT. 6 by the template 'for every input the law returns true; each argument reads behind the call as it read before'; 0 by the template 'total and deterministic' (their statements: YtfckbgifmajbjaaTotals.lean).
  GIVEN WITH THE SEED: the statements are not yours to turn. If you find one false, say at which input.
  Laid BY PROGRAM, IN A SANDBOX (cutbox-rows.mjs): the forced cells as the released guide's own fill.sh prints them over the translation ef6b73b8dd0a2928… (all of the seat's roots in one cut). By AI agents, Wed Nov 11 2026. No macro, syntax, notation, axiom, sorry.
-/
import Derived.Test.YtfckbgifmajbjaaChecked
import GoSem.Claim
import GoSem.ClaimJoined
import GoSem.ClaimMapViews
import Derived.JoinedTies
import Derived.KernelRfl
namespace Go.Proofs.Ytfckbgifmajbjaa
/- THE CELL 'sum', in the pinned program and in every row, IS THE sha256 OF THE DUMP (.gsa) THAT YtfckbgifmajbjaaProg.lean LOADS. Nothing in Lean hashes anything: it is a label: what it is worth is what the hold of that sum in a sandbox is worth. -/
noncomputable def Try.pinned : Pinned := { name := "ytfckbgifmajbjaa", sum := "ef6b73b8dd0a29288bfaf436588d9fb3c62c3f545335760e52ee778f05f6f1b9", checked := Try.checked }
namespace Rows
def none {H : Type} : Left H := { results := [], args := [] }

/-- 'boomeranglaw04.RingBounds': WHATEVER THE INPUT: true; the input reads as it did. -/
def ringBoundsSpec : ChangeSpec := { name := "ringBounds", fn := fun _ => fun
  | [d1, d2, d3] => { results := [.lit (.bool true)], args := [d1, d2, d3] }
  | _ => none }
def ringBoundsRow : OpenClaim := { program := "ytfckbgifmajbjaa", sum := "ef6b73b8dd0a29288bfaf436588d9fb3c62c3f545335760e52ee778f05f6f1b9", func := "boomerang/boomeranglaw04.RingBounds", spec := "ringBounds", unfollowed := true, recurses := true, apart := false }
def RingBoundsSaid : Prop := ringBoundsRow.holds Try.pinned (OpenSpec.ofChange ringBoundsSpec)

/-- ITS FALSE NEIGHBOUR: 'it returns false'. Refute it at one input. -/
def ringBoundsWrong : ChangeSpec := { name := "ringBounds", fn := fun _ => fun
  | [d1, d2, d3] => { results := [.lit (.bool false)], args := [d1, d2, d3] }
  | _ => none }
def RingBoundsWrongFalsely : Prop := ringBoundsRow.holds Try.pinned (OpenSpec.ofChange ringBoundsWrong)

/-- 'boomeranglaw04.RingPlays': WHATEVER THE INPUT: true; the input reads as it did. -/
def ringPlaysSpec : ChangeSpec := { name := "ringPlays", fn := fun _ => fun
  | [d1, d2] => { results := [.lit (.bool true)], args := [d1, d2] }
  | _ => none }
def ringPlaysRow : OpenClaim := { program := "ytfckbgifmajbjaa", sum := "ef6b73b8dd0a29288bfaf436588d9fb3c62c3f545335760e52ee778f05f6f1b9", func := "boomerang/boomeranglaw04.RingPlays", spec := "ringPlays", unfollowed := true, recurses := true, apart := false }
def RingPlaysSaid : Prop := ringPlaysRow.holds Try.pinned (OpenSpec.ofChange ringPlaysSpec)

/-- ITS FALSE NEIGHBOUR: 'it returns false'. Refute it at one input. -/
def ringPlaysWrong : ChangeSpec := { name := "ringPlays", fn := fun _ => fun
  | [d1, d2] => { results := [.lit (.bool false)], args := [d1, d2] }
  | _ => none }
def RingPlaysWrongFalsely : Prop := ringPlaysRow.holds Try.pinned (OpenSpec.ofChange ringPlaysWrong)

/-- 'boomeranglaw04.RingParts': WHATEVER THE INPUT: true; the input reads as it did. -/
def ringPartsSpec : ChangeSpec := { name := "ringParts", fn := fun _ => fun
  | [d1, d2, d3] => { results := [.lit (.bool true)], args := [d1, d2, d3] }
  | _ => none }
def ringPartsRow : OpenClaim := { program := "ytfckbgifmajbjaa", sum := "ef6b73b8dd0a29288bfaf436588d9fb3c62c3f545335760e52ee778f05f6f1b9", func := "boomerang/boomeranglaw04.RingParts", spec := "ringParts", unfollowed := true, recurses := true, apart := false }
def RingPartsSaid : Prop := ringPartsRow.holds Try.pinned (OpenSpec.ofChange ringPartsSpec)

/-- ITS FALSE NEIGHBOUR: 'it returns false'. Refute it at one input. -/
def ringPartsWrong : ChangeSpec := { name := "ringParts", fn := fun _ => fun
  | [d1, d2, d3] => { results := [.lit (.bool false)], args := [d1, d2, d3] }
  | _ => none }
def RingPartsWrongFalsely : Prop := ringPartsRow.holds Try.pinned (OpenSpec.ofChange ringPartsWrong)

/-- 'boomeranglaw04.RingCopies': WHATEVER THE INPUT: true; the input reads as it did. -/
def ringCopiesSpec : ChangeSpec := { name := "ringCopies", fn := fun _ => fun
  | [d1, d2, d3] => { results := [.lit (.bool true)], args := [d1, d2, d3] }
  | _ => none }
def ringCopiesRow : OpenClaim := { program := "ytfckbgifmajbjaa", sum := "ef6b73b8dd0a29288bfaf436588d9fb3c62c3f545335760e52ee778f05f6f1b9", func := "boomerang/boomeranglaw04.RingCopies", spec := "ringCopies", unfollowed := true, recurses := true, apart := false }
def RingCopiesSaid : Prop := ringCopiesRow.holds Try.pinned (OpenSpec.ofChange ringCopiesSpec)

/-- ITS FALSE NEIGHBOUR: 'it returns false'. Refute it at one input. -/
def ringCopiesWrong : ChangeSpec := { name := "ringCopies", fn := fun _ => fun
  | [d1, d2, d3] => { results := [.lit (.bool false)], args := [d1, d2, d3] }
  | _ => none }
def RingCopiesWrongFalsely : Prop := ringCopiesRow.holds Try.pinned (OpenSpec.ofChange ringCopiesWrong)

/-- 'boomeranglaw04.RingAgain': WHATEVER THE INPUT: true; the input reads as it did. -/
def ringAgainSpec : ChangeSpec := { name := "ringAgain", fn := fun _ => fun
  | [d1, d2, d3] => { results := [.lit (.bool true)], args := [d1, d2, d3] }
  | _ => none }
def ringAgainRow : OpenClaim := { program := "ytfckbgifmajbjaa", sum := "ef6b73b8dd0a29288bfaf436588d9fb3c62c3f545335760e52ee778f05f6f1b9", func := "boomerang/boomeranglaw04.RingAgain", spec := "ringAgain", unfollowed := true, recurses := true, apart := false }
def RingAgainSaid : Prop := ringAgainRow.holds Try.pinned (OpenSpec.ofChange ringAgainSpec)

/-- ITS FALSE NEIGHBOUR: 'it returns false'. Refute it at one input. -/
def ringAgainWrong : ChangeSpec := { name := "ringAgain", fn := fun _ => fun
  | [d1, d2, d3] => { results := [.lit (.bool false)], args := [d1, d2, d3] }
  | _ => none }
def RingAgainWrongFalsely : Prop := ringAgainRow.holds Try.pinned (OpenSpec.ofChange ringAgainWrong)

/-- 'boomeranglaw04.RingNil': WHATEVER THE INPUT: true; the input reads as it did. -/
def ringNilSpec : ChangeSpec := { name := "ringNil", fn := fun _ => fun
  | [d] => { results := [.lit (.bool true)], args := [d] }
  | _ => none }
def ringNilRow : OpenClaim := { program := "ytfckbgifmajbjaa", sum := "ef6b73b8dd0a29288bfaf436588d9fb3c62c3f545335760e52ee778f05f6f1b9", func := "boomerang/boomeranglaw04.RingNil", spec := "ringNil", unfollowed := true, recurses := true, apart := false }
def RingNilSaid : Prop := ringNilRow.holds Try.pinned (OpenSpec.ofChange ringNilSpec)

/-- ITS FALSE NEIGHBOUR: 'it returns false'. Refute it at one input. -/
def ringNilWrong : ChangeSpec := { name := "ringNil", fn := fun _ => fun
  | [d] => { results := [.lit (.bool false)], args := [d] }
  | _ => none }
def RingNilWrongFalsely : Prop := ringNilRow.holds Try.pinned (OpenSpec.ofChange ringNilWrong)

/- THE SECOND FORM. 'bulk': how many values and letters a reading holds, each counted each time it is reached (what is shared counts as often as it is met; a slice's spare places count too). A statement '..UptoSaid' is the law's where the arguments, and the package variables that the reading takes, are together of bulk at most 1048576: NARROWER than '..Said'. Prove '..Said' where nothing that the law and all that it calls make is longer than what came in: it says more and counts as full. Else prove '..UptoSaid'. A law counts once. -/
mutual
def uptoBulk {H : Type} : DataW H → Nat
  | .lit (.string bytes) => bytes.length + 1
  | .lit _ => 1
  | .nil => 1
  | .ptr d => uptoBulk d + 1
  | .slice elems spare => uptoBulkAll elems + uptoBulkAll spare + 1
  | .agg parts => uptoBulkAll parts + 1
  | .iface _ d => uptoBulk d + 1
  | .map entries => uptoBulkEntries entries + 1
  | .held _ => 1
def uptoBulkAll {H : Type} : List (DataW H) → Nat
  | [] => 0
  | d :: r => uptoBulk d + uptoBulkAll r
def uptoBulkEntries {H : Type} : List (Lit × DataW H) → Nat
  | [] => 0
  | x :: r => uptoBulkEntry x + uptoBulkEntries r
def uptoBulkEntry {H : Type} : Lit × DataW H → Nat
  | (.string bytes, d) => bytes.length + uptoBulk d + 1
  | (_, d) => uptoBulk d + 1
 end
def uptoSmall : (H : Type) → List (DataW H) → Bool := fun _ ds => decide (uptoBulkAll ds ≤ 1048576)
def OpenSpec.upto (s : _root_.Go.ChangeSpec) : _root_.Go.OpenSpec := { _root_.Go.OpenSpec.ofChange s with cond := some uptoSmall }

/-- 'boomeranglaw04.RingBounds', WHERE WHAT IT READS IS OF BULK AT MOST 1048576: true; the input reads as it did. -/
def ringBoundsUptoRow : OpenClaim := { program := "ytfckbgifmajbjaa", sum := "ef6b73b8dd0a29288bfaf436588d9fb3c62c3f545335760e52ee778f05f6f1b9", func := "boomerang/boomeranglaw04.RingBounds", spec := "ringBounds", unfollowed := true, recurses := true, apart := false, narrowed := true }
def RingBoundsUptoSaid : Prop := ringBoundsUptoRow.holds Try.pinned (OpenSpec.upto ringBoundsSpec)

/-- 'boomeranglaw04.RingPlays', WHERE WHAT IT READS IS OF BULK AT MOST 1048576: true; the input reads as it did. -/
def ringPlaysUptoRow : OpenClaim := { program := "ytfckbgifmajbjaa", sum := "ef6b73b8dd0a29288bfaf436588d9fb3c62c3f545335760e52ee778f05f6f1b9", func := "boomerang/boomeranglaw04.RingPlays", spec := "ringPlays", unfollowed := true, recurses := true, apart := false, narrowed := true }
def RingPlaysUptoSaid : Prop := ringPlaysUptoRow.holds Try.pinned (OpenSpec.upto ringPlaysSpec)

/-- 'boomeranglaw04.RingParts', WHERE WHAT IT READS IS OF BULK AT MOST 1048576: true; the input reads as it did. -/
def ringPartsUptoRow : OpenClaim := { program := "ytfckbgifmajbjaa", sum := "ef6b73b8dd0a29288bfaf436588d9fb3c62c3f545335760e52ee778f05f6f1b9", func := "boomerang/boomeranglaw04.RingParts", spec := "ringParts", unfollowed := true, recurses := true, apart := false, narrowed := true }
def RingPartsUptoSaid : Prop := ringPartsUptoRow.holds Try.pinned (OpenSpec.upto ringPartsSpec)

/-- 'boomeranglaw04.RingCopies', WHERE WHAT IT READS IS OF BULK AT MOST 1048576: true; the input reads as it did. -/
def ringCopiesUptoRow : OpenClaim := { program := "ytfckbgifmajbjaa", sum := "ef6b73b8dd0a29288bfaf436588d9fb3c62c3f545335760e52ee778f05f6f1b9", func := "boomerang/boomeranglaw04.RingCopies", spec := "ringCopies", unfollowed := true, recurses := true, apart := false, narrowed := true }
def RingCopiesUptoSaid : Prop := ringCopiesUptoRow.holds Try.pinned (OpenSpec.upto ringCopiesSpec)

/-- 'boomeranglaw04.RingAgain', WHERE WHAT IT READS IS OF BULK AT MOST 1048576: true; the input reads as it did. -/
def ringAgainUptoRow : OpenClaim := { program := "ytfckbgifmajbjaa", sum := "ef6b73b8dd0a29288bfaf436588d9fb3c62c3f545335760e52ee778f05f6f1b9", func := "boomerang/boomeranglaw04.RingAgain", spec := "ringAgain", unfollowed := true, recurses := true, apart := false, narrowed := true }
def RingAgainUptoSaid : Prop := ringAgainUptoRow.holds Try.pinned (OpenSpec.upto ringAgainSpec)

/-- 'boomeranglaw04.RingNil', WHERE WHAT IT READS IS OF BULK AT MOST 1048576: true; the input reads as it did. -/
def ringNilUptoRow : OpenClaim := { program := "ytfckbgifmajbjaa", sum := "ef6b73b8dd0a29288bfaf436588d9fb3c62c3f545335760e52ee778f05f6f1b9", func := "boomerang/boomeranglaw04.RingNil", spec := "ringNil", unfollowed := true, recurses := true, apart := false, narrowed := true }
def RingNilUptoSaid : Prop := ringNilUptoRow.holds Try.pinned (OpenSpec.upto ringNilSpec)

end Rows
end Go.Proofs.Ytfckbgifmajbjaa
