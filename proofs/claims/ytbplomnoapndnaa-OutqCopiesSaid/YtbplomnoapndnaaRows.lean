/-
  No cell of these rows narrows 'for every input' (looked for: loops, veiled, ifaces, maps, wideKeys, modest, calm, conditions, laid).
  DERIVED. THE GIVEN ROWS OF THIS SEAT. 8 by the template 'for every input the law returns true; each argument reads behind the call as it read before'; 0 by the template 'total and deterministic' (their statements: YtbplomnoapndnaaTotals.lean).
  GIVEN WITH THE SEED: the statements are not yours to turn. If you find one false, say at which input.
  Laid BY PROGRAM, IN A SANDBOX (cutbox-rows.mjs): the forced cells as the released guide's own fill.sh prints them over the translation 5454b91c062d6549… (all of the seat's roots in one cut). By AI agents, Wed Nov 11 2026. No macro, syntax, notation, axiom, sorry.
-/
import Derived.Test.YtbplomnoapndnaaChecked
import GoSem.Claim
import GoSem.ClaimJoined
import GoSem.ClaimMapViews
import Derived.JoinedTies
import Derived.KernelRfl
namespace Go.Proofs.Ytbplomnoapndnaa
/- THE CELL 'sum', in the pinned program and in every row, IS THE sha256 OF THE DUMP (.gsa) THAT YtbplomnoapndnaaProg.lean LOADS. Nothing in Lean hashes anything: it is a label: what it is worth is what the hold of that sum in a sandbox is worth. -/
noncomputable def Try.pinned : Pinned := { name := "ytbplomnoapndnaa", sum := "5454b91c062d6549f628a15788032dffd990cbfd241ee2efbbc536b5eccc964c", checked := Try.checked }
namespace Rows
def none {H : Type} : Left H := { results := [], args := [] }

/-- 'boomeranglaw11.OutqLess': WHATEVER THE INPUT: true; the input reads as it did. -/
def outqLessSpec : ChangeSpec := { name := "outqLess", fn := fun _ => fun
  | [d] => { results := [.lit (.bool true)], args := [d] }
  | _ => none }
def outqLessRow : OpenClaim := { program := "ytbplomnoapndnaa", sum := "5454b91c062d6549f628a15788032dffd990cbfd241ee2efbbc536b5eccc964c", func := "boomerang/boomeranglaw11.OutqLess", spec := "outqLess", inPlace := ["slices.overlaps[boomerang/outq.record]"], unfollowed := true, recurses := true, apart := false }
def OutqLessSaid : Prop := outqLessRow.holds Try.pinned (OpenSpec.ofChange outqLessSpec)

/-- ITS FALSE NEIGHBOUR: 'it returns false'. Refute it at one input. -/
def outqLessWrong : ChangeSpec := { name := "outqLess", fn := fun _ => fun
  | [d] => { results := [.lit (.bool false)], args := [d] }
  | _ => none }
def OutqLessWrongFalsely : Prop := outqLessRow.holds Try.pinned (OpenSpec.ofChange outqLessWrong)

/-- 'boomeranglaw11.OutqLazy': WHATEVER THE INPUT: true; the input reads as it did. -/
def outqLazySpec : ChangeSpec := { name := "outqLazy", fn := fun _ => fun
  | [d] => { results := [.lit (.bool true)], args := [d] }
  | _ => none }
def outqLazyRow : OpenClaim := { program := "ytbplomnoapndnaa", sum := "5454b91c062d6549f628a15788032dffd990cbfd241ee2efbbc536b5eccc964c", func := "boomerang/boomeranglaw11.OutqLazy", spec := "outqLazy", inPlace := ["slices.overlaps[boomerang/outq.record]"], unfollowed := true, recurses := true, apart := false }
def OutqLazySaid : Prop := outqLazyRow.holds Try.pinned (OpenSpec.ofChange outqLazySpec)

/-- ITS FALSE NEIGHBOUR: 'it returns false'. Refute it at one input. -/
def outqLazyWrong : ChangeSpec := { name := "outqLazy", fn := fun _ => fun
  | [d] => { results := [.lit (.bool false)], args := [d] }
  | _ => none }
def OutqLazyWrongFalsely : Prop := outqLazyRow.holds Try.pinned (OpenSpec.ofChange outqLazyWrong)

/-- 'boomeranglaw11.OutqOrder': WHATEVER THE INPUT: true; the input reads as it did. -/
def outqOrderSpec : ChangeSpec := { name := "outqOrder", fn := fun _ => fun
  | [d1, d2, d3] => { results := [.lit (.bool true)], args := [d1, d2, d3] }
  | _ => none }
def outqOrderRow : OpenClaim := { program := "ytbplomnoapndnaa", sum := "5454b91c062d6549f628a15788032dffd990cbfd241ee2efbbc536b5eccc964c", func := "boomerang/boomeranglaw11.OutqOrder", spec := "outqOrder", inPlace := ["slices.overlaps[boomerang/outq.record]"], unfollowed := true, recurses := true, apart := false }
def OutqOrderSaid : Prop := outqOrderRow.holds Try.pinned (OpenSpec.ofChange outqOrderSpec)

/-- ITS FALSE NEIGHBOUR: 'it returns false'. Refute it at one input. -/
def outqOrderWrong : ChangeSpec := { name := "outqOrder", fn := fun _ => fun
  | [d1, d2, d3] => { results := [.lit (.bool false)], args := [d1, d2, d3] }
  | _ => none }
def OutqOrderWrongFalsely : Prop := outqOrderRow.holds Try.pinned (OpenSpec.ofChange outqOrderWrong)

/-- 'boomeranglaw11.OutqDrops': WHATEVER THE INPUT: true; the input reads as it did. -/
def outqDropsSpec : ChangeSpec := { name := "outqDrops", fn := fun _ => fun
  | [d1, d2] => { results := [.lit (.bool true)], args := [d1, d2] }
  | _ => none }
def outqDropsRow : OpenClaim := { program := "ytbplomnoapndnaa", sum := "5454b91c062d6549f628a15788032dffd990cbfd241ee2efbbc536b5eccc964c", func := "boomerang/boomeranglaw11.OutqDrops", spec := "outqDrops", inPlace := ["slices.overlaps[boomerang/outq.record]"], unfollowed := true, recurses := true, apart := false }
def OutqDropsSaid : Prop := outqDropsRow.holds Try.pinned (OpenSpec.ofChange outqDropsSpec)

/-- ITS FALSE NEIGHBOUR: 'it returns false'. Refute it at one input. -/
def outqDropsWrong : ChangeSpec := { name := "outqDrops", fn := fun _ => fun
  | [d1, d2] => { results := [.lit (.bool false)], args := [d1, d2] }
  | _ => none }
def OutqDropsWrongFalsely : Prop := outqDropsRow.holds Try.pinned (OpenSpec.ofChange outqDropsWrong)

/-- 'boomeranglaw11.OutqReturns': WHATEVER THE INPUT: true; the input reads as it did. -/
def outqReturnsSpec : ChangeSpec := { name := "outqReturns", fn := fun _ => fun
  | [d1, d2, d3] => { results := [.lit (.bool true)], args := [d1, d2, d3] }
  | _ => none }
def outqReturnsRow : OpenClaim := { program := "ytbplomnoapndnaa", sum := "5454b91c062d6549f628a15788032dffd990cbfd241ee2efbbc536b5eccc964c", func := "boomerang/boomeranglaw11.OutqReturns", spec := "outqReturns", inPlace := ["slices.overlaps[boomerang/outq.record]"], unfollowed := true, recurses := true, apart := false }
def OutqReturnsSaid : Prop := outqReturnsRow.holds Try.pinned (OpenSpec.ofChange outqReturnsSpec)

/-- ITS FALSE NEIGHBOUR: 'it returns false'. Refute it at one input. -/
def outqReturnsWrong : ChangeSpec := { name := "outqReturns", fn := fun _ => fun
  | [d1, d2, d3] => { results := [.lit (.bool false)], args := [d1, d2, d3] }
  | _ => none }
def OutqReturnsWrongFalsely : Prop := outqReturnsRow.holds Try.pinned (OpenSpec.ofChange outqReturnsWrong)

/-- 'boomeranglaw11.OutqPlays': WHATEVER THE INPUT: true; the input reads as it did. -/
def outqPlaysSpec : ChangeSpec := { name := "outqPlays", fn := fun _ => fun
  | [d1, d2] => { results := [.lit (.bool true)], args := [d1, d2] }
  | _ => none }
def outqPlaysRow : OpenClaim := { program := "ytbplomnoapndnaa", sum := "5454b91c062d6549f628a15788032dffd990cbfd241ee2efbbc536b5eccc964c", func := "boomerang/boomeranglaw11.OutqPlays", spec := "outqPlays", inPlace := ["slices.overlaps[boomerang/outq.record]"], unfollowed := true, recurses := true, apart := false }
def OutqPlaysSaid : Prop := outqPlaysRow.holds Try.pinned (OpenSpec.ofChange outqPlaysSpec)

/-- ITS FALSE NEIGHBOUR: 'it returns false'. Refute it at one input. -/
def outqPlaysWrong : ChangeSpec := { name := "outqPlays", fn := fun _ => fun
  | [d1, d2] => { results := [.lit (.bool false)], args := [d1, d2] }
  | _ => none }
def OutqPlaysWrongFalsely : Prop := outqPlaysRow.holds Try.pinned (OpenSpec.ofChange outqPlaysWrong)

/-- 'boomeranglaw11.OutqCopies': WHATEVER THE INPUT: true; the input reads as it did. -/
def outqCopiesSpec : ChangeSpec := { name := "outqCopies", fn := fun _ => fun
  | [d1, d2] => { results := [.lit (.bool true)], args := [d1, d2] }
  | _ => none }
def outqCopiesRow : OpenClaim := { program := "ytbplomnoapndnaa", sum := "5454b91c062d6549f628a15788032dffd990cbfd241ee2efbbc536b5eccc964c", func := "boomerang/boomeranglaw11.OutqCopies", spec := "outqCopies", inPlace := ["slices.overlaps[boomerang/outq.record]"], unfollowed := true, recurses := true, apart := false }
def OutqCopiesSaid : Prop := outqCopiesRow.holds Try.pinned (OpenSpec.ofChange outqCopiesSpec)

/-- ITS FALSE NEIGHBOUR: 'it returns false'. Refute it at one input. -/
def outqCopiesWrong : ChangeSpec := { name := "outqCopies", fn := fun _ => fun
  | [d1, d2] => { results := [.lit (.bool false)], args := [d1, d2] }
  | _ => none }
def OutqCopiesWrongFalsely : Prop := outqCopiesRow.holds Try.pinned (OpenSpec.ofChange outqCopiesWrong)

/-- 'boomeranglaw11.OutqNil': WHATEVER THE INPUT: true; the input reads as it did. -/
def outqNilSpec : ChangeSpec := { name := "outqNil", fn := fun _ => fun
  | [d] => { results := [.lit (.bool true)], args := [d] }
  | _ => none }
def outqNilRow : OpenClaim := { program := "ytbplomnoapndnaa", sum := "5454b91c062d6549f628a15788032dffd990cbfd241ee2efbbc536b5eccc964c", func := "boomerang/boomeranglaw11.OutqNil", spec := "outqNil", inPlace := ["slices.overlaps[boomerang/outq.record]"], unfollowed := true, recurses := true, apart := false }
def OutqNilSaid : Prop := outqNilRow.holds Try.pinned (OpenSpec.ofChange outqNilSpec)

/-- ITS FALSE NEIGHBOUR: 'it returns false'. Refute it at one input. -/
def outqNilWrong : ChangeSpec := { name := "outqNil", fn := fun _ => fun
  | [d] => { results := [.lit (.bool false)], args := [d] }
  | _ => none }
def OutqNilWrongFalsely : Prop := outqNilRow.holds Try.pinned (OpenSpec.ofChange outqNilWrong)

/- THE SECOND FORM. 'bulk': how many values and letters a reading holds, each counted each time it is reached (what is shared counts as often as it is met; a slice's spare places count too). A statement '..UptoSaid' is the law's where the arguments, and the package variables that the reading takes, are together of bulk at most 1048576: NARROWER than '..Said'. Prove '..Said' where nothing that the law and all that it calls make is longer than what came in: it says more and counts as full. Else prove '..UptoSaid'. A law counts once. -/
mutual
def uptoBulk {H : Type} : DataW H → Nat
  | .lit (.string bytes) => bytes.length + 1
  | .lit _ => 1
  | .nil => 1
  | .ptr d => uptoBulk d + 1
  | .slice elems spare => uptoBulkAll elems + uptoBulkAll spare + 1
  | .agg parts => uptoBulkAll parts + 1
  | .iface _ d => uptoBulk d + 1
  | .map entries => uptoBulkEntries entries + 1
  | .held _ => 1
def uptoBulkAll {H : Type} : List (DataW H) → Nat
  | [] => 0
  | d :: r => uptoBulk d + uptoBulkAll r
def uptoBulkEntries {H : Type} : List (Lit × DataW H) → Nat
  | [] => 0
  | x :: r => uptoBulkEntry x + uptoBulkEntries r
def uptoBulkEntry {H : Type} : Lit × DataW H → Nat
  | (.string bytes, d) => bytes.length + uptoBulk d + 1
  | (_, d) => uptoBulk d + 1
 end
def uptoSmall : (H : Type) → List (DataW H) → Bool := fun _ ds => decide (uptoBulkAll ds ≤ 1048576)
def OpenSpec.upto (s : _root_.Go.ChangeSpec) : _root_.Go.OpenSpec := { _root_.Go.OpenSpec.ofChange s with cond := some uptoSmall }

/-- 'boomeranglaw11.OutqLess', WHERE WHAT IT READS IS OF BULK AT MOST 1048576: true; the input reads as it did. -/
def outqLessUptoRow : OpenClaim := { program := "ytbplomnoapndnaa", sum := "5454b91c062d6549f628a15788032dffd990cbfd241ee2efbbc536b5eccc964c", func := "boomerang/boomeranglaw11.OutqLess", spec := "outqLess", inPlace := ["slices.overlaps[boomerang/outq.record]"], unfollowed := true, recurses := true, apart := false, narrowed := true }
def OutqLessUptoSaid : Prop := outqLessUptoRow.holds Try.pinned (OpenSpec.upto outqLessSpec)

/-- 'boomeranglaw11.OutqLazy', WHERE WHAT IT READS IS OF BULK AT MOST 1048576: true; the input reads as it did. -/
def outqLazyUptoRow : OpenClaim := { program := "ytbplomnoapndnaa", sum := "5454b91c062d6549f628a15788032dffd990cbfd241ee2efbbc536b5eccc964c", func := "boomerang/boomeranglaw11.OutqLazy", spec := "outqLazy", inPlace := ["slices.overlaps[boomerang/outq.record]"], unfollowed := true, recurses := true, apart := false, narrowed := true }
def OutqLazyUptoSaid : Prop := outqLazyUptoRow.holds Try.pinned (OpenSpec.upto outqLazySpec)

/-- 'boomeranglaw11.OutqOrder', WHERE WHAT IT READS IS OF BULK AT MOST 1048576: true; the input reads as it did. -/
def outqOrderUptoRow : OpenClaim := { program := "ytbplomnoapndnaa", sum := "5454b91c062d6549f628a15788032dffd990cbfd241ee2efbbc536b5eccc964c", func := "boomerang/boomeranglaw11.OutqOrder", spec := "outqOrder", inPlace := ["slices.overlaps[boomerang/outq.record]"], unfollowed := true, recurses := true, apart := false, narrowed := true }
def OutqOrderUptoSaid : Prop := outqOrderUptoRow.holds Try.pinned (OpenSpec.upto outqOrderSpec)

/-- 'boomeranglaw11.OutqDrops', WHERE WHAT IT READS IS OF BULK AT MOST 1048576: true; the input reads as it did. -/
def outqDropsUptoRow : OpenClaim := { program := "ytbplomnoapndnaa", sum := "5454b91c062d6549f628a15788032dffd990cbfd241ee2efbbc536b5eccc964c", func := "boomerang/boomeranglaw11.OutqDrops", spec := "outqDrops", inPlace := ["slices.overlaps[boomerang/outq.record]"], unfollowed := true, recurses := true, apart := false, narrowed := true }
def OutqDropsUptoSaid : Prop := outqDropsUptoRow.holds Try.pinned (OpenSpec.upto outqDropsSpec)

/-- 'boomeranglaw11.OutqReturns', WHERE WHAT IT READS IS OF BULK AT MOST 1048576: true; the input reads as it did. -/
def outqReturnsUptoRow : OpenClaim := { program := "ytbplomnoapndnaa", sum := "5454b91c062d6549f628a15788032dffd990cbfd241ee2efbbc536b5eccc964c", func := "boomerang/boomeranglaw11.OutqReturns", spec := "outqReturns", inPlace := ["slices.overlaps[boomerang/outq.record]"], unfollowed := true, recurses := true, apart := false, narrowed := true }
def OutqReturnsUptoSaid : Prop := outqReturnsUptoRow.holds Try.pinned (OpenSpec.upto outqReturnsSpec)

/-- 'boomeranglaw11.OutqPlays', WHERE WHAT IT READS IS OF BULK AT MOST 1048576: true; the input reads as it did. -/
def outqPlaysUptoRow : OpenClaim := { program := "ytbplomnoapndnaa", sum := "5454b91c062d6549f628a15788032dffd990cbfd241ee2efbbc536b5eccc964c", func := "boomerang/boomeranglaw11.OutqPlays", spec := "outqPlays", inPlace := ["slices.overlaps[boomerang/outq.record]"], unfollowed := true, recurses := true, apart := false, narrowed := true }
def OutqPlaysUptoSaid : Prop := outqPlaysUptoRow.holds Try.pinned (OpenSpec.upto outqPlaysSpec)

/-- 'boomeranglaw11.OutqCopies', WHERE WHAT IT READS IS OF BULK AT MOST 1048576: true; the input reads as it did. -/
def outqCopiesUptoRow : OpenClaim := { program := "ytbplomnoapndnaa", sum := "5454b91c062d6549f628a15788032dffd990cbfd241ee2efbbc536b5eccc964c", func := "boomerang/boomeranglaw11.OutqCopies", spec := "outqCopies", inPlace := ["slices.overlaps[boomerang/outq.record]"], unfollowed := true, recurses := true, apart := false, narrowed := true }
def OutqCopiesUptoSaid : Prop := outqCopiesUptoRow.holds Try.pinned (OpenSpec.upto outqCopiesSpec)

/-- 'boomeranglaw11.OutqNil', WHERE WHAT IT READS IS OF BULK AT MOST 1048576: true; the input reads as it did. -/
def outqNilUptoRow : OpenClaim := { program := "ytbplomnoapndnaa", sum := "5454b91c062d6549f628a15788032dffd990cbfd241ee2efbbc536b5eccc964c", func := "boomerang/boomeranglaw11.OutqNil", spec := "outqNil", inPlace := ["slices.overlaps[boomerang/outq.record]"], unfollowed := true, recurses := true, apart := false, narrowed := true }
def OutqNilUptoSaid : Prop := outqNilUptoRow.holds Try.pinned (OpenSpec.upto outqNilSpec)

end Rows
end Go.Proofs.Ytbplomnoapndnaa
