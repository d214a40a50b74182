/-
  No cell of these rows narrows 'for every input' (looked for: loops, veiled, ifaces, maps, wideKeys, modest, calm, conditions, laid).
  DERIVED. THE GIVEN ROWS OF THIS SEAT. 8 by the template 'for every input the law returns true; each argument reads behind the call as it read before'; 0 by the template 'total and deterministic' (their statements: YthbcdkeammhakaaGreatTotals.lean).
  GIVEN WITH THE SEED: the statements are not yours to turn. If you find one false, say at which input.
  Laid BY PROGRAM, IN A SANDBOX (cutbox-rows.mjs): the forced cells as the released guide's own fill.sh prints them over the translation 13c8a431035ad05e… (all of the seat's roots in one cut). By AI agents, Wed Nov 11 2026. No macro, syntax, notation, axiom, sorry.
-/
import Derived.Test.YthbcdkeammhakaaGreatChecked
import GoSem.Claim
import GoSem.ClaimJoined
import GoSem.ClaimMapViews
import Derived.JoinedTies
import Derived.KernelRfl
namespace Go.Proofs.YthbcdkeammhakaaGreat
/- THE CELL 'sum', in the pinned program and in every row, IS THE sha256 OF THE DUMP (.gsa) THAT YthbcdkeammhakaaGreatProg.lean LOADS. Nothing in Lean hashes anything: it is a label: what it is worth is what the hold of that sum in a sandbox is worth. -/
noncomputable def Tryz.pinned : Pinned := { name := "ythbcdkeammhakaagreat", sum := "13c8a431035ad05eb1e011f3d1e111408c9217538c5a0c6415e6a23eda333218", checked := Tryz.checked }
namespace Rows
def none {H : Type} : Left H := { results := [], args := [] }

/-- 'boomeranglaw13.LpSaves': WHATEVER THE INPUT: true; the input reads as it did. -/
def lpSavesSpec : ChangeSpec := { name := "lpSaves", fn := fun _ => fun
  | [d1, d2, d3] => { results := [.lit (.bool true)], args := [d1, d2, d3] }
  | _ => none }
def lpSavesRow : OpenClaim := { program := "ythbcdkeammhakaagreat", sum := "13c8a431035ad05eb1e011f3d1e111408c9217538c5a0c6415e6a23eda333218", func := "boomerang/boomeranglaw13.LpSaves", spec := "lpSaves", inPlace := ["slices.overlaps[boomerang/api.Event]", "slices.overlaps[boomerang/outq.record]"], unfollowed := true, recurses := true, apart := false }
def LpSavesSaid : Prop := lpSavesRow.holds Tryz.pinned (OpenSpec.ofChange lpSavesSpec)

/-- ITS FALSE NEIGHBOUR: 'it returns false'. Refute it at one input. -/
def lpSavesWrong : ChangeSpec := { name := "lpSaves", fn := fun _ => fun
  | [d1, d2, d3] => { results := [.lit (.bool false)], args := [d1, d2, d3] }
  | _ => none }
def LpSavesWrongFalsely : Prop := lpSavesRow.holds Tryz.pinned (OpenSpec.ofChange lpSavesWrong)

/-- 'boomeranglaw13.LpFolds': WHATEVER THE INPUT: true; the input reads as it did. -/
def lpFoldsSpec : ChangeSpec := { name := "lpFolds", fn := fun _ => fun
  | [d1, d2] => { results := [.lit (.bool true)], args := [d1, d2] }
  | _ => none }
def lpFoldsRow : OpenClaim := { program := "ythbcdkeammhakaagreat", sum := "13c8a431035ad05eb1e011f3d1e111408c9217538c5a0c6415e6a23eda333218", func := "boomerang/boomeranglaw13.LpFolds", spec := "lpFolds", inPlace := ["slices.overlaps[boomerang/api.Event]", "slices.overlaps[boomerang/outq.record]"], unfollowed := true, recurses := true, apart := false }
def LpFoldsSaid : Prop := lpFoldsRow.holds Tryz.pinned (OpenSpec.ofChange lpFoldsSpec)

/-- ITS FALSE NEIGHBOUR: 'it returns false'. Refute it at one input. -/
def lpFoldsWrong : ChangeSpec := { name := "lpFolds", fn := fun _ => fun
  | [d1, d2] => { results := [.lit (.bool false)], args := [d1, d2] }
  | _ => none }
def LpFoldsWrongFalsely : Prop := lpFoldsRow.holds Tryz.pinned (OpenSpec.ofChange lpFoldsWrong)

/-- 'boomeranglaw13.LpLazy': WHATEVER THE INPUT: true; the input reads as it did. -/
def lpLazySpec : ChangeSpec := { name := "lpLazy", fn := fun _ => fun
  | [d1, d2] => { results := [.lit (.bool true)], args := [d1, d2] }
  | _ => none }
def lpLazyRow : OpenClaim := { program := "ythbcdkeammhakaagreat", sum := "13c8a431035ad05eb1e011f3d1e111408c9217538c5a0c6415e6a23eda333218", func := "boomerang/boomeranglaw13.LpLazy", spec := "lpLazy", inPlace := ["slices.overlaps[boomerang/api.Event]", "slices.overlaps[boomerang/outq.record]"], unfollowed := true, recurses := true, apart := false }
def LpLazySaid : Prop := lpLazyRow.holds Tryz.pinned (OpenSpec.ofChange lpLazySpec)

/-- ITS FALSE NEIGHBOUR: 'it returns false'. Refute it at one input. -/
def lpLazyWrong : ChangeSpec := { name := "lpLazy", fn := fun _ => fun
  | [d1, d2] => { results := [.lit (.bool false)], args := [d1, d2] }
  | _ => none }
def LpLazyWrongFalsely : Prop := lpLazyRow.holds Tryz.pinned (OpenSpec.ofChange lpLazyWrong)

/-- 'boomeranglaw13.LpReturns': WHATEVER THE INPUT: true; the input reads as it did. -/
def lpReturnsSpec : ChangeSpec := { name := "lpReturns", fn := fun _ => fun
  | [d1, d2, d3] => { results := [.lit (.bool true)], args := [d1, d2, d3] }
  | _ => none }
def lpReturnsRow : OpenClaim := { program := "ythbcdkeammhakaagreat", sum := "13c8a431035ad05eb1e011f3d1e111408c9217538c5a0c6415e6a23eda333218", func := "boomerang/boomeranglaw13.LpReturns", spec := "lpReturns", inPlace := ["slices.overlaps[boomerang/api.Event]", "slices.overlaps[boomerang/outq.record]"], unfollowed := true, recurses := true, apart := false }
def LpReturnsSaid : Prop := lpReturnsRow.holds Tryz.pinned (OpenSpec.ofChange lpReturnsSpec)

/-- ITS FALSE NEIGHBOUR: 'it returns false'. Refute it at one input. -/
def lpReturnsWrong : ChangeSpec := { name := "lpReturns", fn := fun _ => fun
  | [d1, d2, d3] => { results := [.lit (.bool false)], args := [d1, d2, d3] }
  | _ => none }
def LpReturnsWrongFalsely : Prop := lpReturnsRow.holds Tryz.pinned (OpenSpec.ofChange lpReturnsWrong)

/-- 'boomeranglaw13.LpFrees': WHATEVER THE INPUT: true; the input reads as it did. -/
def lpFreesSpec : ChangeSpec := { name := "lpFrees", fn := fun _ => fun
  | [d1, d2, d3] => { results := [.lit (.bool true)], args := [d1, d2, d3] }
  | _ => none }
def lpFreesRow : OpenClaim := { program := "ythbcdkeammhakaagreat", sum := "13c8a431035ad05eb1e011f3d1e111408c9217538c5a0c6415e6a23eda333218", func := "boomerang/boomeranglaw13.LpFrees", spec := "lpFrees", inPlace := ["slices.overlaps[boomerang/api.Event]", "slices.overlaps[boomerang/outq.record]"], unfollowed := true, recurses := true, apart := false }
def LpFreesSaid : Prop := lpFreesRow.holds Tryz.pinned (OpenSpec.ofChange lpFreesSpec)

/-- ITS FALSE NEIGHBOUR: 'it returns false'. Refute it at one input. -/
def lpFreesWrong : ChangeSpec := { name := "lpFrees", fn := fun _ => fun
  | [d1, d2, d3] => { results := [.lit (.bool false)], args := [d1, d2, d3] }
  | _ => none }
def LpFreesWrongFalsely : Prop := lpFreesRow.holds Tryz.pinned (OpenSpec.ofChange lpFreesWrong)

/-- 'boomeranglaw13.LpCopies': WHATEVER THE INPUT: true; the input reads as it did. -/
def lpCopiesSpec : ChangeSpec := { name := "lpCopies", fn := fun _ => fun
  | [d1, d2, d3] => { results := [.lit (.bool true)], args := [d1, d2, d3] }
  | _ => none }
def lpCopiesRow : OpenClaim := { program := "ythbcdkeammhakaagreat", sum := "13c8a431035ad05eb1e011f3d1e111408c9217538c5a0c6415e6a23eda333218", func := "boomerang/boomeranglaw13.LpCopies", spec := "lpCopies", inPlace := ["slices.overlaps[boomerang/api.Event]", "slices.overlaps[boomerang/outq.record]"], unfollowed := true, recurses := true, apart := false }
def LpCopiesSaid : Prop := lpCopiesRow.holds Tryz.pinned (OpenSpec.ofChange lpCopiesSpec)

/-- ITS FALSE NEIGHBOUR: 'it returns false'. Refute it at one input. -/
def lpCopiesWrong : ChangeSpec := { name := "lpCopies", fn := fun _ => fun
  | [d1, d2, d3] => { results := [.lit (.bool false)], args := [d1, d2, d3] }
  | _ => none }
def LpCopiesWrongFalsely : Prop := lpCopiesRow.holds Tryz.pinned (OpenSpec.ofChange lpCopiesWrong)

/-- 'boomeranglaw13.LpNil': WHATEVER THE INPUT: true; the input reads as it did. -/
def lpNilSpec : ChangeSpec := { name := "lpNil", fn := fun _ => fun
  | [d] => { results := [.lit (.bool true)], args := [d] }
  | _ => none }
def lpNilRow : OpenClaim := { program := "ythbcdkeammhakaagreat", sum := "13c8a431035ad05eb1e011f3d1e111408c9217538c5a0c6415e6a23eda333218", func := "boomerang/boomeranglaw13.LpNil", spec := "lpNil", inPlace := ["slices.overlaps[boomerang/api.Event]", "slices.overlaps[boomerang/outq.record]"], unfollowed := true, recurses := true, apart := false }
def LpNilSaid : Prop := lpNilRow.holds Tryz.pinned (OpenSpec.ofChange lpNilSpec)

/-- ITS FALSE NEIGHBOUR: 'it returns false'. Refute it at one input. -/
def lpNilWrong : ChangeSpec := { name := "lpNil", fn := fun _ => fun
  | [d] => { results := [.lit (.bool false)], args := [d] }
  | _ => none }
def LpNilWrongFalsely : Prop := lpNilRow.holds Tryz.pinned (OpenSpec.ofChange lpNilWrong)

/-- 'boomeranglaw13.LpGives': WHATEVER THE INPUT: true; the input reads as it did. -/
def lpGivesSpec : ChangeSpec := { name := "lpGives", fn := fun _ => fun
  | [d1, d2, d3] => { results := [.lit (.bool true)], args := [d1, d2, d3] }
  | _ => none }
def lpGivesRow : OpenClaim := { program := "ythbcdkeammhakaagreat", sum := "13c8a431035ad05eb1e011f3d1e111408c9217538c5a0c6415e6a23eda333218", func := "boomerang/boomeranglaw13.LpGives", spec := "lpGives", inPlace := ["slices.overlaps[boomerang/api.Event]", "slices.overlaps[boomerang/outq.record]"], unfollowed := true, recurses := true, apart := false }
def LpGivesSaid : Prop := lpGivesRow.holds Tryz.pinned (OpenSpec.ofChange lpGivesSpec)

/-- ITS FALSE NEIGHBOUR: 'it returns false'. Refute it at one input. -/
def lpGivesWrong : ChangeSpec := { name := "lpGives", fn := fun _ => fun
  | [d1, d2, d3] => { results := [.lit (.bool false)], args := [d1, d2, d3] }
  | _ => none }
def LpGivesWrongFalsely : Prop := lpGivesRow.holds Tryz.pinned (OpenSpec.ofChange lpGivesWrong)

/- THE SECOND FORM. 'bulk': how many values and letters a reading holds, each counted each time it is reached (what is shared counts as often as it is met; a slice's spare places count too). A statement '..UptoSaid' is the law's where the arguments, and the package variables that the reading takes, are together of bulk at most 1048576: NARROWER than '..Said'. Prove '..Said' where nothing that the law and all that it calls make is longer than what came in: it says more and counts as full. Else prove '..UptoSaid'. A law counts once. -/
mutual
def uptoBulk {H : Type} : DataW H → Nat
  | .lit (.string bytes) => bytes.length + 1
  | .lit _ => 1
  | .nil => 1
  | .ptr d => uptoBulk d + 1
  | .slice elems spare => uptoBulkAll elems + uptoBulkAll spare + 1
  | .agg parts => uptoBulkAll parts + 1
  | .iface _ d => uptoBulk d + 1
  | .map entries => uptoBulkEntries entries + 1
  | .held _ => 1
def uptoBulkAll {H : Type} : List (DataW H) → Nat
  | [] => 0
  | d :: r => uptoBulk d + uptoBulkAll r
def uptoBulkEntries {H : Type} : List (Lit × DataW H) → Nat
  | [] => 0
  | x :: r => uptoBulkEntry x + uptoBulkEntries r
def uptoBulkEntry {H : Type} : Lit × DataW H → Nat
  | (.string bytes, d) => bytes.length + uptoBulk d + 1
  | (_, d) => uptoBulk d + 1
 end
def uptoSmall : (H : Type) → List (DataW H) → Bool := fun _ ds => decide (uptoBulkAll ds ≤ 1048576)
def OpenSpec.upto (s : _root_.Go.ChangeSpec) : _root_.Go.OpenSpec := { _root_.Go.OpenSpec.ofChange s with cond := some uptoSmall }

/-- 'boomeranglaw13.LpSaves', WHERE WHAT IT READS IS OF BULK AT MOST 1048576: true; the input reads as it did. -/
def lpSavesUptoRow : OpenClaim := { program := "ythbcdkeammhakaagreat", sum := "13c8a431035ad05eb1e011f3d1e111408c9217538c5a0c6415e6a23eda333218", func := "boomerang/boomeranglaw13.LpSaves", spec := "lpSaves", inPlace := ["slices.overlaps[boomerang/api.Event]", "slices.overlaps[boomerang/outq.record]"], unfollowed := true, recurses := true, apart := false, narrowed := true }
def LpSavesUptoSaid : Prop := lpSavesUptoRow.holds Tryz.pinned (OpenSpec.upto lpSavesSpec)

/-- 'boomeranglaw13.LpFolds', WHERE WHAT IT READS IS OF BULK AT MOST 1048576: true; the input reads as it did. -/
def lpFoldsUptoRow : OpenClaim := { program := "ythbcdkeammhakaagreat", sum := "13c8a431035ad05eb1e011f3d1e111408c9217538c5a0c6415e6a23eda333218", func := "boomerang/boomeranglaw13.LpFolds", spec := "lpFolds", inPlace := ["slices.overlaps[boomerang/api.Event]", "slices.overlaps[boomerang/outq.record]"], unfollowed := true, recurses := true, apart := false, narrowed := true }
def LpFoldsUptoSaid : Prop := lpFoldsUptoRow.holds Tryz.pinned (OpenSpec.upto lpFoldsSpec)

/-- 'boomeranglaw13.LpLazy', WHERE WHAT IT READS IS OF BULK AT MOST 1048576: true; the input reads as it did. -/
def lpLazyUptoRow : OpenClaim := { program := "ythbcdkeammhakaagreat", sum := "13c8a431035ad05eb1e011f3d1e111408c9217538c5a0c6415e6a23eda333218", func := "boomerang/boomeranglaw13.LpLazy", spec := "lpLazy", inPlace := ["slices.overlaps[boomerang/api.Event]", "slices.overlaps[boomerang/outq.record]"], unfollowed := true, recurses := true, apart := false, narrowed := true }
def LpLazyUptoSaid : Prop := lpLazyUptoRow.holds Tryz.pinned (OpenSpec.upto lpLazySpec)

/-- 'boomeranglaw13.LpReturns', WHERE WHAT IT READS IS OF BULK AT MOST 1048576: true; the input reads as it did. -/
def lpReturnsUptoRow : OpenClaim := { program := "ythbcdkeammhakaagreat", sum := "13c8a431035ad05eb1e011f3d1e111408c9217538c5a0c6415e6a23eda333218", func := "boomerang/boomeranglaw13.LpReturns", spec := "lpReturns", inPlace := ["slices.overlaps[boomerang/api.Event]", "slices.overlaps[boomerang/outq.record]"], unfollowed := true, recurses := true, apart := false, narrowed := true }
def LpReturnsUptoSaid : Prop := lpReturnsUptoRow.holds Tryz.pinned (OpenSpec.upto lpReturnsSpec)

/-- 'boomeranglaw13.LpFrees', WHERE WHAT IT READS IS OF BULK AT MOST 1048576: true; the input reads as it did. -/
def lpFreesUptoRow : OpenClaim := { program := "ythbcdkeammhakaagreat", sum := "13c8a431035ad05eb1e011f3d1e111408c9217538c5a0c6415e6a23eda333218", func := "boomerang/boomeranglaw13.LpFrees", spec := "lpFrees", inPlace := ["slices.overlaps[boomerang/api.Event]", "slices.overlaps[boomerang/outq.record]"], unfollowed := true, recurses := true, apart := false, narrowed := true }
def LpFreesUptoSaid : Prop := lpFreesUptoRow.holds Tryz.pinned (OpenSpec.upto lpFreesSpec)

/-- 'boomeranglaw13.LpCopies', WHERE WHAT IT READS IS OF BULK AT MOST 1048576: true; the input reads as it did. -/
def lpCopiesUptoRow : OpenClaim := { program := "ythbcdkeammhakaagreat", sum := "13c8a431035ad05eb1e011f3d1e111408c9217538c5a0c6415e6a23eda333218", func := "boomerang/boomeranglaw13.LpCopies", spec := "lpCopies", inPlace := ["slices.overlaps[boomerang/api.Event]", "slices.overlaps[boomerang/outq.record]"], unfollowed := true, recurses := true, apart := false, narrowed := true }
def LpCopiesUptoSaid : Prop := lpCopiesUptoRow.holds Tryz.pinned (OpenSpec.upto lpCopiesSpec)

/-- 'boomeranglaw13.LpNil', WHERE WHAT IT READS IS OF BULK AT MOST 1048576: true; the input reads as it did. -/
def lpNilUptoRow : OpenClaim := { program := "ythbcdkeammhakaagreat", sum := "13c8a431035ad05eb1e011f3d1e111408c9217538c5a0c6415e6a23eda333218", func := "boomerang/boomeranglaw13.LpNil", spec := "lpNil", inPlace := ["slices.overlaps[boomerang/api.Event]", "slices.overlaps[boomerang/outq.record]"], unfollowed := true, recurses := true, apart := false, narrowed := true }
def LpNilUptoSaid : Prop := lpNilUptoRow.holds Tryz.pinned (OpenSpec.upto lpNilSpec)

/-- 'boomeranglaw13.LpGives', WHERE WHAT IT READS IS OF BULK AT MOST 1048576: true; the input reads as it did. -/
def lpGivesUptoRow : OpenClaim := { program := "ythbcdkeammhakaagreat", sum := "13c8a431035ad05eb1e011f3d1e111408c9217538c5a0c6415e6a23eda333218", func := "boomerang/boomeranglaw13.LpGives", spec := "lpGives", inPlace := ["slices.overlaps[boomerang/api.Event]", "slices.overlaps[boomerang/outq.record]"], unfollowed := true, recurses := true, apart := false, narrowed := true }
def LpGivesUptoSaid : Prop := lpGivesUptoRow.holds Tryz.pinned (OpenSpec.upto lpGivesSpec)

end Rows
end Go.Proofs.YthbcdkeammhakaaGreat
