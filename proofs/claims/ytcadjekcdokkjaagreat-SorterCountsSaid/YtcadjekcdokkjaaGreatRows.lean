/-
  No cell of these rows narrows 'for every input' (looked for: loops, veiled, ifaces, maps, wideKeys, modest, calm, conditions, laid).
  DERIVED. THE GIVEN ROWS OF THIS SEAT. 6 by the template 'for every input the law returns true; each argument reads behind the call as it read before'; 0 by the template 'total and deterministic' (their statements: YtcadjekcdokkjaaGreatTotals.lean).
  GIVEN WITH THE SEED: the statements are not yours to turn. If you find one false, say at which input.
  Laid BY PROGRAM, IN A SANDBOX (cutbox-rows.mjs): the forced cells as the released guide's own fill.sh prints them over the translation 19b0677c92a8b5dd… (all of the seat's roots in one cut). By AI agents, Wed Nov 11 2026. No macro, syntax, notation, axiom, sorry.
-/
import Derived.Test.YtcadjekcdokkjaaGreatChecked
import GoSem.Claim
import GoSem.ClaimJoined
import GoSem.ClaimMapViews
import Derived.JoinedTies
import Derived.KernelRfl
namespace Go.Proofs.YtcadjekcdokkjaaGreat
/- THE CELL 'sum', in the pinned program and in every row, IS THE sha256 OF THE DUMP (.gsa) THAT YtcadjekcdokkjaaGreatProg.lean LOADS. Nothing in Lean hashes anything: it is a label: what it is worth is what the hold of that sum in a sandbox is worth. -/
noncomputable def Tryz.pinned : Pinned := { name := "ytcadjekcdokkjaagreat", sum := "19b0677c92a8b5dd44d30dcd1cf9fe937f3d5396c7fa53ca5636072edce77de3", checked := Tryz.checked }
namespace Rows
def none {H : Type} : Left H := { results := [], args := [] }

/-- 'warplaw18.SorterNil': WHATEVER THE INPUT: true; the input reads as it did. -/
def sorterNilSpec : ChangeSpec := { name := "sorterNil", fn := fun _ => fun
  | [d] => { results := [.lit (.bool true)], args := [d] }
  | _ => none }
def sorterNilRow : OpenClaim := { program := "ytcadjekcdokkjaagreat", sum := "19b0677c92a8b5dd44d30dcd1cf9fe937f3d5396c7fa53ca5636072edce77de3", func := "warp/warplaw18.SorterNil", spec := "sorterNil", unfollowed := true, recurses := true, apart := false }
def SorterNilSaid : Prop := sorterNilRow.holds Tryz.pinned (OpenSpec.ofChange sorterNilSpec)

/-- ITS FALSE NEIGHBOUR: 'it returns false'. Refute it at one input. -/
def sorterNilWrong : ChangeSpec := { name := "sorterNil", fn := fun _ => fun
  | [d] => { results := [.lit (.bool false)], args := [d] }
  | _ => none }
def SorterNilWrongFalsely : Prop := sorterNilRow.holds Tryz.pinned (OpenSpec.ofChange sorterNilWrong)

/-- 'warplaw18.SorterStable': WHATEVER THE INPUT: true; the input reads as it did. -/
def sorterStableSpec : ChangeSpec := { name := "sorterStable", fn := fun _ => fun
  | [d1, d2, d3] => { results := [.lit (.bool true)], args := [d1, d2, d3] }
  | _ => none }
def sorterStableRow : OpenClaim := { program := "ytcadjekcdokkjaagreat", sum := "19b0677c92a8b5dd44d30dcd1cf9fe937f3d5396c7fa53ca5636072edce77de3", func := "warp/warplaw18.SorterStable", spec := "sorterStable", unfollowed := true, recurses := true, apart := false }
def SorterStableSaid : Prop := sorterStableRow.holds Tryz.pinned (OpenSpec.ofChange sorterStableSpec)

/-- ITS FALSE NEIGHBOUR: 'it returns false'. Refute it at one input. -/
def sorterStableWrong : ChangeSpec := { name := "sorterStable", fn := fun _ => fun
  | [d1, d2, d3] => { results := [.lit (.bool false)], args := [d1, d2, d3] }
  | _ => none }
def SorterStableWrongFalsely : Prop := sorterStableRow.holds Tryz.pinned (OpenSpec.ofChange sorterStableWrong)

/-- 'warplaw18.SorterSorts': WHATEVER THE INPUT: true; the input reads as it did. -/
def sorterSortsSpec : ChangeSpec := { name := "sorterSorts", fn := fun _ => fun
  | [d1, d2, d3, d4] => { results := [.lit (.bool true)], args := [d1, d2, d3, d4] }
  | _ => none }
def sorterSortsRow : OpenClaim := { program := "ytcadjekcdokkjaagreat", sum := "19b0677c92a8b5dd44d30dcd1cf9fe937f3d5396c7fa53ca5636072edce77de3", func := "warp/warplaw18.SorterSorts", spec := "sorterSorts", unfollowed := true, recurses := true, apart := false }
def SorterSortsSaid : Prop := sorterSortsRow.holds Tryz.pinned (OpenSpec.ofChange sorterSortsSpec)

/-- ITS FALSE NEIGHBOUR: 'it returns false'. Refute it at one input. -/
def sorterSortsWrong : ChangeSpec := { name := "sorterSorts", fn := fun _ => fun
  | [d1, d2, d3, d4] => { results := [.lit (.bool false)], args := [d1, d2, d3, d4] }
  | _ => none }
def SorterSortsWrongFalsely : Prop := sorterSortsRow.holds Tryz.pinned (OpenSpec.ofChange sorterSortsWrong)

/-- 'warplaw18.SorterLeaves': WHATEVER THE INPUT: true; the input reads as it did. -/
def sorterLeavesSpec : ChangeSpec := { name := "sorterLeaves", fn := fun _ => fun
  | [d1, d2, d3, d4, d5, d6, d7] => { results := [.lit (.bool true)], args := [d1, d2, d3, d4, d5, d6, d7] }
  | _ => none }
def sorterLeavesRow : OpenClaim := { program := "ytcadjekcdokkjaagreat", sum := "19b0677c92a8b5dd44d30dcd1cf9fe937f3d5396c7fa53ca5636072edce77de3", func := "warp/warplaw18.SorterLeaves", spec := "sorterLeaves", unfollowed := true, recurses := true, apart := false }
def SorterLeavesSaid : Prop := sorterLeavesRow.holds Tryz.pinned (OpenSpec.ofChange sorterLeavesSpec)

/-- ITS FALSE NEIGHBOUR: 'it returns false'. Refute it at one input. -/
def sorterLeavesWrong : ChangeSpec := { name := "sorterLeaves", fn := fun _ => fun
  | [d1, d2, d3, d4, d5, d6, d7] => { results := [.lit (.bool false)], args := [d1, d2, d3, d4, d5, d6, d7] }
  | _ => none }
def SorterLeavesWrongFalsely : Prop := sorterLeavesRow.holds Tryz.pinned (OpenSpec.ofChange sorterLeavesWrong)

/-- 'warplaw18.SorterCounts': WHATEVER THE INPUT: true; the input reads as it did. -/
def sorterCountsSpec : ChangeSpec := { name := "sorterCounts", fn := fun _ => fun
  | [d1, d2, d3, d4] => { results := [.lit (.bool true)], args := [d1, d2, d3, d4] }
  | _ => none }
def sorterCountsRow : OpenClaim := { program := "ytcadjekcdokkjaagreat", sum := "19b0677c92a8b5dd44d30dcd1cf9fe937f3d5396c7fa53ca5636072edce77de3", func := "warp/warplaw18.SorterCounts", spec := "sorterCounts", unfollowed := true, recurses := true, apart := false }
def SorterCountsSaid : Prop := sorterCountsRow.holds Tryz.pinned (OpenSpec.ofChange sorterCountsSpec)

/-- ITS FALSE NEIGHBOUR: 'it returns false'. Refute it at one input. -/
def sorterCountsWrong : ChangeSpec := { name := "sorterCounts", fn := fun _ => fun
  | [d1, d2, d3, d4] => { results := [.lit (.bool false)], args := [d1, d2, d3, d4] }
  | _ => none }
def SorterCountsWrongFalsely : Prop := sorterCountsRow.holds Tryz.pinned (OpenSpec.ofChange sorterCountsWrong)

/-- 'warplaw18.SorterSpoilt': WHATEVER THE INPUT: true; the input reads as it did. -/
def sorterSpoiltSpec : ChangeSpec := { name := "sorterSpoilt", fn := fun _ => fun
  | [d1, d2, d3, d4, d5] => { results := [.lit (.bool true)], args := [d1, d2, d3, d4, d5] }
  | _ => none }
def sorterSpoiltRow : OpenClaim := { program := "ytcadjekcdokkjaagreat", sum := "19b0677c92a8b5dd44d30dcd1cf9fe937f3d5396c7fa53ca5636072edce77de3", func := "warp/warplaw18.SorterSpoilt", spec := "sorterSpoilt", unfollowed := true, recurses := true, apart := false }
def SorterSpoiltSaid : Prop := sorterSpoiltRow.holds Tryz.pinned (OpenSpec.ofChange sorterSpoiltSpec)

/-- ITS FALSE NEIGHBOUR: 'it returns false'. Refute it at one input. -/
def sorterSpoiltWrong : ChangeSpec := { name := "sorterSpoilt", fn := fun _ => fun
  | [d1, d2, d3, d4, d5] => { results := [.lit (.bool false)], args := [d1, d2, d3, d4, d5] }
  | _ => none }
def SorterSpoiltWrongFalsely : Prop := sorterSpoiltRow.holds Tryz.pinned (OpenSpec.ofChange sorterSpoiltWrong)

/- THE SECOND FORM. 'bulk': how many values and letters a reading holds, each counted each time it is reached (what is shared counts as often as it is met; a slice's spare places count too). A statement '..UptoSaid' is the law's where the arguments, and the package variables that the reading takes, are together of bulk at most 1048576: NARROWER than '..Said'. Prove '..Said' where nothing that the law and all that it calls make is longer than what came in: it says more and counts as full. Else prove '..UptoSaid'. A law counts once. -/
mutual
def uptoBulk {H : Type} : DataW H → Nat
  | .lit (.string bytes) => bytes.length + 1
  | .lit _ => 1
  | .nil => 1
  | .ptr d => uptoBulk d + 1
  | .slice elems spare => uptoBulkAll elems + uptoBulkAll spare + 1
  | .agg parts => uptoBulkAll parts + 1
  | .iface _ d => uptoBulk d + 1
  | .map entries => uptoBulkEntries entries + 1
  | .held _ => 1
def uptoBulkAll {H : Type} : List (DataW H) → Nat
  | [] => 0
  | d :: r => uptoBulk d + uptoBulkAll r
def uptoBulkEntries {H : Type} : List (Lit × DataW H) → Nat
  | [] => 0
  | x :: r => uptoBulkEntry x + uptoBulkEntries r
def uptoBulkEntry {H : Type} : Lit × DataW H → Nat
  | (.string bytes, d) => bytes.length + uptoBulk d + 1
  | (_, d) => uptoBulk d + 1
 end
def uptoSmall : (H : Type) → List (DataW H) → Bool := fun _ ds => decide (uptoBulkAll ds ≤ 1048576)
def OpenSpec.upto (s : _root_.Go.ChangeSpec) : _root_.Go.OpenSpec := { _root_.Go.OpenSpec.ofChange s with cond := some uptoSmall }

/-- 'warplaw18.SorterNil', WHERE WHAT IT READS IS OF BULK AT MOST 1048576: true; the input reads as it did. -/
def sorterNilUptoRow : OpenClaim := { program := "ytcadjekcdokkjaagreat", sum := "19b0677c92a8b5dd44d30dcd1cf9fe937f3d5396c7fa53ca5636072edce77de3", func := "warp/warplaw18.SorterNil", spec := "sorterNil", unfollowed := true, recurses := true, apart := false, narrowed := true }
def SorterNilUptoSaid : Prop := sorterNilUptoRow.holds Tryz.pinned (OpenSpec.upto sorterNilSpec)

/-- 'warplaw18.SorterStable', WHERE WHAT IT READS IS OF BULK AT MOST 1048576: true; the input reads as it did. -/
def sorterStableUptoRow : OpenClaim := { program := "ytcadjekcdokkjaagreat", sum := "19b0677c92a8b5dd44d30dcd1cf9fe937f3d5396c7fa53ca5636072edce77de3", func := "warp/warplaw18.SorterStable", spec := "sorterStable", unfollowed := true, recurses := true, apart := false, narrowed := true }
def SorterStableUptoSaid : Prop := sorterStableUptoRow.holds Tryz.pinned (OpenSpec.upto sorterStableSpec)

/-- 'warplaw18.SorterSorts', WHERE WHAT IT READS IS OF BULK AT MOST 1048576: true; the input reads as it did. -/
def sorterSortsUptoRow : OpenClaim := { program := "ytcadjekcdokkjaagreat", sum := "19b0677c92a8b5dd44d30dcd1cf9fe937f3d5396c7fa53ca5636072edce77de3", func := "warp/warplaw18.SorterSorts", spec := "sorterSorts", unfollowed := true, recurses := true, apart := false, narrowed := true }
def SorterSortsUptoSaid : Prop := sorterSortsUptoRow.holds Tryz.pinned (OpenSpec.upto sorterSortsSpec)

/-- 'warplaw18.SorterLeaves', WHERE WHAT IT READS IS OF BULK AT MOST 1048576: true; the input reads as it did. -/
def sorterLeavesUptoRow : OpenClaim := { program := "ytcadjekcdokkjaagreat", sum := "19b0677c92a8b5dd44d30dcd1cf9fe937f3d5396c7fa53ca5636072edce77de3", func := "warp/warplaw18.SorterLeaves", spec := "sorterLeaves", unfollowed := true, recurses := true, apart := false, narrowed := true }
def SorterLeavesUptoSaid : Prop := sorterLeavesUptoRow.holds Tryz.pinned (OpenSpec.upto sorterLeavesSpec)

/-- 'warplaw18.SorterCounts', WHERE WHAT IT READS IS OF BULK AT MOST 1048576: true; the input reads as it did. -/
def sorterCountsUptoRow : OpenClaim := { program := "ytcadjekcdokkjaagreat", sum := "19b0677c92a8b5dd44d30dcd1cf9fe937f3d5396c7fa53ca5636072edce77de3", func := "warp/warplaw18.SorterCounts", spec := "sorterCounts", unfollowed := true, recurses := true, apart := false, narrowed := true }
def SorterCountsUptoSaid : Prop := sorterCountsUptoRow.holds Tryz.pinned (OpenSpec.upto sorterCountsSpec)

/-- 'warplaw18.SorterSpoilt', WHERE WHAT IT READS IS OF BULK AT MOST 1048576: true; the input reads as it did. -/
def sorterSpoiltUptoRow : OpenClaim := { program := "ytcadjekcdokkjaagreat", sum := "19b0677c92a8b5dd44d30dcd1cf9fe937f3d5396c7fa53ca5636072edce77de3", func := "warp/warplaw18.SorterSpoilt", spec := "sorterSpoilt", unfollowed := true, recurses := true, apart := false, narrowed := true }
def SorterSpoiltUptoSaid : Prop := sorterSpoiltUptoRow.holds Tryz.pinned (OpenSpec.upto sorterSpoiltSpec)

end Rows
end Go.Proofs.YtcadjekcdokkjaaGreat
