/-
  No cell of these rows narrows 'for every input' (looked for: loops, veiled, ifaces, maps, wideKeys, modest, calm, conditions, laid).
  DERIVED. THE GIVEN ROWS OF THIS SEAT. 5 by the template 'for every input the law returns true; each argument reads behind the call as it read before'; 0 by the template 'total and deterministic' (their statements: YtnlaeiadakdbkaaTotals.lean).
  GIVEN WITH THE SEED: the statements are not yours to turn. If you find one false, say at which input.
  Laid BY PROGRAM, IN A SANDBOX (cutbox-rows.mjs): the forced cells as the released guide's own fill.sh prints them over the translation 86a47c06e3aca7e0… (all of the seat's roots in one cut). By AI agents, Wed Nov 11 2026. No macro, syntax, notation, axiom, sorry.
-/
import Derived.Test.YtnlaeiadakdbkaaChecked
import GoSem.Claim
import GoSem.ClaimJoined
import GoSem.ClaimMapViews
import Derived.JoinedTies
import Derived.KernelRfl
namespace Go.Proofs.Ytnlaeiadakdbkaa
/- THE CELL 'sum', in the pinned program and in every row, IS THE sha256 OF THE DUMP (.gsa) THAT YtnlaeiadakdbkaaProg.lean LOADS. Nothing in Lean hashes anything: it is a label: what it is worth is what the hold of that sum in a sandbox is worth. -/
noncomputable def Try.pinned : Pinned := { name := "ytnlaeiadakdbkaa", sum := "86a47c06e3aca7e0e0c1beefe8e75e9d7bfdb515d3ba0a1f64268f8a98509af6", checked := Try.checked }
namespace Rows
def none {H : Type} : Left H := { results := [], args := [] }

/-- 'warplaw05.PagesLeast': WHATEVER THE INPUT: true; the input reads as it did. -/
def pagesLeastSpec : ChangeSpec := { name := "pagesLeast", fn := fun _ => fun
  | [d1, d2] => { results := [.lit (.bool true)], args := [d1, d2] }
  | _ => none }
def pagesLeastRow : OpenClaim := { program := "ytnlaeiadakdbkaa", sum := "86a47c06e3aca7e0e0c1beefe8e75e9d7bfdb515d3ba0a1f64268f8a98509af6", func := "warp/warplaw05.PagesLeast", spec := "pagesLeast", unfollowed := true, recurses := true, apart := false }
def PagesLeastSaid : Prop := pagesLeastRow.holds Try.pinned (OpenSpec.ofChange pagesLeastSpec)

/-- ITS FALSE NEIGHBOUR: 'it returns false'. Refute it at one input. -/
def pagesLeastWrong : ChangeSpec := { name := "pagesLeast", fn := fun _ => fun
  | [d1, d2] => { results := [.lit (.bool false)], args := [d1, d2] }
  | _ => none }
def PagesLeastWrongFalsely : Prop := pagesLeastRow.holds Try.pinned (OpenSpec.ofChange pagesLeastWrong)

/-- 'warplaw05.PagesBack': WHATEVER THE INPUT: true; the input reads as it did. -/
def pagesBackSpec : ChangeSpec := { name := "pagesBack", fn := fun _ => fun
  | [d1, d2, d3] => { results := [.lit (.bool true)], args := [d1, d2, d3] }
  | _ => none }
def pagesBackRow : OpenClaim := { program := "ytnlaeiadakdbkaa", sum := "86a47c06e3aca7e0e0c1beefe8e75e9d7bfdb515d3ba0a1f64268f8a98509af6", func := "warp/warplaw05.PagesBack", spec := "pagesBack", unfollowed := true, recurses := true, apart := false }
def PagesBackSaid : Prop := pagesBackRow.holds Try.pinned (OpenSpec.ofChange pagesBackSpec)

/-- ITS FALSE NEIGHBOUR: 'it returns false'. Refute it at one input. -/
def pagesBackWrong : ChangeSpec := { name := "pagesBack", fn := fun _ => fun
  | [d1, d2, d3] => { results := [.lit (.bool false)], args := [d1, d2, d3] }
  | _ => none }
def PagesBackWrongFalsely : Prop := pagesBackRow.holds Try.pinned (OpenSpec.ofChange pagesBackWrong)

/-- 'warplaw05.PagesBursts': WHATEVER THE INPUT: true; the input reads as it did. -/
def pagesBurstsSpec : ChangeSpec := { name := "pagesBursts", fn := fun _ => fun
  | [d1, d2, d3, d4] => { results := [.lit (.bool true)], args := [d1, d2, d3, d4] }
  | _ => none }
def pagesBurstsRow : OpenClaim := { program := "ytnlaeiadakdbkaa", sum := "86a47c06e3aca7e0e0c1beefe8e75e9d7bfdb515d3ba0a1f64268f8a98509af6", func := "warp/warplaw05.PagesBursts", spec := "pagesBursts", unfollowed := true, recurses := true, apart := false }
def PagesBurstsSaid : Prop := pagesBurstsRow.holds Try.pinned (OpenSpec.ofChange pagesBurstsSpec)

/-- ITS FALSE NEIGHBOUR: 'it returns false'. Refute it at one input. -/
def pagesBurstsWrong : ChangeSpec := { name := "pagesBursts", fn := fun _ => fun
  | [d1, d2, d3, d4] => { results := [.lit (.bool false)], args := [d1, d2, d3, d4] }
  | _ => none }
def PagesBurstsWrongFalsely : Prop := pagesBurstsRow.holds Try.pinned (OpenSpec.ofChange pagesBurstsWrong)

/-- 'warplaw05.PagesPlays': WHATEVER THE INPUT: true; the input reads as it did. -/
def pagesPlaysSpec : ChangeSpec := { name := "pagesPlays", fn := fun _ => fun
  | [d1, d2] => { results := [.lit (.bool true)], args := [d1, d2] }
  | _ => none }
def pagesPlaysRow : OpenClaim := { program := "ytnlaeiadakdbkaa", sum := "86a47c06e3aca7e0e0c1beefe8e75e9d7bfdb515d3ba0a1f64268f8a98509af6", func := "warp/warplaw05.PagesPlays", spec := "pagesPlays", unfollowed := true, recurses := true, apart := false }
def PagesPlaysSaid : Prop := pagesPlaysRow.holds Try.pinned (OpenSpec.ofChange pagesPlaysSpec)

/-- ITS FALSE NEIGHBOUR: 'it returns false'. Refute it at one input. -/
def pagesPlaysWrong : ChangeSpec := { name := "pagesPlays", fn := fun _ => fun
  | [d1, d2] => { results := [.lit (.bool false)], args := [d1, d2] }
  | _ => none }
def PagesPlaysWrongFalsely : Prop := pagesPlaysRow.holds Try.pinned (OpenSpec.ofChange pagesPlaysWrong)

/-- 'warplaw05.PagesNil': WHATEVER THE INPUT: true; the input reads as it did. -/
def pagesNilSpec : ChangeSpec := { name := "pagesNil", fn := fun _ => fun
  | [d1, d2] => { results := [.lit (.bool true)], args := [d1, d2] }
  | _ => none }
def pagesNilRow : OpenClaim := { program := "ytnlaeiadakdbkaa", sum := "86a47c06e3aca7e0e0c1beefe8e75e9d7bfdb515d3ba0a1f64268f8a98509af6", func := "warp/warplaw05.PagesNil", spec := "pagesNil", unfollowed := true, recurses := true, apart := false }
def PagesNilSaid : Prop := pagesNilRow.holds Try.pinned (OpenSpec.ofChange pagesNilSpec)

/-- ITS FALSE NEIGHBOUR: 'it returns false'. Refute it at one input. -/
def pagesNilWrong : ChangeSpec := { name := "pagesNil", fn := fun _ => fun
  | [d1, d2] => { results := [.lit (.bool false)], args := [d1, d2] }
  | _ => none }
def PagesNilWrongFalsely : Prop := pagesNilRow.holds Try.pinned (OpenSpec.ofChange pagesNilWrong)

/- THE SECOND FORM. 'bulk': how many values and letters a reading holds, each counted each time it is reached (what is shared counts as often as it is met; a slice's spare places count too). A statement '..UptoSaid' is the law's where the arguments, and the package variables that the reading takes, are together of bulk at most 1048576: NARROWER than '..Said'. Prove '..Said' where nothing that the law and all that it calls make is longer than what came in: it says more and counts as full. Else prove '..UptoSaid'. A law counts once. -/
mutual
def uptoBulk {H : Type} : DataW H → Nat
  | .lit (.string bytes) => bytes.length + 1
  | .lit _ => 1
  | .nil => 1
  | .ptr d => uptoBulk d + 1
  | .slice elems spare => uptoBulkAll elems + uptoBulkAll spare + 1
  | .agg parts => uptoBulkAll parts + 1
  | .iface _ d => uptoBulk d + 1
  | .map entries => uptoBulkEntries entries + 1
  | .held _ => 1
def uptoBulkAll {H : Type} : List (DataW H) → Nat
  | [] => 0
  | d :: r => uptoBulk d + uptoBulkAll r
def uptoBulkEntries {H : Type} : List (Lit × DataW H) → Nat
  | [] => 0
  | x :: r => uptoBulkEntry x + uptoBulkEntries r
def uptoBulkEntry {H : Type} : Lit × DataW H → Nat
  | (.string bytes, d) => bytes.length + uptoBulk d + 1
  | (_, d) => uptoBulk d + 1
 end
def uptoSmall : (H : Type) → List (DataW H) → Bool := fun _ ds => decide (uptoBulkAll ds ≤ 1048576)
def OpenSpec.upto (s : _root_.Go.ChangeSpec) : _root_.Go.OpenSpec := { _root_.Go.OpenSpec.ofChange s with cond := some uptoSmall }

/-- 'warplaw05.PagesLeast', WHERE WHAT IT READS IS OF BULK AT MOST 1048576: true; the input reads as it did. -/
def pagesLeastUptoRow : OpenClaim := { program := "ytnlaeiadakdbkaa", sum := "86a47c06e3aca7e0e0c1beefe8e75e9d7bfdb515d3ba0a1f64268f8a98509af6", func := "warp/warplaw05.PagesLeast", spec := "pagesLeast", unfollowed := true, recurses := true, apart := false, narrowed := true }
def PagesLeastUptoSaid : Prop := pagesLeastUptoRow.holds Try.pinned (OpenSpec.upto pagesLeastSpec)

/-- 'warplaw05.PagesBack', WHERE WHAT IT READS IS OF BULK AT MOST 1048576: true; the input reads as it did. -/
def pagesBackUptoRow : OpenClaim := { program := "ytnlaeiadakdbkaa", sum := "86a47c06e3aca7e0e0c1beefe8e75e9d7bfdb515d3ba0a1f64268f8a98509af6", func := "warp/warplaw05.PagesBack", spec := "pagesBack", unfollowed := true, recurses := true, apart := false, narrowed := true }
def PagesBackUptoSaid : Prop := pagesBackUptoRow.holds Try.pinned (OpenSpec.upto pagesBackSpec)

/-- 'warplaw05.PagesBursts', WHERE WHAT IT READS IS OF BULK AT MOST 1048576: true; the input reads as it did. -/
def pagesBurstsUptoRow : OpenClaim := { program := "ytnlaeiadakdbkaa", sum := "86a47c06e3aca7e0e0c1beefe8e75e9d7bfdb515d3ba0a1f64268f8a98509af6", func := "warp/warplaw05.PagesBursts", spec := "pagesBursts", unfollowed := true, recurses := true, apart := false, narrowed := true }
def PagesBurstsUptoSaid : Prop := pagesBurstsUptoRow.holds Try.pinned (OpenSpec.upto pagesBurstsSpec)

/-- 'warplaw05.PagesPlays', WHERE WHAT IT READS IS OF BULK AT MOST 1048576: true; the input reads as it did. -/
def pagesPlaysUptoRow : OpenClaim := { program := "ytnlaeiadakdbkaa", sum := "86a47c06e3aca7e0e0c1beefe8e75e9d7bfdb515d3ba0a1f64268f8a98509af6", func := "warp/warplaw05.PagesPlays", spec := "pagesPlays", unfollowed := true, recurses := true, apart := false, narrowed := true }
def PagesPlaysUptoSaid : Prop := pagesPlaysUptoRow.holds Try.pinned (OpenSpec.upto pagesPlaysSpec)

/-- 'warplaw05.PagesNil', WHERE WHAT IT READS IS OF BULK AT MOST 1048576: true; the input reads as it did. -/
def pagesNilUptoRow : OpenClaim := { program := "ytnlaeiadakdbkaa", sum := "86a47c06e3aca7e0e0c1beefe8e75e9d7bfdb515d3ba0a1f64268f8a98509af6", func := "warp/warplaw05.PagesNil", spec := "pagesNil", unfollowed := true, recurses := true, apart := false, narrowed := true }
def PagesNilUptoSaid : Prop := pagesNilUptoRow.holds Try.pinned (OpenSpec.upto pagesNilSpec)

end Rows
end Go.Proofs.Ytnlaeiadakdbkaa
