/-
  No cell of these rows narrows 'for every input' (looked for: loops, veiled, ifaces, maps, wideKeys, modest, calm, conditions, laid).
  DERIVED. THE GIVEN ROWS OF THIS SEAT. 6 by the template 'for every input the law returns true; each argument reads behind the call as it read before'; 0 by the template 'total and deterministic' (their statements: YtojppmnmhdgnnaaTotals.lean).
  GIVEN WITH THE SEED: the statements are not yours to turn. If you find one false, say at which input.
  Laid BY PROGRAM, IN A SANDBOX (cutbox-rows.mjs): the forced cells as the released guide's own fill.sh prints them over the translation b0b0092f9121ebe1… (all of the seat's roots in one cut). By AI agents, Wed Nov 11 2026. No macro, syntax, notation, axiom, sorry.
-/
import Derived.Test.YtojppmnmhdgnnaaChecked
import GoSem.Claim
import GoSem.ClaimJoined
import GoSem.ClaimMapViews
import Derived.JoinedTies
import Derived.KernelRfl
namespace Go.Proofs.Ytojppmnmhdgnnaa
/- THE CELL 'sum', in the pinned program and in every row, IS THE sha256 OF THE DUMP (.gsa) THAT YtojppmnmhdgnnaaProg.lean LOADS. Nothing in Lean hashes anything: it is a label: what it is worth is what the hold of that sum in a sandbox is worth. -/
noncomputable def Try.pinned : Pinned := { name := "ytojppmnmhdgnnaa", sum := "b0b0092f9121ebe1b692837932328a18347b661334ac9d2573eb7adb9a3133d7", checked := Try.checked }
namespace Rows
def none {H : Type} : Left H := { results := [], args := [] }

/-- 'warptop.TopColumn': WHATEVER THE INPUT: true; the input reads as it did. -/
def topColumnSpec : ChangeSpec := { name := "topColumn", fn := fun _ => fun
  | [d1, d2, d3, d4, d5] => { results := [.lit (.bool true)], args := [d1, d2, d3, d4, d5] }
  | _ => none }
def topColumnRow : OpenClaim := { program := "ytojppmnmhdgnnaa", sum := "b0b0092f9121ebe1b692837932328a18347b661334ac9d2573eb7adb9a3133d7", func := "warp/warptop.TopColumn", spec := "topColumn", unfollowed := true, recurses := true, apart := false }
def TopColumnSaid : Prop := topColumnRow.holds Try.pinned (OpenSpec.ofChange topColumnSpec)

/-- ITS FALSE NEIGHBOUR: 'it returns false'. Refute it at one input. -/
def topColumnWrong : ChangeSpec := { name := "topColumn", fn := fun _ => fun
  | [d1, d2, d3, d4, d5] => { results := [.lit (.bool false)], args := [d1, d2, d3, d4, d5] }
  | _ => none }
def TopColumnWrongFalsely : Prop := topColumnRow.holds Try.pinned (OpenSpec.ofChange topColumnWrong)

/-- 'warplaw12.ColumnKinds': WHATEVER THE INPUT: true; the input reads as it did. -/
def columnKindsSpec : ChangeSpec := { name := "columnKinds", fn := fun _ => fun
  | [d1, d2, d3] => { results := [.lit (.bool true)], args := [d1, d2, d3] }
  | _ => none }
def columnKindsRow : OpenClaim := { program := "ytojppmnmhdgnnaa", sum := "b0b0092f9121ebe1b692837932328a18347b661334ac9d2573eb7adb9a3133d7", func := "warp/warplaw12.ColumnKinds", spec := "columnKinds", unfollowed := true, recurses := true, apart := false }
def ColumnKindsSaid : Prop := columnKindsRow.holds Try.pinned (OpenSpec.ofChange columnKindsSpec)

/-- ITS FALSE NEIGHBOUR: 'it returns false'. Refute it at one input. -/
def columnKindsWrong : ChangeSpec := { name := "columnKinds", fn := fun _ => fun
  | [d1, d2, d3] => { results := [.lit (.bool false)], args := [d1, d2, d3] }
  | _ => none }
def ColumnKindsWrongFalsely : Prop := columnKindsRow.holds Try.pinned (OpenSpec.ofChange columnKindsWrong)

/-- 'warplaw12.ColumnPuts': WHATEVER THE INPUT: true; the input reads as it did. -/
def columnPutsSpec : ChangeSpec := { name := "columnPuts", fn := fun _ => fun
  | [d1, d2, d3] => { results := [.lit (.bool true)], args := [d1, d2, d3] }
  | _ => none }
def columnPutsRow : OpenClaim := { program := "ytojppmnmhdgnnaa", sum := "b0b0092f9121ebe1b692837932328a18347b661334ac9d2573eb7adb9a3133d7", func := "warp/warplaw12.ColumnPuts", spec := "columnPuts", unfollowed := true, recurses := true, apart := false }
def ColumnPutsSaid : Prop := columnPutsRow.holds Try.pinned (OpenSpec.ofChange columnPutsSpec)

/-- ITS FALSE NEIGHBOUR: 'it returns false'. Refute it at one input. -/
def columnPutsWrong : ChangeSpec := { name := "columnPuts", fn := fun _ => fun
  | [d1, d2, d3] => { results := [.lit (.bool false)], args := [d1, d2, d3] }
  | _ => none }
def ColumnPutsWrongFalsely : Prop := columnPutsRow.holds Try.pinned (OpenSpec.ofChange columnPutsWrong)

/-- 'warplaw12.ColumnBest': WHATEVER THE INPUT: true; the input reads as it did. -/
def columnBestSpec : ChangeSpec := { name := "columnBest", fn := fun _ => fun
  | [d1, d2] => { results := [.lit (.bool true)], args := [d1, d2] }
  | _ => none }
def columnBestRow : OpenClaim := { program := "ytojppmnmhdgnnaa", sum := "b0b0092f9121ebe1b692837932328a18347b661334ac9d2573eb7adb9a3133d7", func := "warp/warplaw12.ColumnBest", spec := "columnBest", unfollowed := true, recurses := true, apart := false }
def ColumnBestSaid : Prop := columnBestRow.holds Try.pinned (OpenSpec.ofChange columnBestSpec)

/-- ITS FALSE NEIGHBOUR: 'it returns false'. Refute it at one input. -/
def columnBestWrong : ChangeSpec := { name := "columnBest", fn := fun _ => fun
  | [d1, d2] => { results := [.lit (.bool false)], args := [d1, d2] }
  | _ => none }
def ColumnBestWrongFalsely : Prop := columnBestRow.holds Try.pinned (OpenSpec.ofChange columnBestWrong)

/-- 'warplaw12.ColumnBack': WHATEVER THE INPUT: true; the input reads as it did. -/
def columnBackSpec : ChangeSpec := { name := "columnBack", fn := fun _ => fun
  | [d1, d2, d3] => { results := [.lit (.bool true)], args := [d1, d2, d3] }
  | _ => none }
def columnBackRow : OpenClaim := { program := "ytojppmnmhdgnnaa", sum := "b0b0092f9121ebe1b692837932328a18347b661334ac9d2573eb7adb9a3133d7", func := "warp/warplaw12.ColumnBack", spec := "columnBack", unfollowed := true, recurses := true, apart := false }
def ColumnBackSaid : Prop := columnBackRow.holds Try.pinned (OpenSpec.ofChange columnBackSpec)

/-- ITS FALSE NEIGHBOUR: 'it returns false'. Refute it at one input. -/
def columnBackWrong : ChangeSpec := { name := "columnBack", fn := fun _ => fun
  | [d1, d2, d3] => { results := [.lit (.bool false)], args := [d1, d2, d3] }
  | _ => none }
def ColumnBackWrongFalsely : Prop := columnBackRow.holds Try.pinned (OpenSpec.ofChange columnBackWrong)

/-- 'warplaw12.ColumnWords': WHATEVER THE INPUT: true; the input reads as it did. -/
def columnWordsSpec : ChangeSpec := { name := "columnWords", fn := fun _ => fun
  | [d1, d2, d3] => { results := [.lit (.bool true)], args := [d1, d2, d3] }
  | _ => none }
def columnWordsRow : OpenClaim := { program := "ytojppmnmhdgnnaa", sum := "b0b0092f9121ebe1b692837932328a18347b661334ac9d2573eb7adb9a3133d7", func := "warp/warplaw12.ColumnWords", spec := "columnWords", unfollowed := true, recurses := true, apart := false }
def ColumnWordsSaid : Prop := columnWordsRow.holds Try.pinned (OpenSpec.ofChange columnWordsSpec)

/-- ITS FALSE NEIGHBOUR: 'it returns false'. Refute it at one input. -/
def columnWordsWrong : ChangeSpec := { name := "columnWords", fn := fun _ => fun
  | [d1, d2, d3] => { results := [.lit (.bool false)], args := [d1, d2, d3] }
  | _ => none }
def ColumnWordsWrongFalsely : Prop := columnWordsRow.holds Try.pinned (OpenSpec.ofChange columnWordsWrong)

/- THE SECOND FORM. 'bulk': how many values and letters a reading holds, each counted each time it is reached (what is shared counts as often as it is met; a slice's spare places count too). A statement '..UptoSaid' is the law's where the arguments, and the package variables that the reading takes, are together of bulk at most 1048576: NARROWER than '..Said'. Prove '..Said' where nothing that the law and all that it calls make is longer than what came in: it says more and counts as full. Else prove '..UptoSaid'. A law counts once. -/
mutual
def uptoBulk {H : Type} : DataW H → Nat
  | .lit (.string bytes) => bytes.length + 1
  | .lit _ => 1
  | .nil => 1
  | .ptr d => uptoBulk d + 1
  | .slice elems spare => uptoBulkAll elems + uptoBulkAll spare + 1
  | .agg parts => uptoBulkAll parts + 1
  | .iface _ d => uptoBulk d + 1
  | .map entries => uptoBulkEntries entries + 1
  | .held _ => 1
def uptoBulkAll {H : Type} : List (DataW H) → Nat
  | [] => 0
  | d :: r => uptoBulk d + uptoBulkAll r
def uptoBulkEntries {H : Type} : List (Lit × DataW H) → Nat
  | [] => 0
  | x :: r => uptoBulkEntry x + uptoBulkEntries r
def uptoBulkEntry {H : Type} : Lit × DataW H → Nat
  | (.string bytes, d) => bytes.length + uptoBulk d + 1
  | (_, d) => uptoBulk d + 1
 end
def uptoSmall : (H : Type) → List (DataW H) → Bool := fun _ ds => decide (uptoBulkAll ds ≤ 1048576)
def OpenSpec.upto (s : _root_.Go.ChangeSpec) : _root_.Go.OpenSpec := { _root_.Go.OpenSpec.ofChange s with cond := some uptoSmall }

/-- 'warptop.TopColumn', WHERE WHAT IT READS IS OF BULK AT MOST 1048576: true; the input reads as it did. -/
def topColumnUptoRow : OpenClaim := { program := "ytojppmnmhdgnnaa", sum := "b0b0092f9121ebe1b692837932328a18347b661334ac9d2573eb7adb9a3133d7", func := "warp/warptop.TopColumn", spec := "topColumn", unfollowed := true, recurses := true, apart := false, narrowed := true }
def TopColumnUptoSaid : Prop := topColumnUptoRow.holds Try.pinned (OpenSpec.upto topColumnSpec)

/-- 'warplaw12.ColumnKinds', WHERE WHAT IT READS IS OF BULK AT MOST 1048576: true; the input reads as it did. -/
def columnKindsUptoRow : OpenClaim := { program := "ytojppmnmhdgnnaa", sum := "b0b0092f9121ebe1b692837932328a18347b661334ac9d2573eb7adb9a3133d7", func := "warp/warplaw12.ColumnKinds", spec := "columnKinds", unfollowed := true, recurses := true, apart := false, narrowed := true }
def ColumnKindsUptoSaid : Prop := columnKindsUptoRow.holds Try.pinned (OpenSpec.upto columnKindsSpec)

/-- 'warplaw12.ColumnPuts', WHERE WHAT IT READS IS OF BULK AT MOST 1048576: true; the input reads as it did. -/
def columnPutsUptoRow : OpenClaim := { program := "ytojppmnmhdgnnaa", sum := "b0b0092f9121ebe1b692837932328a18347b661334ac9d2573eb7adb9a3133d7", func := "warp/warplaw12.ColumnPuts", spec := "columnPuts", unfollowed := true, recurses := true, apart := false, narrowed := true }
def ColumnPutsUptoSaid : Prop := columnPutsUptoRow.holds Try.pinned (OpenSpec.upto columnPutsSpec)

/-- 'warplaw12.ColumnBest', WHERE WHAT IT READS IS OF BULK AT MOST 1048576: true; the input reads as it did. -/
def columnBestUptoRow : OpenClaim := { program := "ytojppmnmhdgnnaa", sum := "b0b0092f9121ebe1b692837932328a18347b661334ac9d2573eb7adb9a3133d7", func := "warp/warplaw12.ColumnBest", spec := "columnBest", unfollowed := true, recurses := true, apart := false, narrowed := true }
def ColumnBestUptoSaid : Prop := columnBestUptoRow.holds Try.pinned (OpenSpec.upto columnBestSpec)

/-- 'warplaw12.ColumnBack', WHERE WHAT IT READS IS OF BULK AT MOST 1048576: true; the input reads as it did. -/
def columnBackUptoRow : OpenClaim := { program := "ytojppmnmhdgnnaa", sum := "b0b0092f9121ebe1b692837932328a18347b661334ac9d2573eb7adb9a3133d7", func := "warp/warplaw12.ColumnBack", spec := "columnBack", unfollowed := true, recurses := true, apart := false, narrowed := true }
def ColumnBackUptoSaid : Prop := columnBackUptoRow.holds Try.pinned (OpenSpec.upto columnBackSpec)

/-- 'warplaw12.ColumnWords', WHERE WHAT IT READS IS OF BULK AT MOST 1048576: true; the input reads as it did. -/
def columnWordsUptoRow : OpenClaim := { program := "ytojppmnmhdgnnaa", sum := "b0b0092f9121ebe1b692837932328a18347b661334ac9d2573eb7adb9a3133d7", func := "warp/warplaw12.ColumnWords", spec := "columnWords", unfollowed := true, recurses := true, apart := false, narrowed := true }
def ColumnWordsUptoSaid : Prop := columnWordsUptoRow.holds Try.pinned (OpenSpec.upto columnWordsSpec)

end Rows
end Go.Proofs.Ytojppmnmhdgnnaa
