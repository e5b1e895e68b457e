/-
  No cell of these rows narrows 'for every input' (looked for: loops, veiled, ifaces, maps, wideKeys, modest, calm, conditions, laid).
  DERIVED. THE GIVEN ROWS OF THIS SEAT. 6 by the template 'for every input the law returns true; each argument reads behind the call as it read before'; 0 by the template 'total and deterministic' (their statements: YtphoccjeakdkeaaTotals.lean).
  GIVEN WITH THE SEED: the statements are not yours to turn. If you find one false, say at which input.
  Laid BY PROGRAM, IN A SANDBOX (cutbox-rows.mjs): the forced cells as the released guide's own fill.sh prints them over the translation 69ccfd7190be2dbc… (all of the seat's roots in one cut). By AI agents, Wed Nov 11 2026. No macro, syntax, notation, axiom, sorry.
-/
import Derived.Test.YtphoccjeakdkeaaChecked
import GoSem.Claim
import GoSem.ClaimJoined
import GoSem.ClaimMapViews
import Derived.JoinedTies
import Derived.KernelRfl
namespace Go.Proofs.Ytphoccjeakdkeaa
/- THE CELL 'sum', in the pinned program and in every row, IS THE sha256 OF THE DUMP (.gsa) THAT YtphoccjeakdkeaaProg.lean LOADS. Nothing in Lean hashes anything: it is a label: what it is worth is what the hold of that sum in a sandbox is worth. -/
noncomputable def Try.pinned : Pinned := { name := "ytphoccjeakdkeaa", sum := "69ccfd7190be2dbcae52f2c0fe8a9e576771b5eb213f775a870022e424ab0957", checked := Try.checked }
namespace Rows
def none {H : Type} : Left H := { results := [], args := [] }

/-- 'warplaw10.DictOf': WHATEVER THE INPUT: true; the input reads as it did. -/
def dictOfSpec : ChangeSpec := { name := "dictOf", fn := fun _ => fun
  | [d] => { results := [.lit (.bool true)], args := [d] }
  | _ => none }
def dictOfRow : OpenClaim := { program := "ytphoccjeakdkeaa", sum := "69ccfd7190be2dbcae52f2c0fe8a9e576771b5eb213f775a870022e424ab0957", func := "warp/warplaw10.DictOf", spec := "dictOf", unfollowed := true, recurses := true, apart := false }
def DictOfSaid : Prop := dictOfRow.holds Try.pinned (OpenSpec.ofChange dictOfSpec)

/-- ITS FALSE NEIGHBOUR: 'it returns false'. Refute it at one input. -/
def dictOfWrong : ChangeSpec := { name := "dictOf", fn := fun _ => fun
  | [d] => { results := [.lit (.bool false)], args := [d] }
  | _ => none }
def DictOfWrongFalsely : Prop := dictOfRow.holds Try.pinned (OpenSpec.ofChange dictOfWrong)

/-- 'warplaw10.DictFinds': WHATEVER THE INPUT: true; the input reads as it did. -/
def dictFindsSpec : ChangeSpec := { name := "dictFinds", fn := fun _ => fun
  | [d1, d2] => { results := [.lit (.bool true)], args := [d1, d2] }
  | _ => none }
def dictFindsRow : OpenClaim := { program := "ytphoccjeakdkeaa", sum := "69ccfd7190be2dbcae52f2c0fe8a9e576771b5eb213f775a870022e424ab0957", func := "warp/warplaw10.DictFinds", spec := "dictFinds", unfollowed := true, recurses := true, apart := false }
def DictFindsSaid : Prop := dictFindsRow.holds Try.pinned (OpenSpec.ofChange dictFindsSpec)

/-- ITS FALSE NEIGHBOUR: 'it returns false'. Refute it at one input. -/
def dictFindsWrong : ChangeSpec := { name := "dictFinds", fn := fun _ => fun
  | [d1, d2] => { results := [.lit (.bool false)], args := [d1, d2] }
  | _ => none }
def DictFindsWrongFalsely : Prop := dictFindsRow.holds Try.pinned (OpenSpec.ofChange dictFindsWrong)

/-- 'warplaw10.DictBack': WHATEVER THE INPUT: true; the input reads as it did. -/
def dictBackSpec : ChangeSpec := { name := "dictBack", fn := fun _ => fun
  | [d] => { results := [.lit (.bool true)], args := [d] }
  | _ => none }
def dictBackRow : OpenClaim := { program := "ytphoccjeakdkeaa", sum := "69ccfd7190be2dbcae52f2c0fe8a9e576771b5eb213f775a870022e424ab0957", func := "warp/warplaw10.DictBack", spec := "dictBack", unfollowed := true, recurses := true, apart := false }
def DictBackSaid : Prop := dictBackRow.holds Try.pinned (OpenSpec.ofChange dictBackSpec)

/-- ITS FALSE NEIGHBOUR: 'it returns false'. Refute it at one input. -/
def dictBackWrong : ChangeSpec := { name := "dictBack", fn := fun _ => fun
  | [d] => { results := [.lit (.bool false)], args := [d] }
  | _ => none }
def DictBackWrongFalsely : Prop := dictBackRow.holds Try.pinned (OpenSpec.ofChange dictBackWrong)

/-- 'warplaw10.DictTurns': WHATEVER THE INPUT: true; the input reads as it did. -/
def dictTurnsSpec : ChangeSpec := { name := "dictTurns", fn := fun _ => fun
  | [d1, d2, d3] => { results := [.lit (.bool true)], args := [d1, d2, d3] }
  | _ => none }
def dictTurnsRow : OpenClaim := { program := "ytphoccjeakdkeaa", sum := "69ccfd7190be2dbcae52f2c0fe8a9e576771b5eb213f775a870022e424ab0957", func := "warp/warplaw10.DictTurns", spec := "dictTurns", unfollowed := true, recurses := true, apart := false }
def DictTurnsSaid : Prop := dictTurnsRow.holds Try.pinned (OpenSpec.ofChange dictTurnsSpec)

/-- ITS FALSE NEIGHBOUR: 'it returns false'. Refute it at one input. -/
def dictTurnsWrong : ChangeSpec := { name := "dictTurns", fn := fun _ => fun
  | [d1, d2, d3] => { results := [.lit (.bool false)], args := [d1, d2, d3] }
  | _ => none }
def DictTurnsWrongFalsely : Prop := dictTurnsRow.holds Try.pinned (OpenSpec.ofChange dictTurnsWrong)

/-- 'warplaw10.DictRound': WHATEVER THE INPUT: true; the input reads as it did. -/
def dictRoundSpec : ChangeSpec := { name := "dictRound", fn := fun _ => fun
  | [d1, d2] => { results := [.lit (.bool true)], args := [d1, d2] }
  | _ => none }
def dictRoundRow : OpenClaim := { program := "ytphoccjeakdkeaa", sum := "69ccfd7190be2dbcae52f2c0fe8a9e576771b5eb213f775a870022e424ab0957", func := "warp/warplaw10.DictRound", spec := "dictRound", unfollowed := true, recurses := true, apart := false }
def DictRoundSaid : Prop := dictRoundRow.holds Try.pinned (OpenSpec.ofChange dictRoundSpec)

/-- ITS FALSE NEIGHBOUR: 'it returns false'. Refute it at one input. -/
def dictRoundWrong : ChangeSpec := { name := "dictRound", fn := fun _ => fun
  | [d1, d2] => { results := [.lit (.bool false)], args := [d1, d2] }
  | _ => none }
def DictRoundWrongFalsely : Prop := dictRoundRow.holds Try.pinned (OpenSpec.ofChange dictRoundWrong)

/-- 'warplaw10.DictPuts': WHATEVER THE INPUT: true; the input reads as it did. -/
def dictPutsSpec : ChangeSpec := { name := "dictPuts", fn := fun _ => fun
  | [d1, d2, d3] => { results := [.lit (.bool true)], args := [d1, d2, d3] }
  | _ => none }
def dictPutsRow : OpenClaim := { program := "ytphoccjeakdkeaa", sum := "69ccfd7190be2dbcae52f2c0fe8a9e576771b5eb213f775a870022e424ab0957", func := "warp/warplaw10.DictPuts", spec := "dictPuts", unfollowed := true, recurses := true, apart := false }
def DictPutsSaid : Prop := dictPutsRow.holds Try.pinned (OpenSpec.ofChange dictPutsSpec)

/-- ITS FALSE NEIGHBOUR: 'it returns false'. Refute it at one input. -/
def dictPutsWrong : ChangeSpec := { name := "dictPuts", fn := fun _ => fun
  | [d1, d2, d3] => { results := [.lit (.bool false)], args := [d1, d2, d3] }
  | _ => none }
def DictPutsWrongFalsely : Prop := dictPutsRow.holds Try.pinned (OpenSpec.ofChange dictPutsWrong)

/- THE SECOND FORM. 'bulk': how many values and letters a reading holds, each counted each time it is reached (what is shared counts as often as it is met; a slice's spare places count too). A statement '..UptoSaid' is the law's where the arguments, and the package variables that the reading takes, are together of bulk at most 1048576: NARROWER than '..Said'. Prove '..Said' where nothing that the law and all that it calls make is longer than what came in: it says more and counts as full. Else prove '..UptoSaid'. A law counts once. -/
mutual
def uptoBulk {H : Type} : DataW H → Nat
  | .lit (.string bytes) => bytes.length + 1
  | .lit _ => 1
  | .nil => 1
  | .ptr d => uptoBulk d + 1
  | .slice elems spare => uptoBulkAll elems + uptoBulkAll spare + 1
  | .agg parts => uptoBulkAll parts + 1
  | .iface _ d => uptoBulk d + 1
  | .map entries => uptoBulkEntries entries + 1
  | .held _ => 1
def uptoBulkAll {H : Type} : List (DataW H) → Nat
  | [] => 0
  | d :: r => uptoBulk d + uptoBulkAll r
def uptoBulkEntries {H : Type} : List (Lit × DataW H) → Nat
  | [] => 0
  | x :: r => uptoBulkEntry x + uptoBulkEntries r
def uptoBulkEntry {H : Type} : Lit × DataW H → Nat
  | (.string bytes, d) => bytes.length + uptoBulk d + 1
  | (_, d) => uptoBulk d + 1
 end
def uptoSmall : (H : Type) → List (DataW H) → Bool := fun _ ds => decide (uptoBulkAll ds ≤ 1048576)
def OpenSpec.upto (s : _root_.Go.ChangeSpec) : _root_.Go.OpenSpec := { _root_.Go.OpenSpec.ofChange s with cond := some uptoSmall }

/-- 'warplaw10.DictOf', WHERE WHAT IT READS IS OF BULK AT MOST 1048576: true; the input reads as it did. -/
def dictOfUptoRow : OpenClaim := { program := "ytphoccjeakdkeaa", sum := "69ccfd7190be2dbcae52f2c0fe8a9e576771b5eb213f775a870022e424ab0957", func := "warp/warplaw10.DictOf", spec := "dictOf", unfollowed := true, recurses := true, apart := false, narrowed := true }
def DictOfUptoSaid : Prop := dictOfUptoRow.holds Try.pinned (OpenSpec.upto dictOfSpec)

/-- 'warplaw10.DictFinds', WHERE WHAT IT READS IS OF BULK AT MOST 1048576: true; the input reads as it did. -/
def dictFindsUptoRow : OpenClaim := { program := "ytphoccjeakdkeaa", sum := "69ccfd7190be2dbcae52f2c0fe8a9e576771b5eb213f775a870022e424ab0957", func := "warp/warplaw10.DictFinds", spec := "dictFinds", unfollowed := true, recurses := true, apart := false, narrowed := true }
def DictFindsUptoSaid : Prop := dictFindsUptoRow.holds Try.pinned (OpenSpec.upto dictFindsSpec)

/-- 'warplaw10.DictBack', WHERE WHAT IT READS IS OF BULK AT MOST 1048576: true; the input reads as it did. -/
def dictBackUptoRow : OpenClaim := { program := "ytphoccjeakdkeaa", sum := "69ccfd7190be2dbcae52f2c0fe8a9e576771b5eb213f775a870022e424ab0957", func := "warp/warplaw10.DictBack", spec := "dictBack", unfollowed := true, recurses := true, apart := false, narrowed := true }
def DictBackUptoSaid : Prop := dictBackUptoRow.holds Try.pinned (OpenSpec.upto dictBackSpec)

/-- 'warplaw10.DictTurns', WHERE WHAT IT READS IS OF BULK AT MOST 1048576: true; the input reads as it did. -/
def dictTurnsUptoRow : OpenClaim := { program := "ytphoccjeakdkeaa", sum := "69ccfd7190be2dbcae52f2c0fe8a9e576771b5eb213f775a870022e424ab0957", func := "warp/warplaw10.DictTurns", spec := "dictTurns", unfollowed := true, recurses := true, apart := false, narrowed := true }
def DictTurnsUptoSaid : Prop := dictTurnsUptoRow.holds Try.pinned (OpenSpec.upto dictTurnsSpec)

/-- 'warplaw10.DictRound', WHERE WHAT IT READS IS OF BULK AT MOST 1048576: true; the input reads as it did. -/
def dictRoundUptoRow : OpenClaim := { program := "ytphoccjeakdkeaa", sum := "69ccfd7190be2dbcae52f2c0fe8a9e576771b5eb213f775a870022e424ab0957", func := "warp/warplaw10.DictRound", spec := "dictRound", unfollowed := true, recurses := true, apart := false, narrowed := true }
def DictRoundUptoSaid : Prop := dictRoundUptoRow.holds Try.pinned (OpenSpec.upto dictRoundSpec)

/-- 'warplaw10.DictPuts', WHERE WHAT IT READS IS OF BULK AT MOST 1048576: true; the input reads as it did. -/
def dictPutsUptoRow : OpenClaim := { program := "ytphoccjeakdkeaa", sum := "69ccfd7190be2dbcae52f2c0fe8a9e576771b5eb213f775a870022e424ab0957", func := "warp/warplaw10.DictPuts", spec := "dictPuts", unfollowed := true, recurses := true, apart := false, narrowed := true }
def DictPutsUptoSaid : Prop := dictPutsUptoRow.holds Try.pinned (OpenSpec.upto dictPutsSpec)

end Rows
end Go.Proofs.Ytphoccjeakdkeaa
