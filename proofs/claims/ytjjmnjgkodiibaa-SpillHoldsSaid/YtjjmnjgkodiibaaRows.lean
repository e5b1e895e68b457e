/-
  No cell of these rows narrows 'for every input' (looked for: loops, veiled, ifaces, maps, wideKeys, modest, calm, conditions, laid).
  DERIVED. THE GIVEN ROWS OF THIS SEAT. 6 by the template 'for every input the law returns true; each argument reads behind the call as it read before'; 0 by the template 'total and deterministic' (their statements: YtjjmnjgkodiibaaTotals.lean).
  GIVEN WITH THE SEED: the statements are not yours to turn. If you find one false, say at which input.
  Laid BY PROGRAM, IN A SANDBOX (cutbox-rows.mjs): the forced cells as the released guide's own fill.sh prints them over the translation c2d0c41e08b65f92… (all of the seat's roots in one cut). By AI agents, Wed Nov 11 2026. No macro, syntax, notation, axiom, sorry.
-/
import Derived.Test.YtjjmnjgkodiibaaChecked
import GoSem.Claim
import GoSem.ClaimJoined
import GoSem.ClaimMapViews
import Derived.JoinedTies
import Derived.KernelRfl
namespace Go.Proofs.Ytjjmnjgkodiibaa
/- THE CELL 'sum', in the pinned program and in every row, IS THE sha256 OF THE DUMP (.gsa) THAT YtjjmnjgkodiibaaProg.lean LOADS. Nothing in Lean hashes anything: it is a label: what it is worth is what the hold of that sum in a sandbox is worth. -/
noncomputable def Try.pinned : Pinned := { name := "ytjjmnjgkodiibaa", sum := "c2d0c41e08b65f92f57459b5be63c887264bdeacd382ce2ef8b2bb5b6920be7b", checked := Try.checked }
namespace Rows
def none {H : Type} : Left H := { results := [], args := [] }

/-- 'warplaw17.SpillHolds': WHATEVER THE INPUT: true; the input reads as it did. -/
def spillHoldsSpec : ChangeSpec := { name := "spillHolds", fn := fun _ => fun
  | [d] => { results := [.lit (.bool true)], args := [d] }
  | _ => none }
def spillHoldsRow : OpenClaim := { program := "ytjjmnjgkodiibaa", sum := "c2d0c41e08b65f92f57459b5be63c887264bdeacd382ce2ef8b2bb5b6920be7b", func := "warp/warplaw17.SpillHolds", spec := "spillHolds", unfollowed := true, recurses := true, apart := false }
def SpillHoldsSaid : Prop := spillHoldsRow.holds Try.pinned (OpenSpec.ofChange spillHoldsSpec)

/-- ITS FALSE NEIGHBOUR: 'it returns false'. Refute it at one input. -/
def spillHoldsWrong : ChangeSpec := { name := "spillHolds", fn := fun _ => fun
  | [d] => { results := [.lit (.bool false)], args := [d] }
  | _ => none }
def SpillHoldsWrongFalsely : Prop := spillHoldsRow.holds Try.pinned (OpenSpec.ofChange spillHoldsWrong)

/-- 'warplaw17.SpillLays': WHATEVER THE INPUT: true; the input reads as it did. -/
def spillLaysSpec : ChangeSpec := { name := "spillLays", fn := fun _ => fun
  | [d1, d2, d3] => { results := [.lit (.bool true)], args := [d1, d2, d3] }
  | _ => none }
def spillLaysRow : OpenClaim := { program := "ytjjmnjgkodiibaa", sum := "c2d0c41e08b65f92f57459b5be63c887264bdeacd382ce2ef8b2bb5b6920be7b", func := "warp/warplaw17.SpillLays", spec := "spillLays", unfollowed := true, recurses := true, apart := false }
def SpillLaysSaid : Prop := spillLaysRow.holds Try.pinned (OpenSpec.ofChange spillLaysSpec)

/-- ITS FALSE NEIGHBOUR: 'it returns false'. Refute it at one input. -/
def spillLaysWrong : ChangeSpec := { name := "spillLays", fn := fun _ => fun
  | [d1, d2, d3] => { results := [.lit (.bool false)], args := [d1, d2, d3] }
  | _ => none }
def SpillLaysWrongFalsely : Prop := spillLaysRow.holds Try.pinned (OpenSpec.ofChange spillLaysWrong)

/-- 'warplaw17.SpillPages': WHATEVER THE INPUT: true; the input reads as it did. -/
def spillPagesSpec : ChangeSpec := { name := "spillPages", fn := fun _ => fun
  | [d] => { results := [.lit (.bool true)], args := [d] }
  | _ => none }
def spillPagesRow : OpenClaim := { program := "ytjjmnjgkodiibaa", sum := "c2d0c41e08b65f92f57459b5be63c887264bdeacd382ce2ef8b2bb5b6920be7b", func := "warp/warplaw17.SpillPages", spec := "spillPages", unfollowed := true, recurses := true, apart := false }
def SpillPagesSaid : Prop := spillPagesRow.holds Try.pinned (OpenSpec.ofChange spillPagesSpec)

/-- ITS FALSE NEIGHBOUR: 'it returns false'. Refute it at one input. -/
def spillPagesWrong : ChangeSpec := { name := "spillPages", fn := fun _ => fun
  | [d] => { results := [.lit (.bool false)], args := [d] }
  | _ => none }
def SpillPagesWrongFalsely : Prop := spillPagesRow.holds Try.pinned (OpenSpec.ofChange spillPagesWrong)

/-- 'warplaw17.SpillSpoilt': WHATEVER THE INPUT: true; the input reads as it did. -/
def spillSpoiltSpec : ChangeSpec := { name := "spillSpoilt", fn := fun _ => fun
  | [d1, d2, d3, d4] => { results := [.lit (.bool true)], args := [d1, d2, d3, d4] }
  | _ => none }
def spillSpoiltRow : OpenClaim := { program := "ytjjmnjgkodiibaa", sum := "c2d0c41e08b65f92f57459b5be63c887264bdeacd382ce2ef8b2bb5b6920be7b", func := "warp/warplaw17.SpillSpoilt", spec := "spillSpoilt", unfollowed := true, recurses := true, apart := false }
def SpillSpoiltSaid : Prop := spillSpoiltRow.holds Try.pinned (OpenSpec.ofChange spillSpoiltSpec)

/-- ITS FALSE NEIGHBOUR: 'it returns false'. Refute it at one input. -/
def spillSpoiltWrong : ChangeSpec := { name := "spillSpoilt", fn := fun _ => fun
  | [d1, d2, d3, d4] => { results := [.lit (.bool false)], args := [d1, d2, d3, d4] }
  | _ => none }
def SpillSpoiltWrongFalsely : Prop := spillSpoiltRow.holds Try.pinned (OpenSpec.ofChange spillSpoiltWrong)

/-- 'warplaw17.SpillBack': WHATEVER THE INPUT: true; the input reads as it did. -/
def spillBackSpec : ChangeSpec := { name := "spillBack", fn := fun _ => fun
  | [d] => { results := [.lit (.bool true)], args := [d] }
  | _ => none }
def spillBackRow : OpenClaim := { program := "ytjjmnjgkodiibaa", sum := "c2d0c41e08b65f92f57459b5be63c887264bdeacd382ce2ef8b2bb5b6920be7b", func := "warp/warplaw17.SpillBack", spec := "spillBack", unfollowed := true, recurses := true, apart := false }
def SpillBackSaid : Prop := spillBackRow.holds Try.pinned (OpenSpec.ofChange spillBackSpec)

/-- ITS FALSE NEIGHBOUR: 'it returns false'. Refute it at one input. -/
def spillBackWrong : ChangeSpec := { name := "spillBack", fn := fun _ => fun
  | [d] => { results := [.lit (.bool false)], args := [d] }
  | _ => none }
def SpillBackWrongFalsely : Prop := spillBackRow.holds Try.pinned (OpenSpec.ofChange spillBackWrong)

/-- 'warplaw17.SpillNil': WHATEVER THE INPUT: true; the input reads as it did. -/
def spillNilSpec : ChangeSpec := { name := "spillNil", fn := fun _ => fun
  | [d] => { results := [.lit (.bool true)], args := [d] }
  | _ => none }
def spillNilRow : OpenClaim := { program := "ytjjmnjgkodiibaa", sum := "c2d0c41e08b65f92f57459b5be63c887264bdeacd382ce2ef8b2bb5b6920be7b", func := "warp/warplaw17.SpillNil", spec := "spillNil", unfollowed := true, recurses := true, apart := false }
def SpillNilSaid : Prop := spillNilRow.holds Try.pinned (OpenSpec.ofChange spillNilSpec)

/-- ITS FALSE NEIGHBOUR: 'it returns false'. Refute it at one input. -/
def spillNilWrong : ChangeSpec := { name := "spillNil", fn := fun _ => fun
  | [d] => { results := [.lit (.bool false)], args := [d] }
  | _ => none }
def SpillNilWrongFalsely : Prop := spillNilRow.holds Try.pinned (OpenSpec.ofChange spillNilWrong)

/- THE SECOND FORM. 'bulk': how many values and letters a reading holds, each counted each time it is reached (what is shared counts as often as it is met; a slice's spare places count too). A statement '..UptoSaid' is the law's where the arguments, and the package variables that the reading takes, are together of bulk at most 1048576: NARROWER than '..Said'. Prove '..Said' where nothing that the law and all that it calls make is longer than what came in: it says more and counts as full. Else prove '..UptoSaid'. A law counts once. -/
mutual
def uptoBulk {H : Type} : DataW H → Nat
  | .lit (.string bytes) => bytes.length + 1
  | .lit _ => 1
  | .nil => 1
  | .ptr d => uptoBulk d + 1
  | .slice elems spare => uptoBulkAll elems + uptoBulkAll spare + 1
  | .agg parts => uptoBulkAll parts + 1
  | .iface _ d => uptoBulk d + 1
  | .map entries => uptoBulkEntries entries + 1
  | .held _ => 1
def uptoBulkAll {H : Type} : List (DataW H) → Nat
  | [] => 0
  | d :: r => uptoBulk d + uptoBulkAll r
def uptoBulkEntries {H : Type} : List (Lit × DataW H) → Nat
  | [] => 0
  | x :: r => uptoBulkEntry x + uptoBulkEntries r
def uptoBulkEntry {H : Type} : Lit × DataW H → Nat
  | (.string bytes, d) => bytes.length + uptoBulk d + 1
  | (_, d) => uptoBulk d + 1
 end
def uptoSmall : (H : Type) → List (DataW H) → Bool := fun _ ds => decide (uptoBulkAll ds ≤ 1048576)
def OpenSpec.upto (s : _root_.Go.ChangeSpec) : _root_.Go.OpenSpec := { _root_.Go.OpenSpec.ofChange s with cond := some uptoSmall }

/-- 'warplaw17.SpillHolds', WHERE WHAT IT READS IS OF BULK AT MOST 1048576: true; the input reads as it did. -/
def spillHoldsUptoRow : OpenClaim := { program := "ytjjmnjgkodiibaa", sum := "c2d0c41e08b65f92f57459b5be63c887264bdeacd382ce2ef8b2bb5b6920be7b", func := "warp/warplaw17.SpillHolds", spec := "spillHolds", unfollowed := true, recurses := true, apart := false, narrowed := true }
def SpillHoldsUptoSaid : Prop := spillHoldsUptoRow.holds Try.pinned (OpenSpec.upto spillHoldsSpec)

/-- 'warplaw17.SpillLays', WHERE WHAT IT READS IS OF BULK AT MOST 1048576: true; the input reads as it did. -/
def spillLaysUptoRow : OpenClaim := { program := "ytjjmnjgkodiibaa", sum := "c2d0c41e08b65f92f57459b5be63c887264bdeacd382ce2ef8b2bb5b6920be7b", func := "warp/warplaw17.SpillLays", spec := "spillLays", unfollowed := true, recurses := true, apart := false, narrowed := true }
def SpillLaysUptoSaid : Prop := spillLaysUptoRow.holds Try.pinned (OpenSpec.upto spillLaysSpec)

/-- 'warplaw17.SpillPages', WHERE WHAT IT READS IS OF BULK AT MOST 1048576: true; the input reads as it did. -/
def spillPagesUptoRow : OpenClaim := { program := "ytjjmnjgkodiibaa", sum := "c2d0c41e08b65f92f57459b5be63c887264bdeacd382ce2ef8b2bb5b6920be7b", func := "warp/warplaw17.SpillPages", spec := "spillPages", unfollowed := true, recurses := true, apart := false, narrowed := true }
def SpillPagesUptoSaid : Prop := spillPagesUptoRow.holds Try.pinned (OpenSpec.upto spillPagesSpec)

/-- 'warplaw17.SpillSpoilt', WHERE WHAT IT READS IS OF BULK AT MOST 1048576: true; the input reads as it did. -/
def spillSpoiltUptoRow : OpenClaim := { program := "ytjjmnjgkodiibaa", sum := "c2d0c41e08b65f92f57459b5be63c887264bdeacd382ce2ef8b2bb5b6920be7b", func := "warp/warplaw17.SpillSpoilt", spec := "spillSpoilt", unfollowed := true, recurses := true, apart := false, narrowed := true }
def SpillSpoiltUptoSaid : Prop := spillSpoiltUptoRow.holds Try.pinned (OpenSpec.upto spillSpoiltSpec)

/-- 'warplaw17.SpillBack', WHERE WHAT IT READS IS OF BULK AT MOST 1048576: true; the input reads as it did. -/
def spillBackUptoRow : OpenClaim := { program := "ytjjmnjgkodiibaa", sum := "c2d0c41e08b65f92f57459b5be63c887264bdeacd382ce2ef8b2bb5b6920be7b", func := "warp/warplaw17.SpillBack", spec := "spillBack", unfollowed := true, recurses := true, apart := false, narrowed := true }
def SpillBackUptoSaid : Prop := spillBackUptoRow.holds Try.pinned (OpenSpec.upto spillBackSpec)

/-- 'warplaw17.SpillNil', WHERE WHAT IT READS IS OF BULK AT MOST 1048576: true; the input reads as it did. -/
def spillNilUptoRow : OpenClaim := { program := "ytjjmnjgkodiibaa", sum := "c2d0c41e08b65f92f57459b5be63c887264bdeacd382ce2ef8b2bb5b6920be7b", func := "warp/warplaw17.SpillNil", spec := "spillNil", unfollowed := true, recurses := true, apart := false, narrowed := true }
def SpillNilUptoSaid : Prop := spillNilUptoRow.holds Try.pinned (OpenSpec.upto spillNilSpec)

end Rows
end Go.Proofs.Ytjjmnjgkodiibaa
