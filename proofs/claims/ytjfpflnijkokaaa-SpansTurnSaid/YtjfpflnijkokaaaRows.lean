/-
  No cell of these rows narrows 'for every input' (looked for: loops, veiled, ifaces, maps, wideKeys, modest, calm, conditions, laid).
  DERIVED. THE GIVEN ROWS OF THIS SEAT. 6 by the template 'for every input the law returns true; each argument reads behind the call as it read before'; 0 by the template 'total and deterministic' (their statements: YtjfpflnijkokaaaTotals.lean).
  GIVEN WITH THE SEED: the statements are not yours to turn. If you find one false, say at which input.
  Laid BY PROGRAM, IN A SANDBOX (cutbox-rows.mjs): the forced cells as the released guide's own fill.sh prints them over the translation 3d1f08e3541f7a87… (all of the seat's roots in one cut). By AI agents, Wed Nov 11 2026. No macro, syntax, notation, axiom, sorry.
-/
import Derived.Test.YtjfpflnijkokaaaChecked
import GoSem.Claim
import GoSem.ClaimJoined
import GoSem.ClaimMapViews
import Derived.JoinedTies
import Derived.KernelRfl
namespace Go.Proofs.Ytjfpflnijkokaaa
/- THE CELL 'sum', in the pinned program and in every row, IS THE sha256 OF THE DUMP (.gsa) THAT YtjfpflnijkokaaaProg.lean LOADS. Nothing in Lean hashes anything: it is a label: what it is worth is what the hold of that sum in a sandbox is worth. -/
noncomputable def Try.pinned : Pinned := { name := "ytjfpflnijkokaaa", sum := "3d1f08e3541f7a87a4835b82364b8d9db3f974a8e1e71e06c81ca6ef5f0d6e78", checked := Try.checked }
namespace Rows
def none {H : Type} : Left H := { results := [], args := [] }

/-- 'warplaw07.SpansOf': WHATEVER THE INPUT: true; the input reads as it did. -/
def spansOfSpec : ChangeSpec := { name := "spansOf", fn := fun _ => fun
  | [d] => { results := [.lit (.bool true)], args := [d] }
  | _ => none }
def spansOfRow : OpenClaim := { program := "ytjfpflnijkokaaa", sum := "3d1f08e3541f7a87a4835b82364b8d9db3f974a8e1e71e06c81ca6ef5f0d6e78", func := "warp/warplaw07.SpansOf", spec := "spansOf", unfollowed := true, recurses := true, apart := false }
def SpansOfSaid : Prop := spansOfRow.holds Try.pinned (OpenSpec.ofChange spansOfSpec)

/-- ITS FALSE NEIGHBOUR: 'it returns false'. Refute it at one input. -/
def spansOfWrong : ChangeSpec := { name := "spansOf", fn := fun _ => fun
  | [d] => { results := [.lit (.bool false)], args := [d] }
  | _ => none }
def SpansOfWrongFalsely : Prop := spansOfRow.holds Try.pinned (OpenSpec.ofChange spansOfWrong)

/-- 'warplaw07.SpansTell': WHATEVER THE INPUT: true; the input reads as it did. -/
def spansTellSpec : ChangeSpec := { name := "spansTell", fn := fun _ => fun
  | [d1, d2] => { results := [.lit (.bool true)], args := [d1, d2] }
  | _ => none }
def spansTellRow : OpenClaim := { program := "ytjfpflnijkokaaa", sum := "3d1f08e3541f7a87a4835b82364b8d9db3f974a8e1e71e06c81ca6ef5f0d6e78", func := "warp/warplaw07.SpansTell", spec := "spansTell", unfollowed := true, recurses := true, apart := false }
def SpansTellSaid : Prop := spansTellRow.holds Try.pinned (OpenSpec.ofChange spansTellSpec)

/-- ITS FALSE NEIGHBOUR: 'it returns false'. Refute it at one input. -/
def spansTellWrong : ChangeSpec := { name := "spansTell", fn := fun _ => fun
  | [d1, d2] => { results := [.lit (.bool false)], args := [d1, d2] }
  | _ => none }
def SpansTellWrongFalsely : Prop := spansTellRow.holds Try.pinned (OpenSpec.ofChange spansTellWrong)

/-- 'warplaw07.SpansBack': WHATEVER THE INPUT: true; the input reads as it did. -/
def spansBackSpec : ChangeSpec := { name := "spansBack", fn := fun _ => fun
  | [d1, d2] => { results := [.lit (.bool true)], args := [d1, d2] }
  | _ => none }
def spansBackRow : OpenClaim := { program := "ytjfpflnijkokaaa", sum := "3d1f08e3541f7a87a4835b82364b8d9db3f974a8e1e71e06c81ca6ef5f0d6e78", func := "warp/warplaw07.SpansBack", spec := "spansBack", unfollowed := true, recurses := true, apart := false }
def SpansBackSaid : Prop := spansBackRow.holds Try.pinned (OpenSpec.ofChange spansBackSpec)

/-- ITS FALSE NEIGHBOUR: 'it returns false'. Refute it at one input. -/
def spansBackWrong : ChangeSpec := { name := "spansBack", fn := fun _ => fun
  | [d1, d2] => { results := [.lit (.bool false)], args := [d1, d2] }
  | _ => none }
def SpansBackWrongFalsely : Prop := spansBackRow.holds Try.pinned (OpenSpec.ofChange spansBackWrong)

/-- 'warplaw07.SpansBoth': WHATEVER THE INPUT: true; the input reads as it did. -/
def spansBothSpec : ChangeSpec := { name := "spansBoth", fn := fun _ => fun
  | [d1, d2] => { results := [.lit (.bool true)], args := [d1, d2] }
  | _ => none }
def spansBothRow : OpenClaim := { program := "ytjfpflnijkokaaa", sum := "3d1f08e3541f7a87a4835b82364b8d9db3f974a8e1e71e06c81ca6ef5f0d6e78", func := "warp/warplaw07.SpansBoth", spec := "spansBoth", unfollowed := true, recurses := true, apart := false }
def SpansBothSaid : Prop := spansBothRow.holds Try.pinned (OpenSpec.ofChange spansBothSpec)

/-- ITS FALSE NEIGHBOUR: 'it returns false'. Refute it at one input. -/
def spansBothWrong : ChangeSpec := { name := "spansBoth", fn := fun _ => fun
  | [d1, d2] => { results := [.lit (.bool false)], args := [d1, d2] }
  | _ => none }
def SpansBothWrongFalsely : Prop := spansBothRow.holds Try.pinned (OpenSpec.ofChange spansBothWrong)

/-- 'warplaw07.SpansLaws': WHATEVER THE INPUT: true; the input reads as it did. -/
def spansLawsSpec : ChangeSpec := { name := "spansLaws", fn := fun _ => fun
  | [d1, d2] => { results := [.lit (.bool true)], args := [d1, d2] }
  | _ => none }
def spansLawsRow : OpenClaim := { program := "ytjfpflnijkokaaa", sum := "3d1f08e3541f7a87a4835b82364b8d9db3f974a8e1e71e06c81ca6ef5f0d6e78", func := "warp/warplaw07.SpansLaws", spec := "spansLaws", unfollowed := true, recurses := true, apart := false }
def SpansLawsSaid : Prop := spansLawsRow.holds Try.pinned (OpenSpec.ofChange spansLawsSpec)

/-- ITS FALSE NEIGHBOUR: 'it returns false'. Refute it at one input. -/
def spansLawsWrong : ChangeSpec := { name := "spansLaws", fn := fun _ => fun
  | [d1, d2] => { results := [.lit (.bool false)], args := [d1, d2] }
  | _ => none }
def SpansLawsWrongFalsely : Prop := spansLawsRow.holds Try.pinned (OpenSpec.ofChange spansLawsWrong)

/-- 'warplaw07.SpansTurn': WHATEVER THE INPUT: true; the input reads as it did. -/
def spansTurnSpec : ChangeSpec := { name := "spansTurn", fn := fun _ => fun
  | [d] => { results := [.lit (.bool true)], args := [d] }
  | _ => none }
def spansTurnRow : OpenClaim := { program := "ytjfpflnijkokaaa", sum := "3d1f08e3541f7a87a4835b82364b8d9db3f974a8e1e71e06c81ca6ef5f0d6e78", func := "warp/warplaw07.SpansTurn", spec := "spansTurn", unfollowed := true, recurses := true, apart := false }
def SpansTurnSaid : Prop := spansTurnRow.holds Try.pinned (OpenSpec.ofChange spansTurnSpec)

/-- ITS FALSE NEIGHBOUR: 'it returns false'. Refute it at one input. -/
def spansTurnWrong : ChangeSpec := { name := "spansTurn", fn := fun _ => fun
  | [d] => { results := [.lit (.bool false)], args := [d] }
  | _ => none }
def SpansTurnWrongFalsely : Prop := spansTurnRow.holds Try.pinned (OpenSpec.ofChange spansTurnWrong)

/- THE SECOND FORM. 'bulk': how many values and letters a reading holds, each counted each time it is reached (what is shared counts as often as it is met; a slice's spare places count too). A statement '..UptoSaid' is the law's where the arguments, and the package variables that the reading takes, are together of bulk at most 1048576: NARROWER than '..Said'. Prove '..Said' where nothing that the law and all that it calls make is longer than what came in: it says more and counts as full. Else prove '..UptoSaid'. A law counts once. -/
mutual
def uptoBulk {H : Type} : DataW H → Nat
  | .lit (.string bytes) => bytes.length + 1
  | .lit _ => 1
  | .nil => 1
  | .ptr d => uptoBulk d + 1
  | .slice elems spare => uptoBulkAll elems + uptoBulkAll spare + 1
  | .agg parts => uptoBulkAll parts + 1
  | .iface _ d => uptoBulk d + 1
  | .map entries => uptoBulkEntries entries + 1
  | .held _ => 1
def uptoBulkAll {H : Type} : List (DataW H) → Nat
  | [] => 0
  | d :: r => uptoBulk d + uptoBulkAll r
def uptoBulkEntries {H : Type} : List (Lit × DataW H) → Nat
  | [] => 0
  | x :: r => uptoBulkEntry x + uptoBulkEntries r
def uptoBulkEntry {H : Type} : Lit × DataW H → Nat
  | (.string bytes, d) => bytes.length + uptoBulk d + 1
  | (_, d) => uptoBulk d + 1
 end
def uptoSmall : (H : Type) → List (DataW H) → Bool := fun _ ds => decide (uptoBulkAll ds ≤ 1048576)
def OpenSpec.upto (s : _root_.Go.ChangeSpec) : _root_.Go.OpenSpec := { _root_.Go.OpenSpec.ofChange s with cond := some uptoSmall }

/-- 'warplaw07.SpansOf', WHERE WHAT IT READS IS OF BULK AT MOST 1048576: true; the input reads as it did. -/
def spansOfUptoRow : OpenClaim := { program := "ytjfpflnijkokaaa", sum := "3d1f08e3541f7a87a4835b82364b8d9db3f974a8e1e71e06c81ca6ef5f0d6e78", func := "warp/warplaw07.SpansOf", spec := "spansOf", unfollowed := true, recurses := true, apart := false, narrowed := true }
def SpansOfUptoSaid : Prop := spansOfUptoRow.holds Try.pinned (OpenSpec.upto spansOfSpec)

/-- 'warplaw07.SpansTell', WHERE WHAT IT READS IS OF BULK AT MOST 1048576: true; the input reads as it did. -/
def spansTellUptoRow : OpenClaim := { program := "ytjfpflnijkokaaa", sum := "3d1f08e3541f7a87a4835b82364b8d9db3f974a8e1e71e06c81ca6ef5f0d6e78", func := "warp/warplaw07.SpansTell", spec := "spansTell", unfollowed := true, recurses := true, apart := false, narrowed := true }
def SpansTellUptoSaid : Prop := spansTellUptoRow.holds Try.pinned (OpenSpec.upto spansTellSpec)

/-- 'warplaw07.SpansBack', WHERE WHAT IT READS IS OF BULK AT MOST 1048576: true; the input reads as it did. -/
def spansBackUptoRow : OpenClaim := { program := "ytjfpflnijkokaaa", sum := "3d1f08e3541f7a87a4835b82364b8d9db3f974a8e1e71e06c81ca6ef5f0d6e78", func := "warp/warplaw07.SpansBack", spec := "spansBack", unfollowed := true, recurses := true, apart := false, narrowed := true }
def SpansBackUptoSaid : Prop := spansBackUptoRow.holds Try.pinned (OpenSpec.upto spansBackSpec)

/-- 'warplaw07.SpansBoth', WHERE WHAT IT READS IS OF BULK AT MOST 1048576: true; the input reads as it did. -/
def spansBothUptoRow : OpenClaim := { program := "ytjfpflnijkokaaa", sum := "3d1f08e3541f7a87a4835b82364b8d9db3f974a8e1e71e06c81ca6ef5f0d6e78", func := "warp/warplaw07.SpansBoth", spec := "spansBoth", unfollowed := true, recurses := true, apart := false, narrowed := true }
def SpansBothUptoSaid : Prop := spansBothUptoRow.holds Try.pinned (OpenSpec.upto spansBothSpec)

/-- 'warplaw07.SpansLaws', WHERE WHAT IT READS IS OF BULK AT MOST 1048576: true; the input reads as it did. -/
def spansLawsUptoRow : OpenClaim := { program := "ytjfpflnijkokaaa", sum := "3d1f08e3541f7a87a4835b82364b8d9db3f974a8e1e71e06c81ca6ef5f0d6e78", func := "warp/warplaw07.SpansLaws", spec := "spansLaws", unfollowed := true, recurses := true, apart := false, narrowed := true }
def SpansLawsUptoSaid : Prop := spansLawsUptoRow.holds Try.pinned (OpenSpec.upto spansLawsSpec)

/-- 'warplaw07.SpansTurn', WHERE WHAT IT READS IS OF BULK AT MOST 1048576: true; the input reads as it did. -/
def spansTurnUptoRow : OpenClaim := { program := "ytjfpflnijkokaaa", sum := "3d1f08e3541f7a87a4835b82364b8d9db3f974a8e1e71e06c81ca6ef5f0d6e78", func := "warp/warplaw07.SpansTurn", spec := "spansTurn", unfollowed := true, recurses := true, apart := false, narrowed := true }
def SpansTurnUptoSaid : Prop := spansTurnUptoRow.holds Try.pinned (OpenSpec.upto spansTurnSpec)

end Rows
end Go.Proofs.Ytjfpflnijkokaaa
