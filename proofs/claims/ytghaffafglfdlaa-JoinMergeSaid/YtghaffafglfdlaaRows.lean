/-
  No cell of these rows narrows 'for every input' (looked for: loops, veiled, ifaces, maps, wideKeys, modest, calm, conditions, laid).
  DERIVED. THE GIVEN ROWS OF THIS SEAT. 4 by the template 'for every input the law returns true; each argument reads behind the call as it read before'; 0 by the template 'total and deterministic' (their statements: YtghaffafglfdlaaTotals.lean).
  GIVEN WITH THE SEED: the statements are not yours to turn. If you find one false, say at which input.
  Laid BY PROGRAM, IN A SANDBOX (cutbox-rows.mjs): the forced cells as the released guide's own fill.sh prints them over the translation 6901c20f415da804… (all of the seat's roots in one cut). By AI agents, Wed Nov 11 2026. No macro, syntax, notation, axiom, sorry.
-/
import Derived.Test.YtghaffafglfdlaaChecked
import GoSem.Claim
import GoSem.ClaimJoined
import GoSem.ClaimMapViews
import Derived.JoinedTies
import Derived.KernelRfl
namespace Go.Proofs.Ytghaffafglfdlaa
/- THE CELL 'sum', in the pinned program and in every row, IS THE sha256 OF THE DUMP (.gsa) THAT YtghaffafglfdlaaProg.lean LOADS. Nothing in Lean hashes anything: it is a label: what it is worth is what the hold of that sum in a sandbox is worth. -/
noncomputable def Try.pinned : Pinned := { name := "ytghaffafglfdlaa", sum := "6901c20f415da8041b3b35092c14affc4a22a75150bd114987efa17354a01f63", checked := Try.checked }
namespace Rows
def none {H : Type} : Left H := { results := [], args := [] }

/-- 'warplaw21.JoinNested': WHATEVER THE INPUT: true; the input reads as it did. -/
def joinNestedSpec : ChangeSpec := { name := "joinNested", fn := fun _ => fun
  | [d1, d2, d3, d4] => { results := [.lit (.bool true)], args := [d1, d2, d3, d4] }
  | _ => none }
def joinNestedRow : OpenClaim := { program := "ytghaffafglfdlaa", sum := "6901c20f415da8041b3b35092c14affc4a22a75150bd114987efa17354a01f63", func := "warp/warplaw21.JoinNested", spec := "joinNested", unfollowed := true, recurses := true, plainKeys := false, apart := false }
def JoinNestedSaid : Prop := joinNestedRow.holds Try.pinned (OpenSpec.ofChange joinNestedSpec)

/-- ITS FALSE NEIGHBOUR: 'it returns false'. Refute it at one input. -/
def joinNestedWrong : ChangeSpec := { name := "joinNested", fn := fun _ => fun
  | [d1, d2, d3, d4] => { results := [.lit (.bool false)], args := [d1, d2, d3, d4] }
  | _ => none }
def JoinNestedWrongFalsely : Prop := joinNestedRow.holds Try.pinned (OpenSpec.ofChange joinNestedWrong)

/-- 'warplaw21.JoinHash': WHATEVER THE INPUT: true; the input reads as it did. -/
def joinHashSpec : ChangeSpec := { name := "joinHash", fn := fun _ => fun
  | [d1, d2, d3, d4, d5, d6] => { results := [.lit (.bool true)], args := [d1, d2, d3, d4, d5, d6] }
  | _ => none }
def joinHashRow : OpenClaim := { program := "ytghaffafglfdlaa", sum := "6901c20f415da8041b3b35092c14affc4a22a75150bd114987efa17354a01f63", func := "warp/warplaw21.JoinHash", spec := "joinHash", unfollowed := true, recurses := true, plainKeys := false, apart := false }
def JoinHashSaid : Prop := joinHashRow.holds Try.pinned (OpenSpec.ofChange joinHashSpec)

/-- ITS FALSE NEIGHBOUR: 'it returns false'. Refute it at one input. -/
def joinHashWrong : ChangeSpec := { name := "joinHash", fn := fun _ => fun
  | [d1, d2, d3, d4, d5, d6] => { results := [.lit (.bool false)], args := [d1, d2, d3, d4, d5, d6] }
  | _ => none }
def JoinHashWrongFalsely : Prop := joinHashRow.holds Try.pinned (OpenSpec.ofChange joinHashWrong)

/-- 'warplaw21.JoinKeeps': WHATEVER THE INPUT: true; the input reads as it did. -/
def joinKeepsSpec : ChangeSpec := { name := "joinKeeps", fn := fun _ => fun
  | [d1, d2, d3, d4, d5, d6] => { results := [.lit (.bool true)], args := [d1, d2, d3, d4, d5, d6] }
  | _ => none }
def joinKeepsRow : OpenClaim := { program := "ytghaffafglfdlaa", sum := "6901c20f415da8041b3b35092c14affc4a22a75150bd114987efa17354a01f63", func := "warp/warplaw21.JoinKeeps", spec := "joinKeeps", unfollowed := true, recurses := true, plainKeys := false, apart := false }
def JoinKeepsSaid : Prop := joinKeepsRow.holds Try.pinned (OpenSpec.ofChange joinKeepsSpec)

/-- ITS FALSE NEIGHBOUR: 'it returns false'. Refute it at one input. -/
def joinKeepsWrong : ChangeSpec := { name := "joinKeeps", fn := fun _ => fun
  | [d1, d2, d3, d4, d5, d6] => { results := [.lit (.bool false)], args := [d1, d2, d3, d4, d5, d6] }
  | _ => none }
def JoinKeepsWrongFalsely : Prop := joinKeepsRow.holds Try.pinned (OpenSpec.ofChange joinKeepsWrong)

/-- 'warplaw21.JoinMerge': WHATEVER THE INPUT: true; the input reads as it did. -/
def joinMergeSpec : ChangeSpec := { name := "joinMerge", fn := fun _ => fun
  | [d1, d2, d3, d4, d5] => { results := [.lit (.bool true)], args := [d1, d2, d3, d4, d5] }
  | _ => none }
def joinMergeRow : OpenClaim := { program := "ytghaffafglfdlaa", sum := "6901c20f415da8041b3b35092c14affc4a22a75150bd114987efa17354a01f63", func := "warp/warplaw21.JoinMerge", spec := "joinMerge", unfollowed := true, recurses := true, plainKeys := false, apart := false }
def JoinMergeSaid : Prop := joinMergeRow.holds Try.pinned (OpenSpec.ofChange joinMergeSpec)

/-- ITS FALSE NEIGHBOUR: 'it returns false'. Refute it at one input. -/
def joinMergeWrong : ChangeSpec := { name := "joinMerge", fn := fun _ => fun
  | [d1, d2, d3, d4, d5] => { results := [.lit (.bool false)], args := [d1, d2, d3, d4, d5] }
  | _ => none }
def JoinMergeWrongFalsely : Prop := joinMergeRow.holds Try.pinned (OpenSpec.ofChange joinMergeWrong)

/- THE SECOND FORM. 'bulk': how many values and letters a reading holds, each counted each time it is reached (what is shared counts as often as it is met; a slice's spare places count too). A statement '..UptoSaid' is the law's where the arguments, and the package variables that the reading takes, are together of bulk at most 1048576: NARROWER than '..Said'. Prove '..Said' where nothing that the law and all that it calls make is longer than what came in: it says more and counts as full. Else prove '..UptoSaid'. A law counts once. -/
mutual
def uptoBulk {H : Type} : DataW H → Nat
  | .lit (.string bytes) => bytes.length + 1
  | .lit _ => 1
  | .nil => 1
  | .ptr d => uptoBulk d + 1
  | .slice elems spare => uptoBulkAll elems + uptoBulkAll spare + 1
  | .agg parts => uptoBulkAll parts + 1
  | .iface _ d => uptoBulk d + 1
  | .map entries => uptoBulkEntries entries + 1
  | .held _ => 1
def uptoBulkAll {H : Type} : List (DataW H) → Nat
  | [] => 0
  | d :: r => uptoBulk d + uptoBulkAll r
def uptoBulkEntries {H : Type} : List (Lit × DataW H) → Nat
  | [] => 0
  | x :: r => uptoBulkEntry x + uptoBulkEntries r
def uptoBulkEntry {H : Type} : Lit × DataW H → Nat
  | (.string bytes, d) => bytes.length + uptoBulk d + 1
  | (_, d) => uptoBulk d + 1
 end
def uptoSmall : (H : Type) → List (DataW H) → Bool := fun _ ds => decide (uptoBulkAll ds ≤ 1048576)
def OpenSpec.upto (s : _root_.Go.ChangeSpec) : _root_.Go.OpenSpec := { _root_.Go.OpenSpec.ofChange s with cond := some uptoSmall }

/-- 'warplaw21.JoinNested', WHERE WHAT IT READS IS OF BULK AT MOST 1048576: true; the input reads as it did. -/
def joinNestedUptoRow : OpenClaim := { program := "ytghaffafglfdlaa", sum := "6901c20f415da8041b3b35092c14affc4a22a75150bd114987efa17354a01f63", func := "warp/warplaw21.JoinNested", spec := "joinNested", unfollowed := true, recurses := true, plainKeys := false, apart := false, narrowed := true }
def JoinNestedUptoSaid : Prop := joinNestedUptoRow.holds Try.pinned (OpenSpec.upto joinNestedSpec)

/-- 'warplaw21.JoinHash', WHERE WHAT IT READS IS OF BULK AT MOST 1048576: true; the input reads as it did. -/
def joinHashUptoRow : OpenClaim := { program := "ytghaffafglfdlaa", sum := "6901c20f415da8041b3b35092c14affc4a22a75150bd114987efa17354a01f63", func := "warp/warplaw21.JoinHash", spec := "joinHash", unfollowed := true, recurses := true, plainKeys := false, apart := false, narrowed := true }
def JoinHashUptoSaid : Prop := joinHashUptoRow.holds Try.pinned (OpenSpec.upto joinHashSpec)

/-- 'warplaw21.JoinKeeps', WHERE WHAT IT READS IS OF BULK AT MOST 1048576: true; the input reads as it did. -/
def joinKeepsUptoRow : OpenClaim := { program := "ytghaffafglfdlaa", sum := "6901c20f415da8041b3b35092c14affc4a22a75150bd114987efa17354a01f63", func := "warp/warplaw21.JoinKeeps", spec := "joinKeeps", unfollowed := true, recurses := true, plainKeys := false, apart := false, narrowed := true }
def JoinKeepsUptoSaid : Prop := joinKeepsUptoRow.holds Try.pinned (OpenSpec.upto joinKeepsSpec)

/-- 'warplaw21.JoinMerge', WHERE WHAT IT READS IS OF BULK AT MOST 1048576: true; the input reads as it did. -/
def joinMergeUptoRow : OpenClaim := { program := "ytghaffafglfdlaa", sum := "6901c20f415da8041b3b35092c14affc4a22a75150bd114987efa17354a01f63", func := "warp/warplaw21.JoinMerge", spec := "joinMerge", unfollowed := true, recurses := true, plainKeys := false, apart := false, narrowed := true }
def JoinMergeUptoSaid : Prop := joinMergeUptoRow.holds Try.pinned (OpenSpec.upto joinMergeSpec)

end Rows
end Go.Proofs.Ytghaffafglfdlaa
