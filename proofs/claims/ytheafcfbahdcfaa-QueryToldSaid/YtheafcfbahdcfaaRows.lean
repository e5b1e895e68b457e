/-
  No cell of these rows narrows 'for every input' (looked for: loops, veiled, ifaces, maps, wideKeys, modest, calm, conditions, laid).
  DERIVED. THE GIVEN ROWS OF THIS SEAT. 3 by the template 'for every input the law returns true; each argument reads behind the call as it read before'; 0 by the template 'total and deterministic' (their statements: YtheafcfbahdcfaaTotals.lean).
  GIVEN WITH THE SEED: the statements are not yours to turn. If you find one false, say at which input.
  Laid BY PROGRAM, IN A SANDBOX (cutbox-rows.mjs): the forced cells as the released guide's own fill.sh prints them over the translation bd99a2b80b7d1e61… (all of the seat's roots in one cut). By AI agents, Wed Nov 11 2026. No macro, syntax, notation, axiom, sorry.
-/
import Derived.Test.YtheafcfbahdcfaaChecked
import GoSem.Claim
import GoSem.ClaimJoined
import GoSem.ClaimMapViews
import Derived.JoinedTies
import Derived.KernelRfl
namespace Go.Proofs.Ytheafcfbahdcfaa
/- THE CELL 'sum', in the pinned program and in every row, IS THE sha256 OF THE DUMP (.gsa) THAT YtheafcfbahdcfaaProg.lean LOADS. Nothing in Lean hashes anything: it is a label: what it is worth is what the hold of that sum in a sandbox is worth. -/
noncomputable def Try.pinned : Pinned := { name := "ytheafcfbahdcfaa", sum := "bd99a2b80b7d1e61750e862cbf8455820444676fb5e5125e9d39ed51ac09b179", checked := Try.checked }
namespace Rows
def none {H : Type} : Left H := { results := [], args := [] }

/-- 'warplaw23.QueryMore': WHATEVER THE INPUT: true; the input reads as it did. -/
def queryMoreSpec : ChangeSpec := { name := "queryMore", fn := fun _ => fun
  | [d1, d2, d3] => { results := [.lit (.bool true)], args := [d1, d2, d3] }
  | _ => none }
def queryMoreRow : OpenClaim := { program := "ytheafcfbahdcfaa", sum := "bd99a2b80b7d1e61750e862cbf8455820444676fb5e5125e9d39ed51ac09b179", func := "warp/warplaw23.QueryMore", spec := "queryMore", unfollowed := true, recurses := true, apart := false }
def QueryMoreSaid : Prop := queryMoreRow.holds Try.pinned (OpenSpec.ofChange queryMoreSpec)

/-- ITS FALSE NEIGHBOUR: 'it returns false'. Refute it at one input. -/
def queryMoreWrong : ChangeSpec := { name := "queryMore", fn := fun _ => fun
  | [d1, d2, d3] => { results := [.lit (.bool false)], args := [d1, d2, d3] }
  | _ => none }
def QueryMoreWrongFalsely : Prop := queryMoreRow.holds Try.pinned (OpenSpec.ofChange queryMoreWrong)

/-- 'warplaw23.QueryTold': WHATEVER THE INPUT: true; the input reads as it did. -/
def queryToldSpec : ChangeSpec := { name := "queryTold", fn := fun _ => fun
  | [d1, d2] => { results := [.lit (.bool true)], args := [d1, d2] }
  | _ => none }
def queryToldRow : OpenClaim := { program := "ytheafcfbahdcfaa", sum := "bd99a2b80b7d1e61750e862cbf8455820444676fb5e5125e9d39ed51ac09b179", func := "warp/warplaw23.QueryTold", spec := "queryTold", unfollowed := true, recurses := true, apart := false }
def QueryToldSaid : Prop := queryToldRow.holds Try.pinned (OpenSpec.ofChange queryToldSpec)

/-- ITS FALSE NEIGHBOUR: 'it returns false'. Refute it at one input. -/
def queryToldWrong : ChangeSpec := { name := "queryTold", fn := fun _ => fun
  | [d1, d2] => { results := [.lit (.bool false)], args := [d1, d2] }
  | _ => none }
def QueryToldWrongFalsely : Prop := queryToldRow.holds Try.pinned (OpenSpec.ofChange queryToldWrong)

/-- 'warplaw23.QueryStars': WHATEVER THE INPUT: true; the input reads as it did. -/
def queryStarsSpec : ChangeSpec := { name := "queryStars", fn := fun _ => fun
  | [d1, d2, d3] => { results := [.lit (.bool true)], args := [d1, d2, d3] }
  | _ => none }
def queryStarsRow : OpenClaim := { program := "ytheafcfbahdcfaa", sum := "bd99a2b80b7d1e61750e862cbf8455820444676fb5e5125e9d39ed51ac09b179", func := "warp/warplaw23.QueryStars", spec := "queryStars", unfollowed := true, recurses := true, apart := false }
def QueryStarsSaid : Prop := queryStarsRow.holds Try.pinned (OpenSpec.ofChange queryStarsSpec)

/-- ITS FALSE NEIGHBOUR: 'it returns false'. Refute it at one input. -/
def queryStarsWrong : ChangeSpec := { name := "queryStars", fn := fun _ => fun
  | [d1, d2, d3] => { results := [.lit (.bool false)], args := [d1, d2, d3] }
  | _ => none }
def QueryStarsWrongFalsely : Prop := queryStarsRow.holds Try.pinned (OpenSpec.ofChange queryStarsWrong)

/- THE SECOND FORM. 'bulk': how many values and letters a reading holds, each counted each time it is reached (what is shared counts as often as it is met; a slice's spare places count too). A statement '..UptoSaid' is the law's where the arguments, and the package variables that the reading takes, are together of bulk at most 1048576: NARROWER than '..Said'. Prove '..Said' where nothing that the law and all that it calls make is longer than what came in: it says more and counts as full. Else prove '..UptoSaid'. A law counts once. -/
mutual
def uptoBulk {H : Type} : DataW H → Nat
  | .lit (.string bytes) => bytes.length + 1
  | .lit _ => 1
  | .nil => 1
  | .ptr d => uptoBulk d + 1
  | .slice elems spare => uptoBulkAll elems + uptoBulkAll spare + 1
  | .agg parts => uptoBulkAll parts + 1
  | .iface _ d => uptoBulk d + 1
  | .map entries => uptoBulkEntries entries + 1
  | .held _ => 1
def uptoBulkAll {H : Type} : List (DataW H) → Nat
  | [] => 0
  | d :: r => uptoBulk d + uptoBulkAll r
def uptoBulkEntries {H : Type} : List (Lit × DataW H) → Nat
  | [] => 0
  | x :: r => uptoBulkEntry x + uptoBulkEntries r
def uptoBulkEntry {H : Type} : Lit × DataW H → Nat
  | (.string bytes, d) => bytes.length + uptoBulk d + 1
  | (_, d) => uptoBulk d + 1
 end
def uptoSmall : (H : Type) → List (DataW H) → Bool := fun _ ds => decide (uptoBulkAll ds ≤ 1048576)
def OpenSpec.upto (s : _root_.Go.ChangeSpec) : _root_.Go.OpenSpec := { _root_.Go.OpenSpec.ofChange s with cond := some uptoSmall }

/-- 'warplaw23.QueryMore', WHERE WHAT IT READS IS OF BULK AT MOST 1048576: true; the input reads as it did. -/
def queryMoreUptoRow : OpenClaim := { program := "ytheafcfbahdcfaa", sum := "bd99a2b80b7d1e61750e862cbf8455820444676fb5e5125e9d39ed51ac09b179", func := "warp/warplaw23.QueryMore", spec := "queryMore", unfollowed := true, recurses := true, apart := false, narrowed := true }
def QueryMoreUptoSaid : Prop := queryMoreUptoRow.holds Try.pinned (OpenSpec.upto queryMoreSpec)

/-- 'warplaw23.QueryTold', WHERE WHAT IT READS IS OF BULK AT MOST 1048576: true; the input reads as it did. -/
def queryToldUptoRow : OpenClaim := { program := "ytheafcfbahdcfaa", sum := "bd99a2b80b7d1e61750e862cbf8455820444676fb5e5125e9d39ed51ac09b179", func := "warp/warplaw23.QueryTold", spec := "queryTold", unfollowed := true, recurses := true, apart := false, narrowed := true }
def QueryToldUptoSaid : Prop := queryToldUptoRow.holds Try.pinned (OpenSpec.upto queryToldSpec)

/-- 'warplaw23.QueryStars', WHERE WHAT IT READS IS OF BULK AT MOST 1048576: true; the input reads as it did. -/
def queryStarsUptoRow : OpenClaim := { program := "ytheafcfbahdcfaa", sum := "bd99a2b80b7d1e61750e862cbf8455820444676fb5e5125e9d39ed51ac09b179", func := "warp/warplaw23.QueryStars", spec := "queryStars", unfollowed := true, recurses := true, apart := false, narrowed := true }
def QueryStarsUptoSaid : Prop := queryStarsUptoRow.holds Try.pinned (OpenSpec.upto queryStarsSpec)

end Rows
end Go.Proofs.Ytheafcfbahdcfaa
