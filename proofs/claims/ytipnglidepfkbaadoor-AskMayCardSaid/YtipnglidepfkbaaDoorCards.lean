/-
  DERIVED. GIVEN WITH THE SEED: THE CARDS: each row of YtipnglidepfkbaaDoorRows.lean that lists a variable, with what it lists TIED to the program's text (the seventh form; the later family's looks); each row that meets fmt, with fmt's text TOLD by the authors' own Lean function (tested against real Go, not proved from fmt's source: count such statements apart). THE CARD IS WHAT COUNTS. Prove the row's statement (the work); the ties are given (YtipnglidepfkbaaDoorTie.lean); close each card by the builder's one call (the guide's Derived/Test/ToyasCard.lean, 'card_holds'). Laid BY PROGRAM, IN A SANDBOX (cutbox-door.mjs). By AI agents, Wed Nov 11 2026. No macro, syntax, notation, axiom, sorry.
-/
import Derived.Test.YtipnglidepfkbaaDoorRows
import GoSem.ClaimSeven
namespace Go.Proofs.YtipnglidepfkbaaDoor
namespace Rows

/-- THE TIED CARD OF 'warplaw14.AskEval'. -/
def askEvalCard : Claim7 := { stood := { row := askEvalRow, standIns := [], harness := (true, "e794080142b6e77e063c6315f671cb30818c201a073b33a9c8970d898baf8cc7"), looks := true }, kinds := [], alts := [], laidByText := true, laidKinds := [.data, .pinned], laidTests := true, laidLooks := .later }
def AskEvalCardSaid : Prop := Claim7.holds Tryd.pinned (.plain (OpenSpec.ofChange askEvalSpec)) askEvalCard

/-- THE TIED CARD OF 'warplaw14.AskMay'. -/
def askMayCard : Claim7 := { stood := { row := askMayRow, standIns := [], harness := (true, "e794080142b6e77e063c6315f671cb30818c201a073b33a9c8970d898baf8cc7"), looks := true }, kinds := [], alts := [], laidByText := true, laidKinds := [.data, .pinned], laidTests := true, laidLooks := .later }
def AskMayCardSaid : Prop := Claim7.holds Tryd.pinned (.plain (OpenSpec.ofChange askMaySpec)) askMayCard

/-- THE TIED CARD OF 'warplaw14.AskRight'. -/
def askRightCard : Claim7 := { stood := { row := askRightRow, standIns := [], harness := (true, "e794080142b6e77e063c6315f671cb30818c201a073b33a9c8970d898baf8cc7"), looks := true }, kinds := [], alts := [], laidByText := true, laidKinds := [.data, .pinned], laidTests := true, laidLooks := .later }
def AskRightCardSaid : Prop := Claim7.holds Tryd.pinned (.plain (OpenSpec.ofChange askRightSpec)) askRightCard

/-- THE SECOND FORM's CARD OF 'warplaw14.AskEval'. -/
def askEvalUptoCard : Claim7 := { stood := { row := askEvalUptoRow, standIns := [], harness := (true, "e794080142b6e77e063c6315f671cb30818c201a073b33a9c8970d898baf8cc7"), looks := true }, kinds := [], alts := [], laidByText := true, laidKinds := [.data, .pinned], laidTests := true, laidLooks := .later }
def AskEvalUptoCardSaid : Prop := Claim7.holds Tryd.pinned (.plain (OpenSpec.upto askEvalSpec)) askEvalUptoCard

/-- THE SECOND FORM's CARD OF 'warplaw14.AskMay'. -/
def askMayUptoCard : Claim7 := { stood := { row := askMayUptoRow, standIns := [], harness := (true, "e794080142b6e77e063c6315f671cb30818c201a073b33a9c8970d898baf8cc7"), looks := true }, kinds := [], alts := [], laidByText := true, laidKinds := [.data, .pinned], laidTests := true, laidLooks := .later }
def AskMayUptoCardSaid : Prop := Claim7.holds Tryd.pinned (.plain (OpenSpec.upto askMaySpec)) askMayUptoCard

/-- THE SECOND FORM's CARD OF 'warplaw14.AskRight'. -/
def askRightUptoCard : Claim7 := { stood := { row := askRightUptoRow, standIns := [], harness := (true, "e794080142b6e77e063c6315f671cb30818c201a073b33a9c8970d898baf8cc7"), looks := true }, kinds := [], alts := [], laidByText := true, laidKinds := [.data, .pinned], laidTests := true, laidLooks := .later }
def AskRightUptoCardSaid : Prop := Claim7.holds Tryd.pinned (.plain (OpenSpec.upto askRightSpec)) askRightUptoCard
end Rows
end Go.Proofs.YtipnglidepfkbaaDoor
