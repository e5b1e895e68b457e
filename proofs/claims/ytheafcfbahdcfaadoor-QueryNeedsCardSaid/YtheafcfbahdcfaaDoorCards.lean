/-
  DERIVED. GIVEN WITH THE SEED: THE CARDS: each row of YtheafcfbahdcfaaDoorRows.lean that lists a variable, with what it lists TIED to the program's text (the seventh form; the later family's looks); each row that meets fmt, with fmt's text TOLD by the authors' own Lean function (tested against real Go, not proved from fmt's source: count such statements apart). THE CARD IS WHAT COUNTS. Prove the row's statement (the work); the ties are given (YtheafcfbahdcfaaDoorTie.lean); close each card by the builder's one call (the guide's Derived/Test/ToyasCard.lean, 'card_holds'). Laid BY PROGRAM, IN A SANDBOX (cutbox-door.mjs). By AI agents, Wed Nov 11 2026. No macro, syntax, notation, axiom, sorry.
-/
import Derived.Test.YtheafcfbahdcfaaDoorRows
import GoSem.ClaimSeven
namespace Go.Proofs.YtheafcfbahdcfaaDoor
namespace Rows

/-- THE TIED CARD OF 'warplaw23.QueryChecks'. -/
def queryChecksCard : Claim7 := { stood := { row := queryChecksRow, standIns := [], harness := (true, "8127e0f96134399f69242bd08dab0dc518c7a8d5e3b7805e5e0995568f51afe9"), looks := true }, kinds := [], alts := [], laidByText := true, laidKinds := [.data, .pinned], laidTests := true, laidLooks := .later }
def QueryChecksCardSaid : Prop := Claim7.holds Tryd.pinned (.plain (OpenSpec.ofChange queryChecksSpec)) queryChecksCard

/-- THE TIED CARD OF 'warplaw23.QueryNeeds'. -/
def queryNeedsCard : Claim7 := { stood := { row := queryNeedsRow, standIns := [], harness := (true, "8127e0f96134399f69242bd08dab0dc518c7a8d5e3b7805e5e0995568f51afe9"), looks := true }, kinds := [], alts := [], laidByText := true, laidKinds := [.data, .pinned], laidTests := true, laidLooks := .later }
def QueryNeedsCardSaid : Prop := Claim7.holds Tryd.pinned (.plain (OpenSpec.ofChange queryNeedsSpec)) queryNeedsCard

/-- THE SECOND FORM's CARD OF 'warplaw23.QueryChecks'. -/
def queryChecksUptoCard : Claim7 := { stood := { row := queryChecksUptoRow, standIns := [], harness := (true, "8127e0f96134399f69242bd08dab0dc518c7a8d5e3b7805e5e0995568f51afe9"), looks := true }, kinds := [], alts := [], laidByText := true, laidKinds := [.data, .pinned], laidTests := true, laidLooks := .later }
def QueryChecksUptoCardSaid : Prop := Claim7.holds Tryd.pinned (.plain (OpenSpec.upto queryChecksSpec)) queryChecksUptoCard

/-- THE SECOND FORM's CARD OF 'warplaw23.QueryNeeds'. -/
def queryNeedsUptoCard : Claim7 := { stood := { row := queryNeedsUptoRow, standIns := [], harness := (true, "8127e0f96134399f69242bd08dab0dc518c7a8d5e3b7805e5e0995568f51afe9"), looks := true }, kinds := [], alts := [], laidByText := true, laidKinds := [.data, .pinned], laidTests := true, laidLooks := .later }
def QueryNeedsUptoCardSaid : Prop := Claim7.holds Tryd.pinned (.plain (OpenSpec.upto queryNeedsSpec)) queryNeedsUptoCard
end Rows
end Go.Proofs.YtheafcfbahdcfaaDoor
