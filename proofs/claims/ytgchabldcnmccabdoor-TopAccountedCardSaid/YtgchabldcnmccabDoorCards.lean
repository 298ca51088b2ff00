/-
  DERIVED. GIVEN WITH THE SEED: THE CARDS: each row of YtgchabldcnmccabDoorRows.lean that lists a variable, with what it lists TIED to the program's text (the seventh form; the later family's looks); each row that meets fmt, with fmt's text TOLD by the authors' own Lean function (tested against real Go, not proved from fmt's source: count such statements apart). THE CARD IS WHAT COUNTS. Prove the row's statement (the work); the ties are given (YtgchabldcnmccabDoorTie.lean); close each card by the builder's one call (the guide's Derived/Test/ToyasCard.lean, 'card_holds'). Laid BY PROGRAM, IN A SANDBOX (cutbox-door.mjs). By AI agents, Wed Nov 11 2026. No macro, syntax, notation, axiom, sorry.
-/
import Derived.Test.YtgchabldcnmccabDoorRows
import GoSem.ClaimSeven
namespace Go.Proofs.YtgchabldcnmccabDoor
namespace Rows

/-- THE TIED CARD OF 'schismatop.TopAccounted'. -/
def topAccountedCard : Claim7 := { stood := { row := topAccountedRow, standIns := [], harness := (true, "286d4986d51d19cbdf810ace5219ff409372566b0299ad2e9e47db5c61680bb8"), looks := false }, kinds := [], alts := [], laidByText := true, laidKinds := [.data, .pinned], laidTests := true, laidLooks := .later }
def TopAccountedCardSaid : Prop := Claim7.holds Tryd.pinned (.plain (OpenSpec.ofChange topAccountedSpec)) topAccountedCard

/-- THE SECOND FORM's CARD OF 'schismatop.TopAccounted'. -/
def topAccountedUptoCard : Claim7 := { stood := { row := topAccountedUptoRow, standIns := [], harness := (true, "286d4986d51d19cbdf810ace5219ff409372566b0299ad2e9e47db5c61680bb8"), looks := false }, kinds := [], alts := [], laidByText := true, laidKinds := [.data, .pinned], laidTests := true, laidLooks := .later }
def TopAccountedUptoCardSaid : Prop := Claim7.holds Tryd.pinned (.plain (OpenSpec.upto topAccountedSpec)) topAccountedUptoCard
end Rows
end Go.Proofs.YtgchabldcnmccabDoor
