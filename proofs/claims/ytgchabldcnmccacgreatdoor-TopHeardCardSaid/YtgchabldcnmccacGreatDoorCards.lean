/-
  DERIVED. GIVEN WITH THE SEED: THE CARDS: each row of YtgchabldcnmccacGreatDoorRows.lean that lists a variable, with what it lists TIED to the program's text (the seventh form; the later family's looks); each row that meets fmt, with fmt's text TOLD by the authors' own Lean function (tested against real Go, not proved from fmt's source: count such statements apart). THE CARD IS WHAT COUNTS. Prove the row's statement (the work); the ties are given (YtgchabldcnmccacGreatDoorTie.lean); close each card by the builder's one call (the guide's Derived/Test/ToyasCard.lean, 'card_holds'). Laid BY PROGRAM, IN A SANDBOX (cutbox-door.mjs). By AI agents, Wed Nov 11 2026. No macro, syntax, notation, axiom, sorry.
-/
import Derived.Test.YtgchabldcnmccacGreatDoorRows
import GoSem.ClaimSeven
namespace Go.Proofs.YtgchabldcnmccacGreatDoor
namespace Rows

/-- THE TIED CARD OF 'schismatop.TopHeard'. -/
def topHeardCard : Claim7 := { stood := { row := topHeardRow, standIns := [], harness := (true, "92d56df4ab6669e182da42960b7eacd66c32b3fbebf502dd019f802e3777f47c"), looks := true }, kinds := [], alts := [], laidByText := true, laidKinds := [.handle, .data], laidTests := true, laidLooks := .later }
def TopHeardCardSaid : Prop := Claim7.holds Tryz.pinned (.plain (OpenSpec.ofChange topHeardSpec)) topHeardCard

/-- THE SECOND FORM's CARD OF 'schismatop.TopHeard'. -/
def topHeardUptoCard : Claim7 := { stood := { row := topHeardUptoRow, standIns := [], harness := (true, "92d56df4ab6669e182da42960b7eacd66c32b3fbebf502dd019f802e3777f47c"), looks := true }, kinds := [], alts := [], laidByText := true, laidKinds := [.handle, .data], laidTests := true, laidLooks := .later }
def TopHeardUptoCardSaid : Prop := Claim7.holds Tryz.pinned (.plain (OpenSpec.upto topHeardSpec)) topHeardUptoCard
end Rows
end Go.Proofs.YtgchabldcnmccacGreatDoor
