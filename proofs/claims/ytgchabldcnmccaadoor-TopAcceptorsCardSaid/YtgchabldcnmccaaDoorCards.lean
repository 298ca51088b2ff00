/-
  DERIVED. GIVEN WITH THE SEED: THE CARDS: each row of YtgchabldcnmccaaDoorRows.lean that lists a variable, with what it lists TIED to the program's text (the seventh form; the later family's looks); each row that meets fmt, with fmt's text TOLD by the authors' own Lean function (tested against real Go, not proved from fmt's source: count such statements apart). THE CARD IS WHAT COUNTS. Prove the row's statement (the work); the ties are given (YtgchabldcnmccaaDoorTie.lean); close each card by the builder's one call (the guide's Derived/Test/ToyasCard.lean, 'card_holds'). Laid BY PROGRAM, IN A SANDBOX (cutbox-door.mjs). By AI agents, Wed Nov 11 2026. No macro, syntax, notation, axiom, sorry.
-/
import Derived.Test.YtgchabldcnmccaaDoorRows
import GoSem.ClaimSeven
namespace Go.Proofs.YtgchabldcnmccaaDoor
namespace Rows

/-- THE TIED CARD OF 'schismatop.TopAcceptors'. -/
def topAcceptorsCard : Claim7 := { stood := { row := topAcceptorsRow, standIns := [], harness := (true, "e009e059a214bb260ace21a29b4701741af1b3c8d5bf188f2a474387461e7307"), looks := false }, kinds := [], alts := [], laidByText := true, laidKinds := [.data], laidTests := true, laidLooks := .later }
def TopAcceptorsCardSaid : Prop := Claim7.holds Tryd.pinned (.plain (OpenSpec.ofChange topAcceptorsSpec)) topAcceptorsCard

/-- THE SECOND FORM's CARD OF 'schismatop.TopAcceptors'. -/
def topAcceptorsUptoCard : Claim7 := { stood := { row := topAcceptorsUptoRow, standIns := [], harness := (true, "e009e059a214bb260ace21a29b4701741af1b3c8d5bf188f2a474387461e7307"), looks := false }, kinds := [], alts := [], laidByText := true, laidKinds := [.data], laidTests := true, laidLooks := .later }
def TopAcceptorsUptoCardSaid : Prop := Claim7.holds Tryd.pinned (.plain (OpenSpec.upto topAcceptorsSpec)) topAcceptorsUptoCard
end Rows
end Go.Proofs.YtgchabldcnmccaaDoor
