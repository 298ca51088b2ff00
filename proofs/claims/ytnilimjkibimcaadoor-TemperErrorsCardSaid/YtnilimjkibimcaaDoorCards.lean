/-
  DERIVED. GIVEN WITH THE SEED: THE CARDS: each row of YtnilimjkibimcaaDoorRows.lean that lists a variable, with what it lists TIED to the program's text (the seventh form; the later family's looks); each row that meets fmt, with fmt's text TOLD by the authors' own Lean function (tested against real Go, not proved from fmt's source: count such statements apart). THE CARD IS WHAT COUNTS. Prove the row's statement (the work); the ties are given (YtnilimjkibimcaaDoorTie.lean); close each card by the builder's one call (the guide's Derived/Test/ToyasCard.lean, 'card_holds'). Laid BY PROGRAM, IN A SANDBOX (cutbox-door.mjs). By AI agents, Wed Nov 11 2026. No macro, syntax, notation, axiom, sorry.
-/
import Derived.Test.YtnilimjkibimcaaDoorRows
import GoSem.ClaimSeven
namespace Go.Proofs.YtnilimjkibimcaaDoor
namespace Rows

/-- THE TIED CARD OF 'schismalaw07.TemperErrors'. -/
def temperErrorsCard : Claim7 := { stood := { row := temperErrorsRow, standIns := [], harness := (true, "6cf814c9e7bef6896db89bfb3f9394674cc873a32ee6b5304f9fa975febd6067"), looks := false }, kinds := [], alts := [], laidByText := true, laidKinds := [.data], laidTests := true, laidLooks := .later }
def TemperErrorsCardSaid : Prop := Claim7.holds Tryd.pinned (.plain (OpenSpec.ofChange temperErrorsSpec)) temperErrorsCard

/-- THE SECOND FORM's CARD OF 'schismalaw07.TemperErrors'. -/
def temperErrorsUptoCard : Claim7 := { stood := { row := temperErrorsUptoRow, standIns := [], harness := (true, "6cf814c9e7bef6896db89bfb3f9394674cc873a32ee6b5304f9fa975febd6067"), looks := false }, kinds := [], alts := [], laidByText := true, laidKinds := [.data], laidTests := true, laidLooks := .later }
def TemperErrorsUptoCardSaid : Prop := Claim7.holds Tryd.pinned (.plain (OpenSpec.upto temperErrorsSpec)) temperErrorsUptoCard
end Rows
end Go.Proofs.YtnilimjkibimcaaDoor
