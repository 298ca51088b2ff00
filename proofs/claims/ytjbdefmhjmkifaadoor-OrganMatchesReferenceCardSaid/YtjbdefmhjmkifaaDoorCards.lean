/-
  DERIVED. GIVEN WITH THE SEED: THE CARDS: each row of YtjbdefmhjmkifaaDoorRows.lean that lists a variable, with what it lists TIED to the program's text (the seventh form; the later family's looks); each row that meets fmt, with fmt's text TOLD by the authors' own Lean function (tested against real Go, not proved from fmt's source: count such statements apart). THE CARD IS WHAT COUNTS. Prove the row's statement (the work); the ties are given (YtjbdefmhjmkifaaDoorTie.lean); close each card by the builder's one call (the guide's Derived/Test/ToyasCard.lean, 'card_holds'). Laid BY PROGRAM, IN A SANDBOX (cutbox-door.mjs). By AI agents, Wed Nov 11 2026. No macro, syntax, notation, axiom, sorry.
-/
import Derived.Test.YtjbdefmhjmkifaaDoorRows
import GoSem.ClaimSeven
namespace Go.Proofs.YtjbdefmhjmkifaaDoor
namespace Rows

/-- THE TIED CARD OF 'schismalaw11.OrganSinks'. -/
def organSinksCard : Claim7 := { stood := { row := organSinksRow, standIns := [], harness := (true, "dc436998fff3d53709479aa4b07c60cdd096160283721879359c112e4c0c8e70"), looks := false }, kinds := [], alts := [], laidByText := true, laidKinds := [.data], laidTests := true, laidLooks := .later }
def OrganSinksCardSaid : Prop := Claim7.holds Tryd.pinned (.plain (OpenSpec.ofChange organSinksSpec)) organSinksCard

/-- THE TIED CARD OF 'schismalaw11.OrganRange'. -/
def organRangeCard : Claim7 := { stood := { row := organRangeRow, standIns := [], harness := (true, "dc436998fff3d53709479aa4b07c60cdd096160283721879359c112e4c0c8e70"), looks := false }, kinds := [], alts := [], laidByText := true, laidKinds := [.data], laidTests := true, laidLooks := .later }
def OrganRangeCardSaid : Prop := Claim7.holds Tryd.pinned (.plain (OpenSpec.ofChange organRangeSpec)) organRangeCard

/-- THE TIED CARD OF 'schismalaw11.OrganTogether'. -/
def organTogetherCard : Claim7 := { stood := { row := organTogetherRow, standIns := [], harness := (true, "dc436998fff3d53709479aa4b07c60cdd096160283721879359c112e4c0c8e70"), looks := false }, kinds := [], alts := [], laidByText := true, laidKinds := [.data], laidTests := true, laidLooks := .later }
def OrganTogetherCardSaid : Prop := Claim7.holds Tryd.pinned (.plain (OpenSpec.ofChange organTogetherSpec)) organTogetherCard

/-- THE TIED CARD OF 'schismalaw11.OrganWarmth'. -/
def organWarmthCard : Claim7 := { stood := { row := organWarmthRow, standIns := [], harness := (true, "dc436998fff3d53709479aa4b07c60cdd096160283721879359c112e4c0c8e70"), looks := false }, kinds := [], alts := [], laidByText := true, laidKinds := [.data], laidTests := true, laidLooks := .later }
def OrganWarmthCardSaid : Prop := Claim7.holds Tryd.pinned (.plain (OpenSpec.ofChange organWarmthSpec)) organWarmthCard

/-- THE TIED CARD OF 'schismalaw11.OrganSupply'. -/
def organSupplyCard : Claim7 := { stood := { row := organSupplyRow, standIns := [], harness := (true, "dc436998fff3d53709479aa4b07c60cdd096160283721879359c112e4c0c8e70"), looks := false }, kinds := [], alts := [], laidByText := true, laidKinds := [.data], laidTests := true, laidLooks := .later }
def OrganSupplyCardSaid : Prop := Claim7.holds Tryd.pinned (.plain (OpenSpec.ofChange organSupplySpec)) organSupplyCard

/-- THE TIED CARD OF 'schismalaw11.OrganChord'. -/
def organChordCard : Claim7 := { stood := { row := organChordRow, standIns := [], harness := (true, "dc436998fff3d53709479aa4b07c60cdd096160283721879359c112e4c0c8e70"), looks := false }, kinds := [], alts := [], laidByText := true, laidKinds := [.data], laidTests := true, laidLooks := .later }
def OrganChordCardSaid : Prop := Claim7.holds Tryd.pinned (.plain (OpenSpec.ofChange organChordSpec)) organChordCard

/-- THE TIED CARD OF 'schismalaw11.OrganSubsets'. -/
def organSubsetsCard : Claim7 := { stood := { row := organSubsetsRow, standIns := [], harness := (true, "dc436998fff3d53709479aa4b07c60cdd096160283721879359c112e4c0c8e70"), looks := false }, kinds := [], alts := [], laidByText := true, laidKinds := [.data], laidTests := true, laidLooks := .later }
def OrganSubsetsCardSaid : Prop := Claim7.holds Tryd.pinned (.plain (OpenSpec.ofChange organSubsetsSpec)) organSubsetsCard

/-- THE TIED CARD OF 'schismalaw11.OrganMatchesReference'. -/
def organMatchesReferenceCard : Claim7 := { stood := { row := organMatchesReferenceRow, standIns := [], harness := (true, "dc436998fff3d53709479aa4b07c60cdd096160283721879359c112e4c0c8e70"), looks := false }, kinds := [], alts := [], laidByText := true, laidKinds := [.data], laidTests := true, laidLooks := .later }
def OrganMatchesReferenceCardSaid : Prop := Claim7.holds Tryd.pinned (.plain (OpenSpec.ofChange organMatchesReferenceSpec)) organMatchesReferenceCard

/-- THE SECOND FORM's CARD OF 'schismalaw11.OrganSinks'. -/
def organSinksUptoCard : Claim7 := { stood := { row := organSinksUptoRow, standIns := [], harness := (true, "dc436998fff3d53709479aa4b07c60cdd096160283721879359c112e4c0c8e70"), looks := false }, kinds := [], alts := [], laidByText := true, laidKinds := [.data], laidTests := true, laidLooks := .later }
def OrganSinksUptoCardSaid : Prop := Claim7.holds Tryd.pinned (.plain (OpenSpec.upto organSinksSpec)) organSinksUptoCard

/-- THE SECOND FORM's CARD OF 'schismalaw11.OrganRange'. -/
def organRangeUptoCard : Claim7 := { stood := { row := organRangeUptoRow, standIns := [], harness := (true, "dc436998fff3d53709479aa4b07c60cdd096160283721879359c112e4c0c8e70"), looks := false }, kinds := [], alts := [], laidByText := true, laidKinds := [.data], laidTests := true, laidLooks := .later }
def OrganRangeUptoCardSaid : Prop := Claim7.holds Tryd.pinned (.plain (OpenSpec.upto organRangeSpec)) organRangeUptoCard

/-- THE SECOND FORM's CARD OF 'schismalaw11.OrganTogether'. -/
def organTogetherUptoCard : Claim7 := { stood := { row := organTogetherUptoRow, standIns := [], harness := (true, "dc436998fff3d53709479aa4b07c60cdd096160283721879359c112e4c0c8e70"), looks := false }, kinds := [], alts := [], laidByText := true, laidKinds := [.data], laidTests := true, laidLooks := .later }
def OrganTogetherUptoCardSaid : Prop := Claim7.holds Tryd.pinned (.plain (OpenSpec.upto organTogetherSpec)) organTogetherUptoCard

/-- THE SECOND FORM's CARD OF 'schismalaw11.OrganWarmth'. -/
def organWarmthUptoCard : Claim7 := { stood := { row := organWarmthUptoRow, standIns := [], harness := (true, "dc436998fff3d53709479aa4b07c60cdd096160283721879359c112e4c0c8e70"), looks := false }, kinds := [], alts := [], laidByText := true, laidKinds := [.data], laidTests := true, laidLooks := .later }
def OrganWarmthUptoCardSaid : Prop := Claim7.holds Tryd.pinned (.plain (OpenSpec.upto organWarmthSpec)) organWarmthUptoCard

/-- THE SECOND FORM's CARD OF 'schismalaw11.OrganSupply'. -/
def organSupplyUptoCard : Claim7 := { stood := { row := organSupplyUptoRow, standIns := [], harness := (true, "dc436998fff3d53709479aa4b07c60cdd096160283721879359c112e4c0c8e70"), looks := false }, kinds := [], alts := [], laidByText := true, laidKinds := [.data], laidTests := true, laidLooks := .later }
def OrganSupplyUptoCardSaid : Prop := Claim7.holds Tryd.pinned (.plain (OpenSpec.upto organSupplySpec)) organSupplyUptoCard

/-- THE SECOND FORM's CARD OF 'schismalaw11.OrganChord'. -/
def organChordUptoCard : Claim7 := { stood := { row := organChordUptoRow, standIns := [], harness := (true, "dc436998fff3d53709479aa4b07c60cdd096160283721879359c112e4c0c8e70"), looks := false }, kinds := [], alts := [], laidByText := true, laidKinds := [.data], laidTests := true, laidLooks := .later }
def OrganChordUptoCardSaid : Prop := Claim7.holds Tryd.pinned (.plain (OpenSpec.upto organChordSpec)) organChordUptoCard

/-- THE SECOND FORM's CARD OF 'schismalaw11.OrganSubsets'. -/
def organSubsetsUptoCard : Claim7 := { stood := { row := organSubsetsUptoRow, standIns := [], harness := (true, "dc436998fff3d53709479aa4b07c60cdd096160283721879359c112e4c0c8e70"), looks := false }, kinds := [], alts := [], laidByText := true, laidKinds := [.data], laidTests := true, laidLooks := .later }
def OrganSubsetsUptoCardSaid : Prop := Claim7.holds Tryd.pinned (.plain (OpenSpec.upto organSubsetsSpec)) organSubsetsUptoCard

/-- THE SECOND FORM's CARD OF 'schismalaw11.OrganMatchesReference'. -/
def organMatchesReferenceUptoCard : Claim7 := { stood := { row := organMatchesReferenceUptoRow, standIns := [], harness := (true, "dc436998fff3d53709479aa4b07c60cdd096160283721879359c112e4c0c8e70"), looks := false }, kinds := [], alts := [], laidByText := true, laidKinds := [.data], laidTests := true, laidLooks := .later }
def OrganMatchesReferenceUptoCardSaid : Prop := Claim7.holds Tryd.pinned (.plain (OpenSpec.upto organMatchesReferenceSpec)) organMatchesReferenceUptoCard
end Rows
end Go.Proofs.YtjbdefmhjmkifaaDoor
