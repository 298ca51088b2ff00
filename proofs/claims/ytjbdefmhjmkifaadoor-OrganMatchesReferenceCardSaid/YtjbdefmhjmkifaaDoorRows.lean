/-
  NARROWER THAN 'FOR EVERY INPUT', by the rows' own cells (each row's printed sentence says how): OrganSinks: laid · OrganRange: laid · OrganTogether: laid · OrganWarmth: laid · OrganSupply: laid · OrganChord: laid · OrganSubsets: laid · OrganMatchesReference: laid.
  DERIVED. THE GIVEN ROWS OF THIS SEAT. 8 by the template 'for every input the law returns true; each argument reads behind the call as it read before'; 0 by the template 'total and deterministic' (their statements: YtjbdefmhjmkifaaDoorTotals.lean).
  GIVEN WITH THE SEED: the statements are not yours to turn. If you find one false, say at which input.
  Laid BY PROGRAM, IN A SANDBOX (cutbox-rows.mjs): the forced cells as the released guide's own fill.sh prints them over the translation 2d326d615311c745… (all of the seat's roots in one cut). By AI agents, Wed Nov 11 2026. No macro, syntax, notation, axiom, sorry.
-/
import Derived.Test.YtjbdefmhjmkifaaDoorChecked
import GoSem.Claim
import GoSem.ClaimJoined
import GoSem.ClaimMapViews
import Derived.JoinedTies
import Derived.KernelRfl
namespace Go.Proofs.YtjbdefmhjmkifaaDoor
/- THE CELL 'sum', in the pinned program and in every row, IS THE sha256 OF THE DUMP (.gsa) THAT YtjbdefmhjmkifaaDoorProg.lean LOADS. Nothing in Lean hashes anything: it is a label: what it is worth is what the hold of that sum in a sandbox is worth. -/
noncomputable def Tryd.pinned : Pinned := { name := "ytjbdefmhjmkifaadoor", sum := "2d326d615311c7457045a1d99f64c9c63055c14157fb2e6b0ecd8ba6f5948865", checked := Tryd.checked }
namespace Rows
def none {H : Type} : Left H := { results := [], args := [] }

/- WHAT THE LISTED PACKAGE-LEVEL VARIABLES READ AS WHEN THE CALL BEGINS. Each datum BY PROGRAM (the guide's laid-datum.mjs) off the statement by which the dump's own 'gosem.cut.vars' lays the variable. In a bare row this is a premise. The card (YtjbdefmhjmkifaaDoorCards.lean) ties it to the program's text. -/
def laid_schisma_size_logs {H : Type} : DataW H := .agg [.agg [.lit (.int .i64 1000000000), .lit (.int .i64 1000000000)], .agg [.lit (.int .i64 1584962500), .lit (.int .i64 1584962501)], .agg [.lit (.int .i64 2321928094), .lit (.int .i64 2321928095)], .agg [.lit (.int .i64 2807354922), .lit (.int .i64 2807354923)], .agg [.lit (.int .i64 3459431618), .lit (.int .i64 3459431619)], .agg [.lit (.int .i64 3700439718), .lit (.int .i64 3700439719)]]

/-- 'schismalaw11.OrganSinks': WHATEVER THE INPUT: true; the input reads as it did. -/
def organSinksSpec : ChangeSpec := { name := "organSinks", fn := fun _ => fun
  | [d1, d2, d3, d4, d5] => { results := [.lit (.bool true)], args := [d1, d2, d3, d4, d5] }
  | _ => none }
def organSinksRow : OpenClaim := { program := "ytjbdefmhjmkifaadoor", sum := "2d326d615311c7457045a1d99f64c9c63055c14157fb2e6b0ecd8ba6f5948865", func := "schisma/schismalaw11.OrganSinks", spec := "organSinks", unfollowed := true, recurses := true, named := ["schisma/size.logs"], apart := false, laid := [("schisma/size.logs", laid_schisma_size_logs)] }
def OrganSinksSaid : Prop := organSinksRow.holds Tryd.pinned (OpenSpec.ofChange organSinksSpec)

/-- ITS FALSE NEIGHBOUR: 'it returns false'. Refute it at one input. -/
def organSinksWrong : ChangeSpec := { name := "organSinks", fn := fun _ => fun
  | [d1, d2, d3, d4, d5] => { results := [.lit (.bool false)], args := [d1, d2, d3, d4, d5] }
  | _ => none }
def OrganSinksWrongFalsely : Prop := organSinksRow.holds Tryd.pinned (OpenSpec.ofChange organSinksWrong)

/-- 'schismalaw11.OrganRange': WHATEVER THE INPUT: true; the input reads as it did. -/
def organRangeSpec : ChangeSpec := { name := "organRange", fn := fun _ => fun
  | [d1, d2, d3, d4, d5, d6] => { results := [.lit (.bool true)], args := [d1, d2, d3, d4, d5, d6] }
  | _ => none }
def organRangeRow : OpenClaim := { program := "ytjbdefmhjmkifaadoor", sum := "2d326d615311c7457045a1d99f64c9c63055c14157fb2e6b0ecd8ba6f5948865", func := "schisma/schismalaw11.OrganRange", spec := "organRange", unfollowed := true, recurses := true, named := ["schisma/size.logs"], apart := false, laid := [("schisma/size.logs", laid_schisma_size_logs)] }
def OrganRangeSaid : Prop := organRangeRow.holds Tryd.pinned (OpenSpec.ofChange organRangeSpec)

/-- ITS FALSE NEIGHBOUR: 'it returns false'. Refute it at one input. -/
def organRangeWrong : ChangeSpec := { name := "organRange", fn := fun _ => fun
  | [d1, d2, d3, d4, d5, d6] => { results := [.lit (.bool false)], args := [d1, d2, d3, d4, d5, d6] }
  | _ => none }
def OrganRangeWrongFalsely : Prop := organRangeRow.holds Tryd.pinned (OpenSpec.ofChange organRangeWrong)

/-- 'schismalaw11.OrganTogether': WHATEVER THE INPUT: true; the input reads as it did. -/
def organTogetherSpec : ChangeSpec := { name := "organTogether", fn := fun _ => fun
  | [d1, d2, d3, d4, d5] => { results := [.lit (.bool true)], args := [d1, d2, d3, d4, d5] }
  | _ => none }
def organTogetherRow : OpenClaim := { program := "ytjbdefmhjmkifaadoor", sum := "2d326d615311c7457045a1d99f64c9c63055c14157fb2e6b0ecd8ba6f5948865", func := "schisma/schismalaw11.OrganTogether", spec := "organTogether", unfollowed := true, recurses := true, named := ["schisma/size.logs"], apart := false, laid := [("schisma/size.logs", laid_schisma_size_logs)] }
def OrganTogetherSaid : Prop := organTogetherRow.holds Tryd.pinned (OpenSpec.ofChange organTogetherSpec)

/-- ITS FALSE NEIGHBOUR: 'it returns false'. Refute it at one input. -/
def organTogetherWrong : ChangeSpec := { name := "organTogether", fn := fun _ => fun
  | [d1, d2, d3, d4, d5] => { results := [.lit (.bool false)], args := [d1, d2, d3, d4, d5] }
  | _ => none }
def OrganTogetherWrongFalsely : Prop := organTogetherRow.holds Tryd.pinned (OpenSpec.ofChange organTogetherWrong)

/-- 'schismalaw11.OrganWarmth': WHATEVER THE INPUT: true; the input reads as it did. -/
def organWarmthSpec : ChangeSpec := { name := "organWarmth", fn := fun _ => fun
  | [d1, d2, d3, d4, d5] => { results := [.lit (.bool true)], args := [d1, d2, d3, d4, d5] }
  | _ => none }
def organWarmthRow : OpenClaim := { program := "ytjbdefmhjmkifaadoor", sum := "2d326d615311c7457045a1d99f64c9c63055c14157fb2e6b0ecd8ba6f5948865", func := "schisma/schismalaw11.OrganWarmth", spec := "organWarmth", unfollowed := true, recurses := true, named := ["schisma/size.logs"], apart := false, laid := [("schisma/size.logs", laid_schisma_size_logs)] }
def OrganWarmthSaid : Prop := organWarmthRow.holds Tryd.pinned (OpenSpec.ofChange organWarmthSpec)

/-- ITS FALSE NEIGHBOUR: 'it returns false'. Refute it at one input. -/
def organWarmthWrong : ChangeSpec := { name := "organWarmth", fn := fun _ => fun
  | [d1, d2, d3, d4, d5] => { results := [.lit (.bool false)], args := [d1, d2, d3, d4, d5] }
  | _ => none }
def OrganWarmthWrongFalsely : Prop := organWarmthRow.holds Tryd.pinned (OpenSpec.ofChange organWarmthWrong)

/-- 'schismalaw11.OrganSupply': WHATEVER THE INPUT: true; the input reads as it did. -/
def organSupplySpec : ChangeSpec := { name := "organSupply", fn := fun _ => fun
  | [d1, d2, d3, d4] => { results := [.lit (.bool true)], args := [d1, d2, d3, d4] }
  | _ => none }
def organSupplyRow : OpenClaim := { program := "ytjbdefmhjmkifaadoor", sum := "2d326d615311c7457045a1d99f64c9c63055c14157fb2e6b0ecd8ba6f5948865", func := "schisma/schismalaw11.OrganSupply", spec := "organSupply", unfollowed := true, recurses := true, named := ["schisma/size.logs"], apart := false, laid := [("schisma/size.logs", laid_schisma_size_logs)] }
def OrganSupplySaid : Prop := organSupplyRow.holds Tryd.pinned (OpenSpec.ofChange organSupplySpec)

/-- ITS FALSE NEIGHBOUR: 'it returns false'. Refute it at one input. -/
def organSupplyWrong : ChangeSpec := { name := "organSupply", fn := fun _ => fun
  | [d1, d2, d3, d4] => { results := [.lit (.bool false)], args := [d1, d2, d3, d4] }
  | _ => none }
def OrganSupplyWrongFalsely : Prop := organSupplyRow.holds Tryd.pinned (OpenSpec.ofChange organSupplyWrong)

/-- 'schismalaw11.OrganChord': WHATEVER THE INPUT: true; the input reads as it did. -/
def organChordSpec : ChangeSpec := { name := "organChord", fn := fun _ => fun
  | [d1, d2, d3, d4] => { results := [.lit (.bool true)], args := [d1, d2, d3, d4] }
  | _ => none }
def organChordRow : OpenClaim := { program := "ytjbdefmhjmkifaadoor", sum := "2d326d615311c7457045a1d99f64c9c63055c14157fb2e6b0ecd8ba6f5948865", func := "schisma/schismalaw11.OrganChord", spec := "organChord", unfollowed := true, recurses := true, named := ["schisma/size.logs"], apart := false, laid := [("schisma/size.logs", laid_schisma_size_logs)] }
def OrganChordSaid : Prop := organChordRow.holds Tryd.pinned (OpenSpec.ofChange organChordSpec)

/-- ITS FALSE NEIGHBOUR: 'it returns false'. Refute it at one input. -/
def organChordWrong : ChangeSpec := { name := "organChord", fn := fun _ => fun
  | [d1, d2, d3, d4] => { results := [.lit (.bool false)], args := [d1, d2, d3, d4] }
  | _ => none }
def OrganChordWrongFalsely : Prop := organChordRow.holds Tryd.pinned (OpenSpec.ofChange organChordWrong)

/-- 'schismalaw11.OrganSubsets': WHATEVER THE INPUT: true; the input reads as it did. -/
def organSubsetsSpec : ChangeSpec := { name := "organSubsets", fn := fun _ => fun
  | [d1, d2, d3] => { results := [.lit (.bool true)], args := [d1, d2, d3] }
  | _ => none }
def organSubsetsRow : OpenClaim := { program := "ytjbdefmhjmkifaadoor", sum := "2d326d615311c7457045a1d99f64c9c63055c14157fb2e6b0ecd8ba6f5948865", func := "schisma/schismalaw11.OrganSubsets", spec := "organSubsets", unfollowed := true, recurses := true, named := ["schisma/size.logs"], apart := false, laid := [("schisma/size.logs", laid_schisma_size_logs)] }
def OrganSubsetsSaid : Prop := organSubsetsRow.holds Tryd.pinned (OpenSpec.ofChange organSubsetsSpec)

/-- ITS FALSE NEIGHBOUR: 'it returns false'. Refute it at one input. -/
def organSubsetsWrong : ChangeSpec := { name := "organSubsets", fn := fun _ => fun
  | [d1, d2, d3] => { results := [.lit (.bool false)], args := [d1, d2, d3] }
  | _ => none }
def OrganSubsetsWrongFalsely : Prop := organSubsetsRow.holds Tryd.pinned (OpenSpec.ofChange organSubsetsWrong)

/-- 'schismalaw11.OrganMatchesReference': WHATEVER THE INPUT: true; the input reads as it did. -/
def organMatchesReferenceSpec : ChangeSpec := { name := "organMatchesReference", fn := fun _ => fun
  | [d1, d2, d3, d4, d5, d6] => { results := [.lit (.bool true)], args := [d1, d2, d3, d4, d5, d6] }
  | _ => none }
def organMatchesReferenceRow : OpenClaim := { program := "ytjbdefmhjmkifaadoor", sum := "2d326d615311c7457045a1d99f64c9c63055c14157fb2e6b0ecd8ba6f5948865", func := "schisma/schismalaw11.OrganMatchesReference", spec := "organMatchesReference", unfollowed := true, recurses := true, named := ["schisma/size.logs"], apart := false, laid := [("schisma/size.logs", laid_schisma_size_logs)] }
def OrganMatchesReferenceSaid : Prop := organMatchesReferenceRow.holds Tryd.pinned (OpenSpec.ofChange organMatchesReferenceSpec)

/-- ITS FALSE NEIGHBOUR: 'it returns false'. Refute it at one input. -/
def organMatchesReferenceWrong : ChangeSpec := { name := "organMatchesReference", fn := fun _ => fun
  | [d1, d2, d3, d4, d5, d6] => { results := [.lit (.bool false)], args := [d1, d2, d3, d4, d5, d6] }
  | _ => none }
def OrganMatchesReferenceWrongFalsely : Prop := organMatchesReferenceRow.holds Tryd.pinned (OpenSpec.ofChange organMatchesReferenceWrong)

/- THE SECOND FORM. 'bulk': how many values and letters a reading holds, each counted each time it is reached (what is shared counts as often as it is met; a slice's spare places count too). A statement '..UptoSaid' is the law's where the arguments, and the package variables that the reading takes, are together of bulk at most 1048576: NARROWER than '..Said'. Prove '..Said' where nothing that the law and all that it calls make is longer than what came in: it says more and counts as full. Else prove '..UptoSaid'. A law counts once. -/
mutual
def uptoBulk {H : Type} : DataW H → Nat
  | .lit (.string bytes) => bytes.length + 1
  | .lit _ => 1
  | .nil => 1
  | .ptr d => uptoBulk d + 1
  | .slice elems spare => uptoBulkAll elems + uptoBulkAll spare + 1
  | .agg parts => uptoBulkAll parts + 1
  | .iface _ d => uptoBulk d + 1
  | .map entries => uptoBulkEntries entries + 1
  | .held _ => 1
def uptoBulkAll {H : Type} : List (DataW H) → Nat
  | [] => 0
  | d :: r => uptoBulk d + uptoBulkAll r
def uptoBulkEntries {H : Type} : List (Lit × DataW H) → Nat
  | [] => 0
  | x :: r => uptoBulkEntry x + uptoBulkEntries r
def uptoBulkEntry {H : Type} : Lit × DataW H → Nat
  | (.string bytes, d) => bytes.length + uptoBulk d + 1
  | (_, d) => uptoBulk d + 1
 end
def uptoSmall : (H : Type) → List (DataW H) → Bool := fun _ ds => decide (uptoBulkAll ds ≤ 1048576)
def OpenSpec.upto (s : _root_.Go.ChangeSpec) : _root_.Go.OpenSpec := { _root_.Go.OpenSpec.ofChange s with cond := some uptoSmall }

/-- 'schismalaw11.OrganSinks', WHERE WHAT IT READS IS OF BULK AT MOST 1048576: true; the input reads as it did. -/
def organSinksUptoRow : OpenClaim := { program := "ytjbdefmhjmkifaadoor", sum := "2d326d615311c7457045a1d99f64c9c63055c14157fb2e6b0ecd8ba6f5948865", func := "schisma/schismalaw11.OrganSinks", spec := "organSinks", unfollowed := true, recurses := true, named := ["schisma/size.logs"], apart := false, laid := [("schisma/size.logs", laid_schisma_size_logs)], narrowed := true }
def OrganSinksUptoSaid : Prop := organSinksUptoRow.holds Tryd.pinned (OpenSpec.upto organSinksSpec)

/-- 'schismalaw11.OrganRange', WHERE WHAT IT READS IS OF BULK AT MOST 1048576: true; the input reads as it did. -/
def organRangeUptoRow : OpenClaim := { program := "ytjbdefmhjmkifaadoor", sum := "2d326d615311c7457045a1d99f64c9c63055c14157fb2e6b0ecd8ba6f5948865", func := "schisma/schismalaw11.OrganRange", spec := "organRange", unfollowed := true, recurses := true, named := ["schisma/size.logs"], apart := false, laid := [("schisma/size.logs", laid_schisma_size_logs)], narrowed := true }
def OrganRangeUptoSaid : Prop := organRangeUptoRow.holds Tryd.pinned (OpenSpec.upto organRangeSpec)

/-- 'schismalaw11.OrganTogether', WHERE WHAT IT READS IS OF BULK AT MOST 1048576: true; the input reads as it did. -/
def organTogetherUptoRow : OpenClaim := { program := "ytjbdefmhjmkifaadoor", sum := "2d326d615311c7457045a1d99f64c9c63055c14157fb2e6b0ecd8ba6f5948865", func := "schisma/schismalaw11.OrganTogether", spec := "organTogether", unfollowed := true, recurses := true, named := ["schisma/size.logs"], apart := false, laid := [("schisma/size.logs", laid_schisma_size_logs)], narrowed := true }
def OrganTogetherUptoSaid : Prop := organTogetherUptoRow.holds Tryd.pinned (OpenSpec.upto organTogetherSpec)

/-- 'schismalaw11.OrganWarmth', WHERE WHAT IT READS IS OF BULK AT MOST 1048576: true; the input reads as it did. -/
def organWarmthUptoRow : OpenClaim := { program := "ytjbdefmhjmkifaadoor", sum := "2d326d615311c7457045a1d99f64c9c63055c14157fb2e6b0ecd8ba6f5948865", func := "schisma/schismalaw11.OrganWarmth", spec := "organWarmth", unfollowed := true, recurses := true, named := ["schisma/size.logs"], apart := false, laid := [("schisma/size.logs", laid_schisma_size_logs)], narrowed := true }
def OrganWarmthUptoSaid : Prop := organWarmthUptoRow.holds Tryd.pinned (OpenSpec.upto organWarmthSpec)

/-- 'schismalaw11.OrganSupply', WHERE WHAT IT READS IS OF BULK AT MOST 1048576: true; the input reads as it did. -/
def organSupplyUptoRow : OpenClaim := { program := "ytjbdefmhjmkifaadoor", sum := "2d326d615311c7457045a1d99f64c9c63055c14157fb2e6b0ecd8ba6f5948865", func := "schisma/schismalaw11.OrganSupply", spec := "organSupply", unfollowed := true, recurses := true, named := ["schisma/size.logs"], apart := false, laid := [("schisma/size.logs", laid_schisma_size_logs)], narrowed := true }
def OrganSupplyUptoSaid : Prop := organSupplyUptoRow.holds Tryd.pinned (OpenSpec.upto organSupplySpec)

/-- 'schismalaw11.OrganChord', WHERE WHAT IT READS IS OF BULK AT MOST 1048576: true; the input reads as it did. -/
def organChordUptoRow : OpenClaim := { program := "ytjbdefmhjmkifaadoor", sum := "2d326d615311c7457045a1d99f64c9c63055c14157fb2e6b0ecd8ba6f5948865", func := "schisma/schismalaw11.OrganChord", spec := "organChord", unfollowed := true, recurses := true, named := ["schisma/size.logs"], apart := false, laid := [("schisma/size.logs", laid_schisma_size_logs)], narrowed := true }
def OrganChordUptoSaid : Prop := organChordUptoRow.holds Tryd.pinned (OpenSpec.upto organChordSpec)

/-- 'schismalaw11.OrganSubsets', WHERE WHAT IT READS IS OF BULK AT MOST 1048576: true; the input reads as it did. -/
def organSubsetsUptoRow : OpenClaim := { program := "ytjbdefmhjmkifaadoor", sum := "2d326d615311c7457045a1d99f64c9c63055c14157fb2e6b0ecd8ba6f5948865", func := "schisma/schismalaw11.OrganSubsets", spec := "organSubsets", unfollowed := true, recurses := true, named := ["schisma/size.logs"], apart := false, laid := [("schisma/size.logs", laid_schisma_size_logs)], narrowed := true }
def OrganSubsetsUptoSaid : Prop := organSubsetsUptoRow.holds Tryd.pinned (OpenSpec.upto organSubsetsSpec)

/-- 'schismalaw11.OrganMatchesReference', WHERE WHAT IT READS IS OF BULK AT MOST 1048576: true; the input reads as it did. -/
def organMatchesReferenceUptoRow : OpenClaim := { program := "ytjbdefmhjmkifaadoor", sum := "2d326d615311c7457045a1d99f64c9c63055c14157fb2e6b0ecd8ba6f5948865", func := "schisma/schismalaw11.OrganMatchesReference", spec := "organMatchesReference", unfollowed := true, recurses := true, named := ["schisma/size.logs"], apart := false, laid := [("schisma/size.logs", laid_schisma_size_logs)], narrowed := true }
def OrganMatchesReferenceUptoSaid : Prop := organMatchesReferenceUptoRow.holds Tryd.pinned (OpenSpec.upto organMatchesReferenceSpec)

end Rows
end Go.Proofs.YtjbdefmhjmkifaaDoor
