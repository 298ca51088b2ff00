/-
  No cell of these rows narrows 'for every input' (looked for: loops, veiled, ifaces, maps, wideKeys, modest, calm, conditions, laid).
  DERIVED. THE GIVEN ROWS OF THIS SEAT. 8 by the template 'for every input the law returns true; each argument reads behind the call as it read before'; 0 by the template 'total and deterministic' (their statements: YtndaljjljmmlcaaTotals.lean).
  GIVEN WITH THE SEED: the statements are not yours to turn. If you find one false, say at which input.
  Laid BY PROGRAM, IN A SANDBOX (cutbox-rows.mjs): the forced cells as the released guide's own fill.sh prints them over the translation 2be3aa31d1c76f57… (all of the seat's roots in one cut). By AI agents, Wed Nov 11 2026. No macro, syntax, notation, axiom, sorry.
-/
import Derived.Test.YtndaljjljmmlcaaChecked
import GoSem.Claim
import GoSem.ClaimJoined
import GoSem.ClaimMapViews
import Derived.JoinedTies
import Derived.KernelRfl
namespace Go.Proofs.Ytndaljjljmmlcaa
/- THE CELL 'sum', in the pinned program and in every row, IS THE sha256 OF THE DUMP (.gsa) THAT YtndaljjljmmlcaaProg.lean LOADS. Nothing in Lean hashes anything: it is a label: what it is worth is what the hold of that sum in a sandbox is worth. -/
noncomputable def Try.pinned : Pinned := { name := "ytndaljjljmmlcaa", sum := "2be3aa31d1c76f57ce5613679749b1d25652ca940c7310178be947b60b5f43f0", checked := Try.checked }
namespace Rows
def none {H : Type} : Left H := { results := [], args := [] }

/-- 'schismalaw16.ReadingMatchesReference': WHATEVER THE INPUT: true; the input reads as it did. -/
def readingMatchesReferenceSpec : ChangeSpec := { name := "readingMatchesReference", fn := fun _ => fun
  | [d1, d2, d3, d4, d5] => { results := [.lit (.bool true)], args := [d1, d2, d3, d4, d5] }
  | _ => none }
def readingMatchesReferenceRow : OpenClaim := { program := "ytndaljjljmmlcaa", sum := "2be3aa31d1c76f57ce5613679749b1d25652ca940c7310178be947b60b5f43f0", func := "schisma/schismalaw16.ReadingMatchesReference", spec := "readingMatchesReference", unfollowed := true, recurses := true, apart := false }
def ReadingMatchesReferenceSaid : Prop := readingMatchesReferenceRow.holds Try.pinned (OpenSpec.ofChange readingMatchesReferenceSpec)

/-- ITS FALSE NEIGHBOUR: 'it returns false'. Refute it at one input. -/
def readingMatchesReferenceWrong : ChangeSpec := { name := "readingMatchesReference", fn := fun _ => fun
  | [d1, d2, d3, d4, d5] => { results := [.lit (.bool false)], args := [d1, d2, d3, d4, d5] }
  | _ => none }
def ReadingMatchesReferenceWrongFalsely : Prop := readingMatchesReferenceRow.holds Try.pinned (OpenSpec.ofChange readingMatchesReferenceWrong)

/-- 'schismalaw16.ReadingSolutions': WHATEVER THE INPUT: true; the input reads as it did. -/
def readingSolutionsSpec : ChangeSpec := { name := "readingSolutions", fn := fun _ => fun
  | [d1, d2, d3] => { results := [.lit (.bool true)], args := [d1, d2, d3] }
  | _ => none }
def readingSolutionsRow : OpenClaim := { program := "ytndaljjljmmlcaa", sum := "2be3aa31d1c76f57ce5613679749b1d25652ca940c7310178be947b60b5f43f0", func := "schisma/schismalaw16.ReadingSolutions", spec := "readingSolutions", unfollowed := true, recurses := true, apart := false }
def ReadingSolutionsSaid : Prop := readingSolutionsRow.holds Try.pinned (OpenSpec.ofChange readingSolutionsSpec)

/-- ITS FALSE NEIGHBOUR: 'it returns false'. Refute it at one input. -/
def readingSolutionsWrong : ChangeSpec := { name := "readingSolutions", fn := fun _ => fun
  | [d1, d2, d3] => { results := [.lit (.bool false)], args := [d1, d2, d3] }
  | _ => none }
def ReadingSolutionsWrongFalsely : Prop := readingSolutionsRow.holds Try.pinned (OpenSpec.ofChange readingSolutionsWrong)

/-- 'schismalaw16.ReadingContradictions': WHATEVER THE INPUT: true; the input reads as it did. -/
def readingContradictionsSpec : ChangeSpec := { name := "readingContradictions", fn := fun _ => fun
  | [d1, d2, d3, d4] => { results := [.lit (.bool true)], args := [d1, d2, d3, d4] }
  | _ => none }
def readingContradictionsRow : OpenClaim := { program := "ytndaljjljmmlcaa", sum := "2be3aa31d1c76f57ce5613679749b1d25652ca940c7310178be947b60b5f43f0", func := "schisma/schismalaw16.ReadingContradictions", spec := "readingContradictions", unfollowed := true, recurses := true, apart := false }
def ReadingContradictionsSaid : Prop := readingContradictionsRow.holds Try.pinned (OpenSpec.ofChange readingContradictionsSpec)

/-- ITS FALSE NEIGHBOUR: 'it returns false'. Refute it at one input. -/
def readingContradictionsWrong : ChangeSpec := { name := "readingContradictions", fn := fun _ => fun
  | [d1, d2, d3, d4] => { results := [.lit (.bool false)], args := [d1, d2, d3, d4] }
  | _ => none }
def ReadingContradictionsWrongFalsely : Prop := readingContradictionsRow.holds Try.pinned (OpenSpec.ofChange readingContradictionsWrong)

/-- 'schismalaw16.ReadingBounds': WHATEVER THE INPUT: true; the input reads as it did. -/
def readingBoundsSpec : ChangeSpec := { name := "readingBounds", fn := fun _ => fun
  | [d1, d2, d3, d4, d5] => { results := [.lit (.bool true)], args := [d1, d2, d3, d4, d5] }
  | _ => none }
def readingBoundsRow : OpenClaim := { program := "ytndaljjljmmlcaa", sum := "2be3aa31d1c76f57ce5613679749b1d25652ca940c7310178be947b60b5f43f0", func := "schisma/schismalaw16.ReadingBounds", spec := "readingBounds", unfollowed := true, recurses := true, apart := false }
def ReadingBoundsSaid : Prop := readingBoundsRow.holds Try.pinned (OpenSpec.ofChange readingBoundsSpec)

/-- ITS FALSE NEIGHBOUR: 'it returns false'. Refute it at one input. -/
def readingBoundsWrong : ChangeSpec := { name := "readingBounds", fn := fun _ => fun
  | [d1, d2, d3, d4, d5] => { results := [.lit (.bool false)], args := [d1, d2, d3, d4, d5] }
  | _ => none }
def ReadingBoundsWrongFalsely : Prop := readingBoundsRow.holds Try.pinned (OpenSpec.ofChange readingBoundsWrong)

/-- 'schismalaw16.ReadingChains': WHATEVER THE INPUT: true; the input reads as it did. -/
def readingChainsSpec : ChangeSpec := { name := "readingChains", fn := fun _ => fun
  | [d1, d2, d3, d4, d5] => { results := [.lit (.bool true)], args := [d1, d2, d3, d4, d5] }
  | _ => none }
def readingChainsRow : OpenClaim := { program := "ytndaljjljmmlcaa", sum := "2be3aa31d1c76f57ce5613679749b1d25652ca940c7310178be947b60b5f43f0", func := "schisma/schismalaw16.ReadingChains", spec := "readingChains", unfollowed := true, recurses := true, apart := false }
def ReadingChainsSaid : Prop := readingChainsRow.holds Try.pinned (OpenSpec.ofChange readingChainsSpec)

/-- ITS FALSE NEIGHBOUR: 'it returns false'. Refute it at one input. -/
def readingChainsWrong : ChangeSpec := { name := "readingChains", fn := fun _ => fun
  | [d1, d2, d3, d4, d5] => { results := [.lit (.bool false)], args := [d1, d2, d3, d4, d5] }
  | _ => none }
def ReadingChainsWrongFalsely : Prop := readingChainsRow.holds Try.pinned (OpenSpec.ofChange readingChainsWrong)

/-- 'schismalaw16.ReadingMore': WHATEVER THE INPUT: true; the input reads as it did. -/
def readingMoreSpec : ChangeSpec := { name := "readingMore", fn := fun _ => fun
  | [d1, d2, d3, d4, d5] => { results := [.lit (.bool true)], args := [d1, d2, d3, d4, d5] }
  | _ => none }
def readingMoreRow : OpenClaim := { program := "ytndaljjljmmlcaa", sum := "2be3aa31d1c76f57ce5613679749b1d25652ca940c7310178be947b60b5f43f0", func := "schisma/schismalaw16.ReadingMore", spec := "readingMore", unfollowed := true, recurses := true, apart := false }
def ReadingMoreSaid : Prop := readingMoreRow.holds Try.pinned (OpenSpec.ofChange readingMoreSpec)

/-- ITS FALSE NEIGHBOUR: 'it returns false'. Refute it at one input. -/
def readingMoreWrong : ChangeSpec := { name := "readingMore", fn := fun _ => fun
  | [d1, d2, d3, d4, d5] => { results := [.lit (.bool false)], args := [d1, d2, d3, d4, d5] }
  | _ => none }
def ReadingMoreWrongFalsely : Prop := readingMoreRow.holds Try.pinned (OpenSpec.ofChange readingMoreWrong)

/-- 'schismalaw16.ReadingFollows': WHATEVER THE INPUT: true; the input reads as it did. -/
def readingFollowsSpec : ChangeSpec := { name := "readingFollows", fn := fun _ => fun
  | [d1, d2, d3, d4, d5, d6] => { results := [.lit (.bool true)], args := [d1, d2, d3, d4, d5, d6] }
  | _ => none }
def readingFollowsRow : OpenClaim := { program := "ytndaljjljmmlcaa", sum := "2be3aa31d1c76f57ce5613679749b1d25652ca940c7310178be947b60b5f43f0", func := "schisma/schismalaw16.ReadingFollows", spec := "readingFollows", unfollowed := true, recurses := true, apart := false }
def ReadingFollowsSaid : Prop := readingFollowsRow.holds Try.pinned (OpenSpec.ofChange readingFollowsSpec)

/-- ITS FALSE NEIGHBOUR: 'it returns false'. Refute it at one input. -/
def readingFollowsWrong : ChangeSpec := { name := "readingFollows", fn := fun _ => fun
  | [d1, d2, d3, d4, d5, d6] => { results := [.lit (.bool false)], args := [d1, d2, d3, d4, d5, d6] }
  | _ => none }
def ReadingFollowsWrongFalsely : Prop := readingFollowsRow.holds Try.pinned (OpenSpec.ofChange readingFollowsWrong)

/-- 'schismalaw16.ReadingOrder': WHATEVER THE INPUT: true; the input reads as it did. -/
def readingOrderSpec : ChangeSpec := { name := "readingOrder", fn := fun _ => fun
  | [d1, d2, d3, d4, d5, d6] => { results := [.lit (.bool true)], args := [d1, d2, d3, d4, d5, d6] }
  | _ => none }
def readingOrderRow : OpenClaim := { program := "ytndaljjljmmlcaa", sum := "2be3aa31d1c76f57ce5613679749b1d25652ca940c7310178be947b60b5f43f0", func := "schisma/schismalaw16.ReadingOrder", spec := "readingOrder", unfollowed := true, recurses := true, apart := false }
def ReadingOrderSaid : Prop := readingOrderRow.holds Try.pinned (OpenSpec.ofChange readingOrderSpec)

/-- ITS FALSE NEIGHBOUR: 'it returns false'. Refute it at one input. -/
def readingOrderWrong : ChangeSpec := { name := "readingOrder", fn := fun _ => fun
  | [d1, d2, d3, d4, d5, d6] => { results := [.lit (.bool false)], args := [d1, d2, d3, d4, d5, d6] }
  | _ => none }
def ReadingOrderWrongFalsely : Prop := readingOrderRow.holds Try.pinned (OpenSpec.ofChange readingOrderWrong)

/- THE SECOND FORM. 'bulk': how many values and letters a reading holds, each counted each time it is reached (what is shared counts as often as it is met; a slice's spare places count too). A statement '..UptoSaid' is the law's where the arguments, and the package variables that the reading takes, are together of bulk at most 1048576: NARROWER than '..Said'. Prove '..Said' where nothing that the law and all that it calls make is longer than what came in: it says more and counts as full. Else prove '..UptoSaid'. A law counts once. -/
mutual
def uptoBulk {H : Type} : DataW H → Nat
  | .lit (.string bytes) => bytes.length + 1
  | .lit _ => 1
  | .nil => 1
  | .ptr d => uptoBulk d + 1
  | .slice elems spare => uptoBulkAll elems + uptoBulkAll spare + 1
  | .agg parts => uptoBulkAll parts + 1
  | .iface _ d => uptoBulk d + 1
  | .map entries => uptoBulkEntries entries + 1
  | .held _ => 1
def uptoBulkAll {H : Type} : List (DataW H) → Nat
  | [] => 0
  | d :: r => uptoBulk d + uptoBulkAll r
def uptoBulkEntries {H : Type} : List (Lit × DataW H) → Nat
  | [] => 0
  | x :: r => uptoBulkEntry x + uptoBulkEntries r
def uptoBulkEntry {H : Type} : Lit × DataW H → Nat
  | (.string bytes, d) => bytes.length + uptoBulk d + 1
  | (_, d) => uptoBulk d + 1
 end
def uptoSmall : (H : Type) → List (DataW H) → Bool := fun _ ds => decide (uptoBulkAll ds ≤ 1048576)
def OpenSpec.upto (s : _root_.Go.ChangeSpec) : _root_.Go.OpenSpec := { _root_.Go.OpenSpec.ofChange s with cond := some uptoSmall }

/-- 'schismalaw16.ReadingMatchesReference', WHERE WHAT IT READS IS OF BULK AT MOST 1048576: true; the input reads as it did. -/
def readingMatchesReferenceUptoRow : OpenClaim := { program := "ytndaljjljmmlcaa", sum := "2be3aa31d1c76f57ce5613679749b1d25652ca940c7310178be947b60b5f43f0", func := "schisma/schismalaw16.ReadingMatchesReference", spec := "readingMatchesReference", unfollowed := true, recurses := true, apart := false, narrowed := true }
def ReadingMatchesReferenceUptoSaid : Prop := readingMatchesReferenceUptoRow.holds Try.pinned (OpenSpec.upto readingMatchesReferenceSpec)

/-- 'schismalaw16.ReadingSolutions', WHERE WHAT IT READS IS OF BULK AT MOST 1048576: true; the input reads as it did. -/
def readingSolutionsUptoRow : OpenClaim := { program := "ytndaljjljmmlcaa", sum := "2be3aa31d1c76f57ce5613679749b1d25652ca940c7310178be947b60b5f43f0", func := "schisma/schismalaw16.ReadingSolutions", spec := "readingSolutions", unfollowed := true, recurses := true, apart := false, narrowed := true }
def ReadingSolutionsUptoSaid : Prop := readingSolutionsUptoRow.holds Try.pinned (OpenSpec.upto readingSolutionsSpec)

/-- 'schismalaw16.ReadingContradictions', WHERE WHAT IT READS IS OF BULK AT MOST 1048576: true; the input reads as it did. -/
def readingContradictionsUptoRow : OpenClaim := { program := "ytndaljjljmmlcaa", sum := "2be3aa31d1c76f57ce5613679749b1d25652ca940c7310178be947b60b5f43f0", func := "schisma/schismalaw16.ReadingContradictions", spec := "readingContradictions", unfollowed := true, recurses := true, apart := false, narrowed := true }
def ReadingContradictionsUptoSaid : Prop := readingContradictionsUptoRow.holds Try.pinned (OpenSpec.upto readingContradictionsSpec)

/-- 'schismalaw16.ReadingBounds', WHERE WHAT IT READS IS OF BULK AT MOST 1048576: true; the input reads as it did. -/
def readingBoundsUptoRow : OpenClaim := { program := "ytndaljjljmmlcaa", sum := "2be3aa31d1c76f57ce5613679749b1d25652ca940c7310178be947b60b5f43f0", func := "schisma/schismalaw16.ReadingBounds", spec := "readingBounds", unfollowed := true, recurses := true, apart := false, narrowed := true }
def ReadingBoundsUptoSaid : Prop := readingBoundsUptoRow.holds Try.pinned (OpenSpec.upto readingBoundsSpec)

/-- 'schismalaw16.ReadingChains', WHERE WHAT IT READS IS OF BULK AT MOST 1048576: true; the input reads as it did. -/
def readingChainsUptoRow : OpenClaim := { program := "ytndaljjljmmlcaa", sum := "2be3aa31d1c76f57ce5613679749b1d25652ca940c7310178be947b60b5f43f0", func := "schisma/schismalaw16.ReadingChains", spec := "readingChains", unfollowed := true, recurses := true, apart := false, narrowed := true }
def ReadingChainsUptoSaid : Prop := readingChainsUptoRow.holds Try.pinned (OpenSpec.upto readingChainsSpec)

/-- 'schismalaw16.ReadingMore', WHERE WHAT IT READS IS OF BULK AT MOST 1048576: true; the input reads as it did. -/
def readingMoreUptoRow : OpenClaim := { program := "ytndaljjljmmlcaa", sum := "2be3aa31d1c76f57ce5613679749b1d25652ca940c7310178be947b60b5f43f0", func := "schisma/schismalaw16.ReadingMore", spec := "readingMore", unfollowed := true, recurses := true, apart := false, narrowed := true }
def ReadingMoreUptoSaid : Prop := readingMoreUptoRow.holds Try.pinned (OpenSpec.upto readingMoreSpec)

/-- 'schismalaw16.ReadingFollows', WHERE WHAT IT READS IS OF BULK AT MOST 1048576: true; the input reads as it did. -/
def readingFollowsUptoRow : OpenClaim := { program := "ytndaljjljmmlcaa", sum := "2be3aa31d1c76f57ce5613679749b1d25652ca940c7310178be947b60b5f43f0", func := "schisma/schismalaw16.ReadingFollows", spec := "readingFollows", unfollowed := true, recurses := true, apart := false, narrowed := true }
def ReadingFollowsUptoSaid : Prop := readingFollowsUptoRow.holds Try.pinned (OpenSpec.upto readingFollowsSpec)

/-- 'schismalaw16.ReadingOrder', WHERE WHAT IT READS IS OF BULK AT MOST 1048576: true; the input reads as it did. -/
def readingOrderUptoRow : OpenClaim := { program := "ytndaljjljmmlcaa", sum := "2be3aa31d1c76f57ce5613679749b1d25652ca940c7310178be947b60b5f43f0", func := "schisma/schismalaw16.ReadingOrder", spec := "readingOrder", unfollowed := true, recurses := true, apart := false, narrowed := true }
def ReadingOrderUptoSaid : Prop := readingOrderUptoRow.holds Try.pinned (OpenSpec.upto readingOrderSpec)

end Rows
end Go.Proofs.Ytndaljjljmmlcaa
