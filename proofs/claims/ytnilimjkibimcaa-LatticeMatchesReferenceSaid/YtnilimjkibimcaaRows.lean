/-
  No cell of these rows narrows 'for every input' (looked for: loops, veiled, ifaces, maps, wideKeys, modest, calm, conditions, laid).
  DERIVED. THE GIVEN ROWS OF THIS SEAT. 21 by the template 'for every input the law returns true; each argument reads behind the call as it read before'; 0 by the template 'total and deterministic' (their statements: YtnilimjkibimcaaTotals.lean).
  GIVEN WITH THE SEED: the statements are not yours to turn. If you find one false, say at which input.
  Laid BY PROGRAM, IN A SANDBOX (cutbox-rows.mjs): the forced cells as the released guide's own fill.sh prints them over the translation 132c735209e1718d… (all of the seat's roots in one cut). By AI agents, Wed Nov 11 2026. No macro, syntax, notation, axiom, sorry.
-/
import Derived.Test.YtnilimjkibimcaaChecked
import GoSem.Claim
import GoSem.ClaimJoined
import GoSem.ClaimMapViews
import Derived.JoinedTies
import Derived.KernelRfl
namespace Go.Proofs.Ytnilimjkibimcaa
/- THE CELL 'sum', in the pinned program and in every row, IS THE sha256 OF THE DUMP (.gsa) THAT YtnilimjkibimcaaProg.lean LOADS. Nothing in Lean hashes anything: it is a label: what it is worth is what the hold of that sum in a sandbox is worth. -/
noncomputable def Try.pinned : Pinned := { name := "ytnilimjkibimcaa", sum := "132c735209e1718dabd7efa3300e2b99d7987f73fe2665ba0a6a6db22fdaf7ea", checked := Try.checked }
namespace Rows
def none {H : Type} : Left H := { results := [], args := [] }

/-- 'schismalaw05.MatrixMatchesReference': WHATEVER THE INPUT: true; the input reads as it did. -/
def matrixMatchesReferenceSpec : ChangeSpec := { name := "matrixMatchesReference", fn := fun _ => fun
  | [d] => { results := [.lit (.bool true)], args := [d] }
  | _ => none }
def matrixMatchesReferenceRow : OpenClaim := { program := "ytnilimjkibimcaa", sum := "132c735209e1718dabd7efa3300e2b99d7987f73fe2665ba0a6a6db22fdaf7ea", func := "schisma/schismalaw05.MatrixMatchesReference", spec := "matrixMatchesReference", unfollowed := true, recurses := true, apart := false }
def MatrixMatchesReferenceSaid : Prop := matrixMatchesReferenceRow.holds Try.pinned (OpenSpec.ofChange matrixMatchesReferenceSpec)

/-- ITS FALSE NEIGHBOUR: 'it returns false'. Refute it at one input. -/
def matrixMatchesReferenceWrong : ChangeSpec := { name := "matrixMatchesReference", fn := fun _ => fun
  | [d] => { results := [.lit (.bool false)], args := [d] }
  | _ => none }
def MatrixMatchesReferenceWrongFalsely : Prop := matrixMatchesReferenceRow.holds Try.pinned (OpenSpec.ofChange matrixMatchesReferenceWrong)

/-- 'schismalaw05.MatrixNormal': WHATEVER THE INPUT: true; the input reads as it did. -/
def matrixNormalSpec : ChangeSpec := { name := "matrixNormal", fn := fun _ => fun
  | [d] => { results := [.lit (.bool true)], args := [d] }
  | _ => none }
def matrixNormalRow : OpenClaim := { program := "ytnilimjkibimcaa", sum := "132c735209e1718dabd7efa3300e2b99d7987f73fe2665ba0a6a6db22fdaf7ea", func := "schisma/schismalaw05.MatrixNormal", spec := "matrixNormal", unfollowed := true, recurses := true, apart := false }
def MatrixNormalSaid : Prop := matrixNormalRow.holds Try.pinned (OpenSpec.ofChange matrixNormalSpec)

/-- ITS FALSE NEIGHBOUR: 'it returns false'. Refute it at one input. -/
def matrixNormalWrong : ChangeSpec := { name := "matrixNormal", fn := fun _ => fun
  | [d] => { results := [.lit (.bool false)], args := [d] }
  | _ => none }
def MatrixNormalWrongFalsely : Prop := matrixNormalRow.holds Try.pinned (OpenSpec.ofChange matrixNormalWrong)

/-- 'schismalaw05.MatrixSame': WHATEVER THE INPUT: true; the input reads as it did. -/
def matrixSameSpec : ChangeSpec := { name := "matrixSame", fn := fun _ => fun
  | [d1, d2, d3, d4] => { results := [.lit (.bool true)], args := [d1, d2, d3, d4] }
  | _ => none }
def matrixSameRow : OpenClaim := { program := "ytnilimjkibimcaa", sum := "132c735209e1718dabd7efa3300e2b99d7987f73fe2665ba0a6a6db22fdaf7ea", func := "schisma/schismalaw05.MatrixSame", spec := "matrixSame", unfollowed := true, recurses := true, apart := false }
def MatrixSameSaid : Prop := matrixSameRow.holds Try.pinned (OpenSpec.ofChange matrixSameSpec)

/-- ITS FALSE NEIGHBOUR: 'it returns false'. Refute it at one input. -/
def matrixSameWrong : ChangeSpec := { name := "matrixSame", fn := fun _ => fun
  | [d1, d2, d3, d4] => { results := [.lit (.bool false)], args := [d1, d2, d3, d4] }
  | _ => none }
def MatrixSameWrongFalsely : Prop := matrixSameRow.holds Try.pinned (OpenSpec.ofChange matrixSameWrong)

/-- 'schismalaw05.MatrixRank': WHATEVER THE INPUT: true; the input reads as it did. -/
def matrixRankSpec : ChangeSpec := { name := "matrixRank", fn := fun _ => fun
  | [d] => { results := [.lit (.bool true)], args := [d] }
  | _ => none }
def matrixRankRow : OpenClaim := { program := "ytnilimjkibimcaa", sum := "132c735209e1718dabd7efa3300e2b99d7987f73fe2665ba0a6a6db22fdaf7ea", func := "schisma/schismalaw05.MatrixRank", spec := "matrixRank", unfollowed := true, recurses := true, apart := false }
def MatrixRankSaid : Prop := matrixRankRow.holds Try.pinned (OpenSpec.ofChange matrixRankSpec)

/-- ITS FALSE NEIGHBOUR: 'it returns false'. Refute it at one input. -/
def matrixRankWrong : ChangeSpec := { name := "matrixRank", fn := fun _ => fun
  | [d] => { results := [.lit (.bool false)], args := [d] }
  | _ => none }
def MatrixRankWrongFalsely : Prop := matrixRankRow.holds Try.pinned (OpenSpec.ofChange matrixRankWrong)

/-- 'schismalaw05.MatrixKernel': WHATEVER THE INPUT: true; the input reads as it did. -/
def matrixKernelSpec : ChangeSpec := { name := "matrixKernel", fn := fun _ => fun
  | [d1, d2] => { results := [.lit (.bool true)], args := [d1, d2] }
  | _ => none }
def matrixKernelRow : OpenClaim := { program := "ytnilimjkibimcaa", sum := "132c735209e1718dabd7efa3300e2b99d7987f73fe2665ba0a6a6db22fdaf7ea", func := "schisma/schismalaw05.MatrixKernel", spec := "matrixKernel", unfollowed := true, recurses := true, apart := false }
def MatrixKernelSaid : Prop := matrixKernelRow.holds Try.pinned (OpenSpec.ofChange matrixKernelSpec)

/-- ITS FALSE NEIGHBOUR: 'it returns false'. Refute it at one input. -/
def matrixKernelWrong : ChangeSpec := { name := "matrixKernel", fn := fun _ => fun
  | [d1, d2] => { results := [.lit (.bool false)], args := [d1, d2] }
  | _ => none }
def MatrixKernelWrongFalsely : Prop := matrixKernelRow.holds Try.pinned (OpenSpec.ofChange matrixKernelWrong)

/-- 'schismalaw05.MatrixDivisors': WHATEVER THE INPUT: true; the input reads as it did. -/
def matrixDivisorsSpec : ChangeSpec := { name := "matrixDivisors", fn := fun _ => fun
  | [d] => { results := [.lit (.bool true)], args := [d] }
  | _ => none }
def matrixDivisorsRow : OpenClaim := { program := "ytnilimjkibimcaa", sum := "132c735209e1718dabd7efa3300e2b99d7987f73fe2665ba0a6a6db22fdaf7ea", func := "schisma/schismalaw05.MatrixDivisors", spec := "matrixDivisors", unfollowed := true, recurses := true, apart := false }
def MatrixDivisorsSaid : Prop := matrixDivisorsRow.holds Try.pinned (OpenSpec.ofChange matrixDivisorsSpec)

/-- ITS FALSE NEIGHBOUR: 'it returns false'. Refute it at one input. -/
def matrixDivisorsWrong : ChangeSpec := { name := "matrixDivisors", fn := fun _ => fun
  | [d] => { results := [.lit (.bool false)], args := [d] }
  | _ => none }
def MatrixDivisorsWrongFalsely : Prop := matrixDivisorsRow.holds Try.pinned (OpenSpec.ofChange matrixDivisorsWrong)

/-- 'schismalaw05.MatrixDouble': WHATEVER THE INPUT: true; the input reads as it did. -/
def matrixDoubleSpec : ChangeSpec := { name := "matrixDouble", fn := fun _ => fun
  | [d] => { results := [.lit (.bool true)], args := [d] }
  | _ => none }
def matrixDoubleRow : OpenClaim := { program := "ytnilimjkibimcaa", sum := "132c735209e1718dabd7efa3300e2b99d7987f73fe2665ba0a6a6db22fdaf7ea", func := "schisma/schismalaw05.MatrixDouble", spec := "matrixDouble", unfollowed := true, recurses := true, apart := false }
def MatrixDoubleSaid : Prop := matrixDoubleRow.holds Try.pinned (OpenSpec.ofChange matrixDoubleSpec)

/-- ITS FALSE NEIGHBOUR: 'it returns false'. Refute it at one input. -/
def matrixDoubleWrong : ChangeSpec := { name := "matrixDouble", fn := fun _ => fun
  | [d] => { results := [.lit (.bool false)], args := [d] }
  | _ => none }
def MatrixDoubleWrongFalsely : Prop := matrixDoubleRow.holds Try.pinned (OpenSpec.ofChange matrixDoubleWrong)

/-- 'schismalaw07.TemperMatchesReference': WHATEVER THE INPUT: true; the input reads as it did. -/
def temperMatchesReferenceSpec : ChangeSpec := { name := "temperMatchesReference", fn := fun _ => fun
  | [d1, d2, d3, d4] => { results := [.lit (.bool true)], args := [d1, d2, d3, d4] }
  | _ => none }
def temperMatchesReferenceRow : OpenClaim := { program := "ytnilimjkibimcaa", sum := "132c735209e1718dabd7efa3300e2b99d7987f73fe2665ba0a6a6db22fdaf7ea", func := "schisma/schismalaw07.TemperMatchesReference", spec := "temperMatchesReference", unfollowed := true, recurses := true, apart := false }
def TemperMatchesReferenceSaid : Prop := temperMatchesReferenceRow.holds Try.pinned (OpenSpec.ofChange temperMatchesReferenceSpec)

/-- ITS FALSE NEIGHBOUR: 'it returns false'. Refute it at one input. -/
def temperMatchesReferenceWrong : ChangeSpec := { name := "temperMatchesReference", fn := fun _ => fun
  | [d1, d2, d3, d4] => { results := [.lit (.bool false)], args := [d1, d2, d3, d4] }
  | _ => none }
def TemperMatchesReferenceWrongFalsely : Prop := temperMatchesReferenceRow.holds Try.pinned (OpenSpec.ofChange temperMatchesReferenceWrong)

/-- 'schismalaw07.TemperLinear': WHATEVER THE INPUT: true; the input reads as it did. -/
def temperLinearSpec : ChangeSpec := { name := "temperLinear", fn := fun _ => fun
  | [d1, d2, d3] => { results := [.lit (.bool true)], args := [d1, d2, d3] }
  | _ => none }
def temperLinearRow : OpenClaim := { program := "ytnilimjkibimcaa", sum := "132c735209e1718dabd7efa3300e2b99d7987f73fe2665ba0a6a6db22fdaf7ea", func := "schisma/schismalaw07.TemperLinear", spec := "temperLinear", unfollowed := true, recurses := true, apart := false }
def TemperLinearSaid : Prop := temperLinearRow.holds Try.pinned (OpenSpec.ofChange temperLinearSpec)

/-- ITS FALSE NEIGHBOUR: 'it returns false'. Refute it at one input. -/
def temperLinearWrong : ChangeSpec := { name := "temperLinear", fn := fun _ => fun
  | [d1, d2, d3] => { results := [.lit (.bool false)], args := [d1, d2, d3] }
  | _ => none }
def TemperLinearWrongFalsely : Prop := temperLinearRow.holds Try.pinned (OpenSpec.ofChange temperLinearWrong)

/-- 'schismalaw07.TemperRank': WHATEVER THE INPUT: true; the input reads as it did. -/
def temperRankSpec : ChangeSpec := { name := "temperRank", fn := fun _ => fun
  | [d] => { results := [.lit (.bool true)], args := [d] }
  | _ => none }
def temperRankRow : OpenClaim := { program := "ytnilimjkibimcaa", sum := "132c735209e1718dabd7efa3300e2b99d7987f73fe2665ba0a6a6db22fdaf7ea", func := "schisma/schismalaw07.TemperRank", spec := "temperRank", unfollowed := true, recurses := true, apart := false }
def TemperRankSaid : Prop := temperRankRow.holds Try.pinned (OpenSpec.ofChange temperRankSpec)

/-- ITS FALSE NEIGHBOUR: 'it returns false'. Refute it at one input. -/
def temperRankWrong : ChangeSpec := { name := "temperRank", fn := fun _ => fun
  | [d] => { results := [.lit (.bool false)], args := [d] }
  | _ => none }
def TemperRankWrongFalsely : Prop := temperRankRow.holds Try.pinned (OpenSpec.ofChange temperRankWrong)

/-- 'schismalaw07.TemperPure': WHATEVER THE INPUT: true; the input reads as it did. -/
def temperPureSpec : ChangeSpec := { name := "temperPure", fn := fun _ => fun
  | [d1, d2, d3, d4] => { results := [.lit (.bool true)], args := [d1, d2, d3, d4] }
  | _ => none }
def temperPureRow : OpenClaim := { program := "ytnilimjkibimcaa", sum := "132c735209e1718dabd7efa3300e2b99d7987f73fe2665ba0a6a6db22fdaf7ea", func := "schisma/schismalaw07.TemperPure", spec := "temperPure", unfollowed := true, recurses := true, apart := false }
def TemperPureSaid : Prop := temperPureRow.holds Try.pinned (OpenSpec.ofChange temperPureSpec)

/-- ITS FALSE NEIGHBOUR: 'it returns false'. Refute it at one input. -/
def temperPureWrong : ChangeSpec := { name := "temperPure", fn := fun _ => fun
  | [d1, d2, d3, d4] => { results := [.lit (.bool false)], args := [d1, d2, d3, d4] }
  | _ => none }
def TemperPureWrongFalsely : Prop := temperPureRow.holds Try.pinned (OpenSpec.ofChange temperPureWrong)

/-- 'schismalaw06.LatticeMatchesReference': WHATEVER THE INPUT: true; the input reads as it did. -/
def latticeMatchesReferenceSpec : ChangeSpec := { name := "latticeMatchesReference", fn := fun _ => fun
  | [d1, d2, d3] => { results := [.lit (.bool true)], args := [d1, d2, d3] }
  | _ => none }
def latticeMatchesReferenceRow : OpenClaim := { program := "ytnilimjkibimcaa", sum := "132c735209e1718dabd7efa3300e2b99d7987f73fe2665ba0a6a6db22fdaf7ea", func := "schisma/schismalaw06.LatticeMatchesReference", spec := "latticeMatchesReference", unfollowed := true, recurses := true, apart := false }
def LatticeMatchesReferenceSaid : Prop := latticeMatchesReferenceRow.holds Try.pinned (OpenSpec.ofChange latticeMatchesReferenceSpec)

/-- ITS FALSE NEIGHBOUR: 'it returns false'. Refute it at one input. -/
def latticeMatchesReferenceWrong : ChangeSpec := { name := "latticeMatchesReference", fn := fun _ => fun
  | [d1, d2, d3] => { results := [.lit (.bool false)], args := [d1, d2, d3] }
  | _ => none }
def LatticeMatchesReferenceWrongFalsely : Prop := latticeMatchesReferenceRow.holds Try.pinned (OpenSpec.ofChange latticeMatchesReferenceWrong)

/-- 'schismalaw06.LatticeMembers': WHATEVER THE INPUT: true; the input reads as it did. -/
def latticeMembersSpec : ChangeSpec := { name := "latticeMembers", fn := fun _ => fun
  | [d1, d2] => { results := [.lit (.bool true)], args := [d1, d2] }
  | _ => none }
def latticeMembersRow : OpenClaim := { program := "ytnilimjkibimcaa", sum := "132c735209e1718dabd7efa3300e2b99d7987f73fe2665ba0a6a6db22fdaf7ea", func := "schisma/schismalaw06.LatticeMembers", spec := "latticeMembers", unfollowed := true, recurses := true, apart := false }
def LatticeMembersSaid : Prop := latticeMembersRow.holds Try.pinned (OpenSpec.ofChange latticeMembersSpec)

/-- ITS FALSE NEIGHBOUR: 'it returns false'. Refute it at one input. -/
def latticeMembersWrong : ChangeSpec := { name := "latticeMembers", fn := fun _ => fun
  | [d1, d2] => { results := [.lit (.bool false)], args := [d1, d2] }
  | _ => none }
def LatticeMembersWrongFalsely : Prop := latticeMembersRow.holds Try.pinned (OpenSpec.ofChange latticeMembersWrong)

/-- 'schismalaw06.LatticeRepresentatives': WHATEVER THE INPUT: true; the input reads as it did. -/
def latticeRepresentativesSpec : ChangeSpec := { name := "latticeRepresentatives", fn := fun _ => fun
  | [d1, d2, d3] => { results := [.lit (.bool true)], args := [d1, d2, d3] }
  | _ => none }
def latticeRepresentativesRow : OpenClaim := { program := "ytnilimjkibimcaa", sum := "132c735209e1718dabd7efa3300e2b99d7987f73fe2665ba0a6a6db22fdaf7ea", func := "schisma/schismalaw06.LatticeRepresentatives", spec := "latticeRepresentatives", unfollowed := true, recurses := true, apart := false }
def LatticeRepresentativesSaid : Prop := latticeRepresentativesRow.holds Try.pinned (OpenSpec.ofChange latticeRepresentativesSpec)

/-- ITS FALSE NEIGHBOUR: 'it returns false'. Refute it at one input. -/
def latticeRepresentativesWrong : ChangeSpec := { name := "latticeRepresentatives", fn := fun _ => fun
  | [d1, d2, d3] => { results := [.lit (.bool false)], args := [d1, d2, d3] }
  | _ => none }
def LatticeRepresentativesWrongFalsely : Prop := latticeRepresentativesRow.holds Try.pinned (OpenSpec.ofChange latticeRepresentativesWrong)

/-- 'schismalaw06.LatticeSame': WHATEVER THE INPUT: true; the input reads as it did. -/
def latticeSameSpec : ChangeSpec := { name := "latticeSame", fn := fun _ => fun
  | [d1, d2] => { results := [.lit (.bool true)], args := [d1, d2] }
  | _ => none }
def latticeSameRow : OpenClaim := { program := "ytnilimjkibimcaa", sum := "132c735209e1718dabd7efa3300e2b99d7987f73fe2665ba0a6a6db22fdaf7ea", func := "schisma/schismalaw06.LatticeSame", spec := "latticeSame", unfollowed := true, recurses := true, apart := false }
def LatticeSameSaid : Prop := latticeSameRow.holds Try.pinned (OpenSpec.ofChange latticeSameSpec)

/-- ITS FALSE NEIGHBOUR: 'it returns false'. Refute it at one input. -/
def latticeSameWrong : ChangeSpec := { name := "latticeSame", fn := fun _ => fun
  | [d1, d2] => { results := [.lit (.bool false)], args := [d1, d2] }
  | _ => none }
def LatticeSameWrongFalsely : Prop := latticeSameRow.holds Try.pinned (OpenSpec.ofChange latticeSameWrong)

/-- 'schismalaw06.LatticeSum': WHATEVER THE INPUT: true; the input reads as it did. -/
def latticeSumSpec : ChangeSpec := { name := "latticeSum", fn := fun _ => fun
  | [d1, d2, d3] => { results := [.lit (.bool true)], args := [d1, d2, d3] }
  | _ => none }
def latticeSumRow : OpenClaim := { program := "ytnilimjkibimcaa", sum := "132c735209e1718dabd7efa3300e2b99d7987f73fe2665ba0a6a6db22fdaf7ea", func := "schisma/schismalaw06.LatticeSum", spec := "latticeSum", unfollowed := true, recurses := true, apart := false }
def LatticeSumSaid : Prop := latticeSumRow.holds Try.pinned (OpenSpec.ofChange latticeSumSpec)

/-- ITS FALSE NEIGHBOUR: 'it returns false'. Refute it at one input. -/
def latticeSumWrong : ChangeSpec := { name := "latticeSum", fn := fun _ => fun
  | [d1, d2, d3] => { results := [.lit (.bool false)], args := [d1, d2, d3] }
  | _ => none }
def LatticeSumWrongFalsely : Prop := latticeSumRow.holds Try.pinned (OpenSpec.ofChange latticeSumWrong)

/-- 'schismalaw06.LatticeIndex': WHATEVER THE INPUT: true; the input reads as it did. -/
def latticeIndexSpec : ChangeSpec := { name := "latticeIndex", fn := fun _ => fun
  | [d1, d2, d3] => { results := [.lit (.bool true)], args := [d1, d2, d3] }
  | _ => none }
def latticeIndexRow : OpenClaim := { program := "ytnilimjkibimcaa", sum := "132c735209e1718dabd7efa3300e2b99d7987f73fe2665ba0a6a6db22fdaf7ea", func := "schisma/schismalaw06.LatticeIndex", spec := "latticeIndex", unfollowed := true, recurses := true, apart := false }
def LatticeIndexSaid : Prop := latticeIndexRow.holds Try.pinned (OpenSpec.ofChange latticeIndexSpec)

/-- ITS FALSE NEIGHBOUR: 'it returns false'. Refute it at one input. -/
def latticeIndexWrong : ChangeSpec := { name := "latticeIndex", fn := fun _ => fun
  | [d1, d2, d3] => { results := [.lit (.bool false)], args := [d1, d2, d3] }
  | _ => none }
def LatticeIndexWrongFalsely : Prop := latticeIndexRow.holds Try.pinned (OpenSpec.ofChange latticeIndexWrong)

/-- 'schismalaw06.LatticeOrders': WHATEVER THE INPUT: true; the input reads as it did. -/
def latticeOrdersSpec : ChangeSpec := { name := "latticeOrders", fn := fun _ => fun
  | [d1, d2] => { results := [.lit (.bool true)], args := [d1, d2] }
  | _ => none }
def latticeOrdersRow : OpenClaim := { program := "ytnilimjkibimcaa", sum := "132c735209e1718dabd7efa3300e2b99d7987f73fe2665ba0a6a6db22fdaf7ea", func := "schisma/schismalaw06.LatticeOrders", spec := "latticeOrders", unfollowed := true, recurses := true, apart := false }
def LatticeOrdersSaid : Prop := latticeOrdersRow.holds Try.pinned (OpenSpec.ofChange latticeOrdersSpec)

/-- ITS FALSE NEIGHBOUR: 'it returns false'. Refute it at one input. -/
def latticeOrdersWrong : ChangeSpec := { name := "latticeOrders", fn := fun _ => fun
  | [d1, d2] => { results := [.lit (.bool false)], args := [d1, d2] }
  | _ => none }
def LatticeOrdersWrongFalsely : Prop := latticeOrdersRow.holds Try.pinned (OpenSpec.ofChange latticeOrdersWrong)

/-- 'schismalaw07.TemperTuning': WHATEVER THE INPUT: true; the input reads as it did. -/
def temperTuningSpec : ChangeSpec := { name := "temperTuning", fn := fun _ => fun
  | [d1, d2, d3, d4, d5] => { results := [.lit (.bool true)], args := [d1, d2, d3, d4, d5] }
  | _ => none }
def temperTuningRow : OpenClaim := { program := "ytnilimjkibimcaa", sum := "132c735209e1718dabd7efa3300e2b99d7987f73fe2665ba0a6a6db22fdaf7ea", func := "schisma/schismalaw07.TemperTuning", spec := "temperTuning", unfollowed := true, recurses := true, apart := false }
def TemperTuningSaid : Prop := temperTuningRow.holds Try.pinned (OpenSpec.ofChange temperTuningSpec)

/-- ITS FALSE NEIGHBOUR: 'it returns false'. Refute it at one input. -/
def temperTuningWrong : ChangeSpec := { name := "temperTuning", fn := fun _ => fun
  | [d1, d2, d3, d4, d5] => { results := [.lit (.bool false)], args := [d1, d2, d3, d4, d5] }
  | _ => none }
def TemperTuningWrongFalsely : Prop := temperTuningRow.holds Try.pinned (OpenSpec.ofChange temperTuningWrong)

/-- 'schismalaw07.TemperKernel': WHATEVER THE INPUT: true; the input reads as it did. -/
def temperKernelSpec : ChangeSpec := { name := "temperKernel", fn := fun _ => fun
  | [d1, d2] => { results := [.lit (.bool true)], args := [d1, d2] }
  | _ => none }
def temperKernelRow : OpenClaim := { program := "ytnilimjkibimcaa", sum := "132c735209e1718dabd7efa3300e2b99d7987f73fe2665ba0a6a6db22fdaf7ea", func := "schisma/schismalaw07.TemperKernel", spec := "temperKernel", unfollowed := true, recurses := true, apart := false }
def TemperKernelSaid : Prop := temperKernelRow.holds Try.pinned (OpenSpec.ofChange temperKernelSpec)

/-- ITS FALSE NEIGHBOUR: 'it returns false'. Refute it at one input. -/
def temperKernelWrong : ChangeSpec := { name := "temperKernel", fn := fun _ => fun
  | [d1, d2] => { results := [.lit (.bool false)], args := [d1, d2] }
  | _ => none }
def TemperKernelWrongFalsely : Prop := temperKernelRow.holds Try.pinned (OpenSpec.ofChange temperKernelWrong)

/-- 'schismalaw07.TemperFrom': WHATEVER THE INPUT: true; the input reads as it did. -/
def temperFromSpec : ChangeSpec := { name := "temperFrom", fn := fun _ => fun
  | [d1, d2, d3, d4] => { results := [.lit (.bool true)], args := [d1, d2, d3, d4] }
  | _ => none }
def temperFromRow : OpenClaim := { program := "ytnilimjkibimcaa", sum := "132c735209e1718dabd7efa3300e2b99d7987f73fe2665ba0a6a6db22fdaf7ea", func := "schisma/schismalaw07.TemperFrom", spec := "temperFrom", unfollowed := true, recurses := true, apart := false }
def TemperFromSaid : Prop := temperFromRow.holds Try.pinned (OpenSpec.ofChange temperFromSpec)

/-- ITS FALSE NEIGHBOUR: 'it returns false'. Refute it at one input. -/
def temperFromWrong : ChangeSpec := { name := "temperFrom", fn := fun _ => fun
  | [d1, d2, d3, d4] => { results := [.lit (.bool false)], args := [d1, d2, d3, d4] }
  | _ => none }
def TemperFromWrongFalsely : Prop := temperFromRow.holds Try.pinned (OpenSpec.ofChange temperFromWrong)

/- THE SECOND FORM. 'bulk': how many values and letters a reading holds, each counted each time it is reached (what is shared counts as often as it is met; a slice's spare places count too). A statement '..UptoSaid' is the law's where the arguments, and the package variables that the reading takes, are together of bulk at most 1048576: NARROWER than '..Said'. Prove '..Said' where nothing that the law and all that it calls make is longer than what came in: it says more and counts as full. Else prove '..UptoSaid'. A law counts once. -/
mutual
def uptoBulk {H : Type} : DataW H → Nat
  | .lit (.string bytes) => bytes.length + 1
  | .lit _ => 1
  | .nil => 1
  | .ptr d => uptoBulk d + 1
  | .slice elems spare => uptoBulkAll elems + uptoBulkAll spare + 1
  | .agg parts => uptoBulkAll parts + 1
  | .iface _ d => uptoBulk d + 1
  | .map entries => uptoBulkEntries entries + 1
  | .held _ => 1
def uptoBulkAll {H : Type} : List (DataW H) → Nat
  | [] => 0
  | d :: r => uptoBulk d + uptoBulkAll r
def uptoBulkEntries {H : Type} : List (Lit × DataW H) → Nat
  | [] => 0
  | x :: r => uptoBulkEntry x + uptoBulkEntries r
def uptoBulkEntry {H : Type} : Lit × DataW H → Nat
  | (.string bytes, d) => bytes.length + uptoBulk d + 1
  | (_, d) => uptoBulk d + 1
 end
def uptoSmall : (H : Type) → List (DataW H) → Bool := fun _ ds => decide (uptoBulkAll ds ≤ 1048576)
def OpenSpec.upto (s : _root_.Go.ChangeSpec) : _root_.Go.OpenSpec := { _root_.Go.OpenSpec.ofChange s with cond := some uptoSmall }

/-- 'schismalaw05.MatrixMatchesReference', WHERE WHAT IT READS IS OF BULK AT MOST 1048576: true; the input reads as it did. -/
def matrixMatchesReferenceUptoRow : OpenClaim := { program := "ytnilimjkibimcaa", sum := "132c735209e1718dabd7efa3300e2b99d7987f73fe2665ba0a6a6db22fdaf7ea", func := "schisma/schismalaw05.MatrixMatchesReference", spec := "matrixMatchesReference", unfollowed := true, recurses := true, apart := false, narrowed := true }
def MatrixMatchesReferenceUptoSaid : Prop := matrixMatchesReferenceUptoRow.holds Try.pinned (OpenSpec.upto matrixMatchesReferenceSpec)

/-- 'schismalaw05.MatrixNormal', WHERE WHAT IT READS IS OF BULK AT MOST 1048576: true; the input reads as it did. -/
def matrixNormalUptoRow : OpenClaim := { program := "ytnilimjkibimcaa", sum := "132c735209e1718dabd7efa3300e2b99d7987f73fe2665ba0a6a6db22fdaf7ea", func := "schisma/schismalaw05.MatrixNormal", spec := "matrixNormal", unfollowed := true, recurses := true, apart := false, narrowed := true }
def MatrixNormalUptoSaid : Prop := matrixNormalUptoRow.holds Try.pinned (OpenSpec.upto matrixNormalSpec)

/-- 'schismalaw05.MatrixSame', WHERE WHAT IT READS IS OF BULK AT MOST 1048576: true; the input reads as it did. -/
def matrixSameUptoRow : OpenClaim := { program := "ytnilimjkibimcaa", sum := "132c735209e1718dabd7efa3300e2b99d7987f73fe2665ba0a6a6db22fdaf7ea", func := "schisma/schismalaw05.MatrixSame", spec := "matrixSame", unfollowed := true, recurses := true, apart := false, narrowed := true }
def MatrixSameUptoSaid : Prop := matrixSameUptoRow.holds Try.pinned (OpenSpec.upto matrixSameSpec)

/-- 'schismalaw05.MatrixRank', WHERE WHAT IT READS IS OF BULK AT MOST 1048576: true; the input reads as it did. -/
def matrixRankUptoRow : OpenClaim := { program := "ytnilimjkibimcaa", sum := "132c735209e1718dabd7efa3300e2b99d7987f73fe2665ba0a6a6db22fdaf7ea", func := "schisma/schismalaw05.MatrixRank", spec := "matrixRank", unfollowed := true, recurses := true, apart := false, narrowed := true }
def MatrixRankUptoSaid : Prop := matrixRankUptoRow.holds Try.pinned (OpenSpec.upto matrixRankSpec)

/-- 'schismalaw05.MatrixKernel', WHERE WHAT IT READS IS OF BULK AT MOST 1048576: true; the input reads as it did. -/
def matrixKernelUptoRow : OpenClaim := { program := "ytnilimjkibimcaa", sum := "132c735209e1718dabd7efa3300e2b99d7987f73fe2665ba0a6a6db22fdaf7ea", func := "schisma/schismalaw05.MatrixKernel", spec := "matrixKernel", unfollowed := true, recurses := true, apart := false, narrowed := true }
def MatrixKernelUptoSaid : Prop := matrixKernelUptoRow.holds Try.pinned (OpenSpec.upto matrixKernelSpec)

/-- 'schismalaw05.MatrixDivisors', WHERE WHAT IT READS IS OF BULK AT MOST 1048576: true; the input reads as it did. -/
def matrixDivisorsUptoRow : OpenClaim := { program := "ytnilimjkibimcaa", sum := "132c735209e1718dabd7efa3300e2b99d7987f73fe2665ba0a6a6db22fdaf7ea", func := "schisma/schismalaw05.MatrixDivisors", spec := "matrixDivisors", unfollowed := true, recurses := true, apart := false, narrowed := true }
def MatrixDivisorsUptoSaid : Prop := matrixDivisorsUptoRow.holds Try.pinned (OpenSpec.upto matrixDivisorsSpec)

/-- 'schismalaw05.MatrixDouble', WHERE WHAT IT READS IS OF BULK AT MOST 1048576: true; the input reads as it did. -/
def matrixDoubleUptoRow : OpenClaim := { program := "ytnilimjkibimcaa", sum := "132c735209e1718dabd7efa3300e2b99d7987f73fe2665ba0a6a6db22fdaf7ea", func := "schisma/schismalaw05.MatrixDouble", spec := "matrixDouble", unfollowed := true, recurses := true, apart := false, narrowed := true }
def MatrixDoubleUptoSaid : Prop := matrixDoubleUptoRow.holds Try.pinned (OpenSpec.upto matrixDoubleSpec)

/-- 'schismalaw07.TemperMatchesReference', WHERE WHAT IT READS IS OF BULK AT MOST 1048576: true; the input reads as it did. -/
def temperMatchesReferenceUptoRow : OpenClaim := { program := "ytnilimjkibimcaa", sum := "132c735209e1718dabd7efa3300e2b99d7987f73fe2665ba0a6a6db22fdaf7ea", func := "schisma/schismalaw07.TemperMatchesReference", spec := "temperMatchesReference", unfollowed := true, recurses := true, apart := false, narrowed := true }
def TemperMatchesReferenceUptoSaid : Prop := temperMatchesReferenceUptoRow.holds Try.pinned (OpenSpec.upto temperMatchesReferenceSpec)

/-- 'schismalaw07.TemperLinear', WHERE WHAT IT READS IS OF BULK AT MOST 1048576: true; the input reads as it did. -/
def temperLinearUptoRow : OpenClaim := { program := "ytnilimjkibimcaa", sum := "132c735209e1718dabd7efa3300e2b99d7987f73fe2665ba0a6a6db22fdaf7ea", func := "schisma/schismalaw07.TemperLinear", spec := "temperLinear", unfollowed := true, recurses := true, apart := false, narrowed := true }
def TemperLinearUptoSaid : Prop := temperLinearUptoRow.holds Try.pinned (OpenSpec.upto temperLinearSpec)

/-- 'schismalaw07.TemperRank', WHERE WHAT IT READS IS OF BULK AT MOST 1048576: true; the input reads as it did. -/
def temperRankUptoRow : OpenClaim := { program := "ytnilimjkibimcaa", sum := "132c735209e1718dabd7efa3300e2b99d7987f73fe2665ba0a6a6db22fdaf7ea", func := "schisma/schismalaw07.TemperRank", spec := "temperRank", unfollowed := true, recurses := true, apart := false, narrowed := true }
def TemperRankUptoSaid : Prop := temperRankUptoRow.holds Try.pinned (OpenSpec.upto temperRankSpec)

/-- 'schismalaw07.TemperPure', WHERE WHAT IT READS IS OF BULK AT MOST 1048576: true; the input reads as it did. -/
def temperPureUptoRow : OpenClaim := { program := "ytnilimjkibimcaa", sum := "132c735209e1718dabd7efa3300e2b99d7987f73fe2665ba0a6a6db22fdaf7ea", func := "schisma/schismalaw07.TemperPure", spec := "temperPure", unfollowed := true, recurses := true, apart := false, narrowed := true }
def TemperPureUptoSaid : Prop := temperPureUptoRow.holds Try.pinned (OpenSpec.upto temperPureSpec)

/-- 'schismalaw06.LatticeMatchesReference', WHERE WHAT IT READS IS OF BULK AT MOST 1048576: true; the input reads as it did. -/
def latticeMatchesReferenceUptoRow : OpenClaim := { program := "ytnilimjkibimcaa", sum := "132c735209e1718dabd7efa3300e2b99d7987f73fe2665ba0a6a6db22fdaf7ea", func := "schisma/schismalaw06.LatticeMatchesReference", spec := "latticeMatchesReference", unfollowed := true, recurses := true, apart := false, narrowed := true }
def LatticeMatchesReferenceUptoSaid : Prop := latticeMatchesReferenceUptoRow.holds Try.pinned (OpenSpec.upto latticeMatchesReferenceSpec)

/-- 'schismalaw06.LatticeMembers', WHERE WHAT IT READS IS OF BULK AT MOST 1048576: true; the input reads as it did. -/
def latticeMembersUptoRow : OpenClaim := { program := "ytnilimjkibimcaa", sum := "132c735209e1718dabd7efa3300e2b99d7987f73fe2665ba0a6a6db22fdaf7ea", func := "schisma/schismalaw06.LatticeMembers", spec := "latticeMembers", unfollowed := true, recurses := true, apart := false, narrowed := true }
def LatticeMembersUptoSaid : Prop := latticeMembersUptoRow.holds Try.pinned (OpenSpec.upto latticeMembersSpec)

/-- 'schismalaw06.LatticeRepresentatives', WHERE WHAT IT READS IS OF BULK AT MOST 1048576: true; the input reads as it did. -/
def latticeRepresentativesUptoRow : OpenClaim := { program := "ytnilimjkibimcaa", sum := "132c735209e1718dabd7efa3300e2b99d7987f73fe2665ba0a6a6db22fdaf7ea", func := "schisma/schismalaw06.LatticeRepresentatives", spec := "latticeRepresentatives", unfollowed := true, recurses := true, apart := false, narrowed := true }
def LatticeRepresentativesUptoSaid : Prop := latticeRepresentativesUptoRow.holds Try.pinned (OpenSpec.upto latticeRepresentativesSpec)

/-- 'schismalaw06.LatticeSame', WHERE WHAT IT READS IS OF BULK AT MOST 1048576: true; the input reads as it did. -/
def latticeSameUptoRow : OpenClaim := { program := "ytnilimjkibimcaa", sum := "132c735209e1718dabd7efa3300e2b99d7987f73fe2665ba0a6a6db22fdaf7ea", func := "schisma/schismalaw06.LatticeSame", spec := "latticeSame", unfollowed := true, recurses := true, apart := false, narrowed := true }
def LatticeSameUptoSaid : Prop := latticeSameUptoRow.holds Try.pinned (OpenSpec.upto latticeSameSpec)

/-- 'schismalaw06.LatticeSum', WHERE WHAT IT READS IS OF BULK AT MOST 1048576: true; the input reads as it did. -/
def latticeSumUptoRow : OpenClaim := { program := "ytnilimjkibimcaa", sum := "132c735209e1718dabd7efa3300e2b99d7987f73fe2665ba0a6a6db22fdaf7ea", func := "schisma/schismalaw06.LatticeSum", spec := "latticeSum", unfollowed := true, recurses := true, apart := false, narrowed := true }
def LatticeSumUptoSaid : Prop := latticeSumUptoRow.holds Try.pinned (OpenSpec.upto latticeSumSpec)

/-- 'schismalaw06.LatticeIndex', WHERE WHAT IT READS IS OF BULK AT MOST 1048576: true; the input reads as it did. -/
def latticeIndexUptoRow : OpenClaim := { program := "ytnilimjkibimcaa", sum := "132c735209e1718dabd7efa3300e2b99d7987f73fe2665ba0a6a6db22fdaf7ea", func := "schisma/schismalaw06.LatticeIndex", spec := "latticeIndex", unfollowed := true, recurses := true, apart := false, narrowed := true }
def LatticeIndexUptoSaid : Prop := latticeIndexUptoRow.holds Try.pinned (OpenSpec.upto latticeIndexSpec)

/-- 'schismalaw06.LatticeOrders', WHERE WHAT IT READS IS OF BULK AT MOST 1048576: true; the input reads as it did. -/
def latticeOrdersUptoRow : OpenClaim := { program := "ytnilimjkibimcaa", sum := "132c735209e1718dabd7efa3300e2b99d7987f73fe2665ba0a6a6db22fdaf7ea", func := "schisma/schismalaw06.LatticeOrders", spec := "latticeOrders", unfollowed := true, recurses := true, apart := false, narrowed := true }
def LatticeOrdersUptoSaid : Prop := latticeOrdersUptoRow.holds Try.pinned (OpenSpec.upto latticeOrdersSpec)

/-- 'schismalaw07.TemperTuning', WHERE WHAT IT READS IS OF BULK AT MOST 1048576: true; the input reads as it did. -/
def temperTuningUptoRow : OpenClaim := { program := "ytnilimjkibimcaa", sum := "132c735209e1718dabd7efa3300e2b99d7987f73fe2665ba0a6a6db22fdaf7ea", func := "schisma/schismalaw07.TemperTuning", spec := "temperTuning", unfollowed := true, recurses := true, apart := false, narrowed := true }
def TemperTuningUptoSaid : Prop := temperTuningUptoRow.holds Try.pinned (OpenSpec.upto temperTuningSpec)

/-- 'schismalaw07.TemperKernel', WHERE WHAT IT READS IS OF BULK AT MOST 1048576: true; the input reads as it did. -/
def temperKernelUptoRow : OpenClaim := { program := "ytnilimjkibimcaa", sum := "132c735209e1718dabd7efa3300e2b99d7987f73fe2665ba0a6a6db22fdaf7ea", func := "schisma/schismalaw07.TemperKernel", spec := "temperKernel", unfollowed := true, recurses := true, apart := false, narrowed := true }
def TemperKernelUptoSaid : Prop := temperKernelUptoRow.holds Try.pinned (OpenSpec.upto temperKernelSpec)

/-- 'schismalaw07.TemperFrom', WHERE WHAT IT READS IS OF BULK AT MOST 1048576: true; the input reads as it did. -/
def temperFromUptoRow : OpenClaim := { program := "ytnilimjkibimcaa", sum := "132c735209e1718dabd7efa3300e2b99d7987f73fe2665ba0a6a6db22fdaf7ea", func := "schisma/schismalaw07.TemperFrom", spec := "temperFrom", unfollowed := true, recurses := true, apart := false, narrowed := true }
def TemperFromUptoSaid : Prop := temperFromUptoRow.holds Try.pinned (OpenSpec.upto temperFromSpec)

end Rows
end Go.Proofs.Ytnilimjkibimcaa
