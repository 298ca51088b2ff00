/-
  No cell of these rows narrows 'for every input' (looked for: loops, veiled, ifaces, maps, wideKeys, modest, calm, conditions, laid).
  DERIVED. THE GIVEN ROWS OF THIS SEAT. 7 by the template 'for every input the law returns true; each argument reads behind the call as it read before'; 0 by the template 'total and deterministic' (their statements: YtpddngcgajjacaaTotals.lean).
  GIVEN WITH THE SEED: the statements are not yours to turn. If you find one false, say at which input.
  Laid BY PROGRAM, IN A SANDBOX (cutbox-rows.mjs): the forced cells as the released guide's own fill.sh prints them over the translation a9fe7f550ad5b5ed… (all of the seat's roots in one cut). By AI agents, Wed Nov 11 2026. No macro, syntax, notation, axiom, sorry.
-/
import Derived.Test.YtpddngcgajjacaaChecked
import GoSem.Claim
import GoSem.ClaimJoined
import GoSem.ClaimMapViews
import Derived.JoinedTies
import Derived.KernelRfl
namespace Go.Proofs.Ytpddngcgajjacaa
/- THE CELL 'sum', in the pinned program and in every row, IS THE sha256 OF THE DUMP (.gsa) THAT YtpddngcgajjacaaProg.lean LOADS. Nothing in Lean hashes anything: it is a label: what it is worth is what the hold of that sum in a sandbox is worth. -/
noncomputable def Try.pinned : Pinned := { name := "ytpddngcgajjacaa", sum := "a9fe7f550ad5b5ede2219233bd7a39dc34e0162c1618fdbf86078daecadf6512", checked := Try.checked }
namespace Rows
def none {H : Type} : Left H := { results := [], args := [] }

/-- 'schismalaw29.LinkMatchesReference': WHATEVER THE INPUT: true; the input reads as it did. -/
def linkMatchesReferenceSpec : ChangeSpec := { name := "linkMatchesReference", fn := fun _ => fun
  | [d1, d2, d3, d4, d5, d6] => { results := [.lit (.bool true)], args := [d1, d2, d3, d4, d5, d6] }
  | _ => none }
def linkMatchesReferenceRow : OpenClaim := { program := "ytpddngcgajjacaa", sum := "a9fe7f550ad5b5ede2219233bd7a39dc34e0162c1618fdbf86078daecadf6512", func := "schisma/schismalaw29.LinkMatchesReference", spec := "linkMatchesReference", unfollowed := true, recurses := true, apart := false }
def LinkMatchesReferenceSaid : Prop := linkMatchesReferenceRow.holds Try.pinned (OpenSpec.ofChange linkMatchesReferenceSpec)

/-- ITS FALSE NEIGHBOUR: 'it returns false'. Refute it at one input. -/
def linkMatchesReferenceWrong : ChangeSpec := { name := "linkMatchesReference", fn := fun _ => fun
  | [d1, d2, d3, d4, d5, d6] => { results := [.lit (.bool false)], args := [d1, d2, d3, d4, d5, d6] }
  | _ => none }
def LinkMatchesReferenceWrongFalsely : Prop := linkMatchesReferenceRow.holds Try.pinned (OpenSpec.ofChange linkMatchesReferenceWrong)

/-- 'schismalaw29.LinkOnce': WHATEVER THE INPUT: true; the input reads as it did. -/
def linkOnceSpec : ChangeSpec := { name := "linkOnce", fn := fun _ => fun
  | [d1, d2] => { results := [.lit (.bool true)], args := [d1, d2] }
  | _ => none }
def linkOnceRow : OpenClaim := { program := "ytpddngcgajjacaa", sum := "a9fe7f550ad5b5ede2219233bd7a39dc34e0162c1618fdbf86078daecadf6512", func := "schisma/schismalaw29.LinkOnce", spec := "linkOnce", unfollowed := true, recurses := true, apart := false }
def LinkOnceSaid : Prop := linkOnceRow.holds Try.pinned (OpenSpec.ofChange linkOnceSpec)

/-- ITS FALSE NEIGHBOUR: 'it returns false'. Refute it at one input. -/
def linkOnceWrong : ChangeSpec := { name := "linkOnce", fn := fun _ => fun
  | [d1, d2] => { results := [.lit (.bool false)], args := [d1, d2] }
  | _ => none }
def LinkOnceWrongFalsely : Prop := linkOnceRow.holds Try.pinned (OpenSpec.ofChange linkOnceWrong)

/-- 'schismalaw29.LinkProgress': WHATEVER THE INPUT: true; the input reads as it did. -/
def linkProgressSpec : ChangeSpec := { name := "linkProgress", fn := fun _ => fun
  | [d1, d2] => { results := [.lit (.bool true)], args := [d1, d2] }
  | _ => none }
def linkProgressRow : OpenClaim := { program := "ytpddngcgajjacaa", sum := "a9fe7f550ad5b5ede2219233bd7a39dc34e0162c1618fdbf86078daecadf6512", func := "schisma/schismalaw29.LinkProgress", spec := "linkProgress", unfollowed := true, recurses := true, apart := false }
def LinkProgressSaid : Prop := linkProgressRow.holds Try.pinned (OpenSpec.ofChange linkProgressSpec)

/-- ITS FALSE NEIGHBOUR: 'it returns false'. Refute it at one input. -/
def linkProgressWrong : ChangeSpec := { name := "linkProgress", fn := fun _ => fun
  | [d1, d2] => { results := [.lit (.bool false)], args := [d1, d2] }
  | _ => none }
def LinkProgressWrongFalsely : Prop := linkProgressRow.holds Try.pinned (OpenSpec.ofChange linkProgressWrong)

/-- 'schismalaw29.LinkRepeated': WHATEVER THE INPUT: true; the input reads as it did. -/
def linkRepeatedSpec : ChangeSpec := { name := "linkRepeated", fn := fun _ => fun
  | [d1, d2, d3, d4] => { results := [.lit (.bool true)], args := [d1, d2, d3, d4] }
  | _ => none }
def linkRepeatedRow : OpenClaim := { program := "ytpddngcgajjacaa", sum := "a9fe7f550ad5b5ede2219233bd7a39dc34e0162c1618fdbf86078daecadf6512", func := "schisma/schismalaw29.LinkRepeated", spec := "linkRepeated", unfollowed := true, recurses := true, apart := false }
def LinkRepeatedSaid : Prop := linkRepeatedRow.holds Try.pinned (OpenSpec.ofChange linkRepeatedSpec)

/-- ITS FALSE NEIGHBOUR: 'it returns false'. Refute it at one input. -/
def linkRepeatedWrong : ChangeSpec := { name := "linkRepeated", fn := fun _ => fun
  | [d1, d2, d3, d4] => { results := [.lit (.bool false)], args := [d1, d2, d3, d4] }
  | _ => none }
def LinkRepeatedWrongFalsely : Prop := linkRepeatedRow.holds Try.pinned (OpenSpec.ofChange linkRepeatedWrong)

/-- 'schismalaw29.LinkOvertaken': WHATEVER THE INPUT: true; the input reads as it did. -/
def linkOvertakenSpec : ChangeSpec := { name := "linkOvertaken", fn := fun _ => fun
  | [d1, d2, d3] => { results := [.lit (.bool true)], args := [d1, d2, d3] }
  | _ => none }
def linkOvertakenRow : OpenClaim := { program := "ytpddngcgajjacaa", sum := "a9fe7f550ad5b5ede2219233bd7a39dc34e0162c1618fdbf86078daecadf6512", func := "schisma/schismalaw29.LinkOvertaken", spec := "linkOvertaken", unfollowed := true, recurses := true, apart := false }
def LinkOvertakenSaid : Prop := linkOvertakenRow.holds Try.pinned (OpenSpec.ofChange linkOvertakenSpec)

/-- ITS FALSE NEIGHBOUR: 'it returns false'. Refute it at one input. -/
def linkOvertakenWrong : ChangeSpec := { name := "linkOvertaken", fn := fun _ => fun
  | [d1, d2, d3] => { results := [.lit (.bool false)], args := [d1, d2, d3] }
  | _ => none }
def LinkOvertakenWrongFalsely : Prop := linkOvertakenRow.holds Try.pinned (OpenSpec.ofChange linkOvertakenWrong)

/-- 'schismalaw29.LinkWindow': WHATEVER THE INPUT: true; the input reads as it did. -/
def linkWindowSpec : ChangeSpec := { name := "linkWindow", fn := fun _ => fun
  | [d] => { results := [.lit (.bool true)], args := [d] }
  | _ => none }
def linkWindowRow : OpenClaim := { program := "ytpddngcgajjacaa", sum := "a9fe7f550ad5b5ede2219233bd7a39dc34e0162c1618fdbf86078daecadf6512", func := "schisma/schismalaw29.LinkWindow", spec := "linkWindow", unfollowed := true, recurses := true, apart := false }
def LinkWindowSaid : Prop := linkWindowRow.holds Try.pinned (OpenSpec.ofChange linkWindowSpec)

/-- ITS FALSE NEIGHBOUR: 'it returns false'. Refute it at one input. -/
def linkWindowWrong : ChangeSpec := { name := "linkWindow", fn := fun _ => fun
  | [d] => { results := [.lit (.bool false)], args := [d] }
  | _ => none }
def LinkWindowWrongFalsely : Prop := linkWindowRow.holds Try.pinned (OpenSpec.ofChange linkWindowWrong)

/-- 'schismalaw29.LinkForward': WHATEVER THE INPUT: true; the input reads as it did. -/
def linkForwardSpec : ChangeSpec := { name := "linkForward", fn := fun _ => fun
  | [d1, d2, d3] => { results := [.lit (.bool true)], args := [d1, d2, d3] }
  | _ => none }
def linkForwardRow : OpenClaim := { program := "ytpddngcgajjacaa", sum := "a9fe7f550ad5b5ede2219233bd7a39dc34e0162c1618fdbf86078daecadf6512", func := "schisma/schismalaw29.LinkForward", spec := "linkForward", unfollowed := true, recurses := true, apart := false }
def LinkForwardSaid : Prop := linkForwardRow.holds Try.pinned (OpenSpec.ofChange linkForwardSpec)

/-- ITS FALSE NEIGHBOUR: 'it returns false'. Refute it at one input. -/
def linkForwardWrong : ChangeSpec := { name := "linkForward", fn := fun _ => fun
  | [d1, d2, d3] => { results := [.lit (.bool false)], args := [d1, d2, d3] }
  | _ => none }
def LinkForwardWrongFalsely : Prop := linkForwardRow.holds Try.pinned (OpenSpec.ofChange linkForwardWrong)

/- THE SECOND FORM. 'bulk': how many values and letters a reading holds, each counted each time it is reached (what is shared counts as often as it is met; a slice's spare places count too). A statement '..UptoSaid' is the law's where the arguments, and the package variables that the reading takes, are together of bulk at most 1048576: NARROWER than '..Said'. Prove '..Said' where nothing that the law and all that it calls make is longer than what came in: it says more and counts as full. Else prove '..UptoSaid'. A law counts once. -/
mutual
def uptoBulk {H : Type} : DataW H → Nat
  | .lit (.string bytes) => bytes.length + 1
  | .lit _ => 1
  | .nil => 1
  | .ptr d => uptoBulk d + 1
  | .slice elems spare => uptoBulkAll elems + uptoBulkAll spare + 1
  | .agg parts => uptoBulkAll parts + 1
  | .iface _ d => uptoBulk d + 1
  | .map entries => uptoBulkEntries entries + 1
  | .held _ => 1
def uptoBulkAll {H : Type} : List (DataW H) → Nat
  | [] => 0
  | d :: r => uptoBulk d + uptoBulkAll r
def uptoBulkEntries {H : Type} : List (Lit × DataW H) → Nat
  | [] => 0
  | x :: r => uptoBulkEntry x + uptoBulkEntries r
def uptoBulkEntry {H : Type} : Lit × DataW H → Nat
  | (.string bytes, d) => bytes.length + uptoBulk d + 1
  | (_, d) => uptoBulk d + 1
 end
def uptoSmall : (H : Type) → List (DataW H) → Bool := fun _ ds => decide (uptoBulkAll ds ≤ 1048576)
def OpenSpec.upto (s : _root_.Go.ChangeSpec) : _root_.Go.OpenSpec := { _root_.Go.OpenSpec.ofChange s with cond := some uptoSmall }

/-- 'schismalaw29.LinkMatchesReference', WHERE WHAT IT READS IS OF BULK AT MOST 1048576: true; the input reads as it did. -/
def linkMatchesReferenceUptoRow : OpenClaim := { program := "ytpddngcgajjacaa", sum := "a9fe7f550ad5b5ede2219233bd7a39dc34e0162c1618fdbf86078daecadf6512", func := "schisma/schismalaw29.LinkMatchesReference", spec := "linkMatchesReference", unfollowed := true, recurses := true, apart := false, narrowed := true }
def LinkMatchesReferenceUptoSaid : Prop := linkMatchesReferenceUptoRow.holds Try.pinned (OpenSpec.upto linkMatchesReferenceSpec)

/-- 'schismalaw29.LinkOnce', WHERE WHAT IT READS IS OF BULK AT MOST 1048576: true; the input reads as it did. -/
def linkOnceUptoRow : OpenClaim := { program := "ytpddngcgajjacaa", sum := "a9fe7f550ad5b5ede2219233bd7a39dc34e0162c1618fdbf86078daecadf6512", func := "schisma/schismalaw29.LinkOnce", spec := "linkOnce", unfollowed := true, recurses := true, apart := false, narrowed := true }
def LinkOnceUptoSaid : Prop := linkOnceUptoRow.holds Try.pinned (OpenSpec.upto linkOnceSpec)

/-- 'schismalaw29.LinkProgress', WHERE WHAT IT READS IS OF BULK AT MOST 1048576: true; the input reads as it did. -/
def linkProgressUptoRow : OpenClaim := { program := "ytpddngcgajjacaa", sum := "a9fe7f550ad5b5ede2219233bd7a39dc34e0162c1618fdbf86078daecadf6512", func := "schisma/schismalaw29.LinkProgress", spec := "linkProgress", unfollowed := true, recurses := true, apart := false, narrowed := true }
def LinkProgressUptoSaid : Prop := linkProgressUptoRow.holds Try.pinned (OpenSpec.upto linkProgressSpec)

/-- 'schismalaw29.LinkRepeated', WHERE WHAT IT READS IS OF BULK AT MOST 1048576: true; the input reads as it did. -/
def linkRepeatedUptoRow : OpenClaim := { program := "ytpddngcgajjacaa", sum := "a9fe7f550ad5b5ede2219233bd7a39dc34e0162c1618fdbf86078daecadf6512", func := "schisma/schismalaw29.LinkRepeated", spec := "linkRepeated", unfollowed := true, recurses := true, apart := false, narrowed := true }
def LinkRepeatedUptoSaid : Prop := linkRepeatedUptoRow.holds Try.pinned (OpenSpec.upto linkRepeatedSpec)

/-- 'schismalaw29.LinkOvertaken', WHERE WHAT IT READS IS OF BULK AT MOST 1048576: true; the input reads as it did. -/
def linkOvertakenUptoRow : OpenClaim := { program := "ytpddngcgajjacaa", sum := "a9fe7f550ad5b5ede2219233bd7a39dc34e0162c1618fdbf86078daecadf6512", func := "schisma/schismalaw29.LinkOvertaken", spec := "linkOvertaken", unfollowed := true, recurses := true, apart := false, narrowed := true }
def LinkOvertakenUptoSaid : Prop := linkOvertakenUptoRow.holds Try.pinned (OpenSpec.upto linkOvertakenSpec)

/-- 'schismalaw29.LinkWindow', WHERE WHAT IT READS IS OF BULK AT MOST 1048576: true; the input reads as it did. -/
def linkWindowUptoRow : OpenClaim := { program := "ytpddngcgajjacaa", sum := "a9fe7f550ad5b5ede2219233bd7a39dc34e0162c1618fdbf86078daecadf6512", func := "schisma/schismalaw29.LinkWindow", spec := "linkWindow", unfollowed := true, recurses := true, apart := false, narrowed := true }
def LinkWindowUptoSaid : Prop := linkWindowUptoRow.holds Try.pinned (OpenSpec.upto linkWindowSpec)

/-- 'schismalaw29.LinkForward', WHERE WHAT IT READS IS OF BULK AT MOST 1048576: true; the input reads as it did. -/
def linkForwardUptoRow : OpenClaim := { program := "ytpddngcgajjacaa", sum := "a9fe7f550ad5b5ede2219233bd7a39dc34e0162c1618fdbf86078daecadf6512", func := "schisma/schismalaw29.LinkForward", spec := "linkForward", unfollowed := true, recurses := true, apart := false, narrowed := true }
def LinkForwardUptoSaid : Prop := linkForwardUptoRow.holds Try.pinned (OpenSpec.upto linkForwardSpec)

end Rows
end Go.Proofs.Ytpddngcgajjacaa
