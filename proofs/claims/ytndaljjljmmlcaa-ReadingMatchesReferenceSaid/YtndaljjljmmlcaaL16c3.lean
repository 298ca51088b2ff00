/- For all its arguments the law ReadingMatchesReference of package schismalaw16 returns true and leaves its arguments as they were. -/
import Derived.Test.YtndaljjljmmlcaaL16x3
import Derived.Test.YtndaljjljmmlcaaL16pa
import Derived.JoinedOf
import Derived.Handed

set_option linter.unusedVariables false
namespace Go.Proofs.Ytndaljjljmmlcaa
open Go.Zz


theorem kinds3 : Try.f3.params.toList.mapM (paramK Try.prog) = some [(false, [.flat (.int .i64)]), (false, [.slice [.int .i64, .int .i64, .int .i64, .int .i64]]), (false, [.flat (.int .i64)]), (false, [.flat (.int .i64)]), (false, [.slice [.int .i64]])] := by kernel_rfl

theorem law3 (avs : List AV) (h : All2 PA [(false, [.flat (.int .i64)]), (false, [.slice [.int .i64, .int .i64, .int .i64, .int .i64]]), (false, [.flat (.int .i64)]), (false, [.flat (.int .i64)]), (false, [.slice [.int .i64]])] avs) : ∃ n m', evF F5 n (.func 3 [] []) avs ⟨[], []⟩ = some (.bool true, m') := by
  obtain ⟨a1, r1, rfl, p1, h1⟩ := all2_cons h
  obtain ⟨a2, r2, rfl, p2, h2⟩ := all2_cons h1
  obtain ⟨a3, r3, rfl, p3, h3⟩ := all2_cons h2
  obtain ⟨a4, r4, rfl, p4, h4⟩ := all2_cons h3
  obtain ⟨a5, r5, rfl, p5, h5⟩ := all2_cons h4
  obtain rfl := all2_nil h5
  obtain ⟨n, rfl, _⟩ := pa_int p1
  obtain ⟨rs, rs1, rs2⟩ := pa_rds p2
  obtain ⟨a, rfl, _⟩ := pa_int p3
  obtain ⟨b, rfl, _⟩ := pa_int p4
  obtain ⟨cs, cs1, cs2, _⟩ := pa_ints p5
  obtain ⟨n, v, m', g, rfl⟩ := (run3 (n := n) (a := a) (b := b) rs1 rs2 cs1 cs2).ex
  exact ⟨n, m', g⟩

set_option maxHeartbeats 1600000 in
set_option maxRecDepth 100000 in
theorem lifted3 (os : Os) (started : os.Started) (H : Type) (enc : TypeId × Value → H) :
    ReturnsInHanded {} Try.checked os 3 .any (Rows.readingMatchesReferenceSpec.pre6 enc Try.prog Try.f3 Rows.readingMatchesReferenceRow.domain false) (Rows.readingMatchesReferenceSpec.post enc Try.prog Try.f3 false true false false) := by
  refine returnsInHanded_of_change (C := Try.checked) own started (by kernel_rfl) Try.func3
    (ChangeSpec.witness6 (enc := enc) (C := Try.checked) false ⟨#[], #[.int .i64 0, .slice none 0 0, .int .i64 0, .int .i64 0, .slice none 0 0], []⟩ 8 (by kernel_rfl) (by kernel_rfl) (by kernel_rfl) (by kernel_rfl)) ?_
  intro W base args ds gs before hval hW _ _
  exact law_contract F5_ok kinds3 laid (by kernel_rfl) rfl (fun H ds hd => by
    match ds, hd with
    | [d1, d2, d3, d4, d5], _ => rfl) rfl Try.underlying4 hval hW (noGlobW _) law3

theorem readingMatchesReference_holds : Rows.ReadingMatchesReferenceSaid :=
  OpenClaim.holds_of_wide 3 Try.f3 rfl rfl rfl rfl rfl rfl rfl ⟨rfl, rfl, rfl, rfl, rfl⟩ rfl rfl rfl rfl rfl (by kernel_rfl) Try.func3 (by kernel_rfl)
    (of_decide_eq_true (by kernel_rfl)) (by unfold Func.isWrapper; first | (rw [if_pos (by decide +kernel)]; kernel_rfl) | (rw [if_neg (by decide +kernel)]; exact ⟨rfl, rfl⟩))
    (fun os started H enc _ => lifted3 os started H enc)

#print axioms readingMatchesReference_holds
end Go.Proofs.Ytndaljjljmmlcaa

