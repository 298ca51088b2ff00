/- For all readings, items and sizes the law ReadingSolutions of package schismalaw16 returns true and leaves its arguments as they were. -/
import Derived.Test.YtndaljjljmmlcaaL16x4
import Derived.Test.YtndaljjljmmlcaaL16pa
import Derived.JoinedOf
import Derived.Handed
set_option linter.unusedVariables false
namespace Go.Proofs.Ytndaljjljmmlcaa
open Go.Zz


theorem kinds4 : Try.f4.params.toList.mapM (paramK Try.prog) = some [(false, [.flat (.int .i64)]), (false, [.slice [.int .i64, .int .i64, .int .i64, .int .i64]]), (false, [.slice [.int .i64]])] := by kernel_rfl

theorem law4 (avs : List AV) (h : All2 PA [(false, [.flat (.int .i64)]), (false, [.slice [.int .i64, .int .i64, .int .i64, .int .i64]]), (false, [.slice [.int .i64]])] avs) : ∃ n m', evF E21 n (.func 4 [] []) avs ⟨[], []⟩ = some (.bool true, m') := by
  obtain ⟨a1, r1, rfl, p1, h1⟩ := all2_cons h
  obtain ⟨a2, r2, rfl, p2, h2⟩ := all2_cons h1
  obtain ⟨a3, r3, rfl, p3, h3⟩ := all2_cons h2
  obtain rfl := all2_nil h3
  obtain ⟨n, rfl, _⟩ := pa_int p1
  obtain ⟨rs, rs1, rs2⟩ := pa_rds p2
  obtain ⟨xs, xs1, xs2, _⟩ := pa_ints p3
  obtain ⟨n, v, m', g, rfl⟩ := (run4 (n := n) rs1 rs2 xs1 xs2).ex
  exact ⟨n, m', g⟩

set_option maxHeartbeats 1600000 in
set_option maxRecDepth 100000 in
theorem lifted4 (os : Os) (started : os.Started) (H : Type) (enc : TypeId × Value → H) :
    ReturnsInHanded {} Try.checked os 4 .any (Rows.readingSolutionsSpec.pre6 enc Try.prog Try.f4 Rows.readingSolutionsRow.domain false) (Rows.readingSolutionsSpec.post enc Try.prog Try.f4 false true false false) := by
  refine returnsInHanded_of_change (C := Try.checked) own started (by kernel_rfl) Try.func4
    (ChangeSpec.witness6 (enc := enc) (C := Try.checked) false ⟨#[], #[.int .i64 0, .slice none 0 0, .slice none 0 0], []⟩ 8 (by kernel_rfl) (by kernel_rfl) (by kernel_rfl) (by kernel_rfl)) ?_
  intro W base args ds gs before hval hW _ _
  exact law_contract E21_ok kinds4 laid (by kernel_rfl) rfl (fun H ds hd => by
    match ds, hd with
    | [d1, d2, d3], _ => rfl) rfl Try.underlying4 hval hW law4

theorem readingSolutions_holds : Rows.ReadingSolutionsSaid :=
  OpenClaim.holds_of_wide 4 Try.f4 rfl rfl rfl rfl rfl rfl rfl ⟨rfl, rfl, rfl, rfl, rfl⟩ rfl rfl rfl rfl rfl (by kernel_rfl) Try.func4 (by kernel_rfl)
    (of_decide_eq_true (by kernel_rfl)) (by unfold Func.isWrapper; first | (rw [if_pos (by decide +kernel)]; kernel_rfl) | (rw [if_neg (by decide +kernel)]; exact ⟨rfl, rfl⟩))
    (fun os started H enc _ => lifted4 os started H enc)

#print axioms readingSolutions_holds
end Go.Proofs.Ytndaljjljmmlcaa

