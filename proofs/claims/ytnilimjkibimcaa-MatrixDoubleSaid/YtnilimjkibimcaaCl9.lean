/- For all its arguments the law MatrixDouble returns true and leaves its arguments as they were. -/
import Derived.Test.YtnilimjkibimcaaQe
import Derived.Test.YtnilimjkibimcaaClA
import Derived.JoinedOf
import Derived.Handed

set_option linter.unusedVariables false
namespace Go.Proofs.Ytnilimjkibimcaa
open Go.Zz


theorem kinds9 : Try.f9.params.toList.mapM (paramK Try.prog) = some [(false, [.slice [.int .i64, .int .i64, .int .i64, .int .i64, .int .i64, .int .i64]])] := by kernel_rfl
theorem bounds9 : Try.f9.params.toList.mapM (ckB Try.prog 20) = some [[48]] := by kernel_rfl

theorem law9 (avs : List AV) (h : All2 PA [(false, [.slice [.int .i64, .int .i64, .int .i64, .int .i64, .int .i64, .int .i64]])] avs) (hb : All2 PB [[48]] avs) : ∃ n m', evF E46 n (.func 9 [] []) avs ⟨[], []⟩ = some (.bool true, m') := by
  obtain ⟨a1, r1, rfl, p1, h1⟩ := all2_cons h
  obtain rfl := all2_nil h1
  obtain ⟨q1, _⟩ := hb
  obtain ⟨rs, rs1, rs2⟩ := pa_rws p1
  have rsw := pb_sl rs1 q1
  have rs3 : rs.length * 48 ≤ 140737488351232 := by simpa [reachBytes] using rsw
  obtain ⟨n, v, m', g, rfl⟩ := (run9 rs1 (by omega)).ex
  exact ⟨n, m', g⟩

set_option maxHeartbeats 1600000 in
set_option maxRecDepth 100000 in
theorem lifted9 (os : Os) (started : os.Started) (H : Type) (enc : TypeId × Value → H) :
    ReturnsInHanded {} Try.checked os 9 .any (Rows.matrixDoubleSpec.pre6 enc Try.prog Try.f9 Rows.matrixDoubleRow.domain false) (Rows.matrixDoubleSpec.post enc Try.prog Try.f9 false true false false) := by
  refine handed_reach (C := Try.checked) own started (by kernel_rfl) Try.func9
    (ChangeSpec.witness6 (enc := enc) (C := Try.checked) false ⟨#[], #[.slice none 0 0], []⟩ 8 (by kernel_rfl) (by kernel_rfl) (by kernel_rfl) (by kernel_rfl)) ?_
  intro W base args ds gs before hval hW hwt
  exact law_contract2 E46_ok kinds9 bounds9 laid (by kernel_rfl) rfl (fun H ds hd => by
    match ds, hd with
    | [d1], _ => rfl) rfl Try.underlying4 hval hW (noGlobW _) hwt law9

theorem fact9_9 : (Rows.matrixDoubleRow.inPlace == Try.prog.inPlace 9) = true := by kernel_rfl
theorem fact10_9 : (Rows.matrixDoubleRow.unfollowed == Try.prog.unfollowed 9) = true := by kernel_rfl
theorem fact11_9 : (Rows.matrixDoubleRow.recurses == Try.prog.recurses 9) = true := by kernel_rfl
theorem fact12_9 : (Rows.matrixDoubleRow.named == Try.prog.varsNamed 9) = true := by kernel_rfl
theorem facts9 : joinedFacts Try.prog 9 Try.f9 Rows.matrixDoubleSpec Rows.matrixDoubleRow = true := facts_of (by kernel_rfl) (by kernel_rfl) (by kernel_rfl) (by kernel_rfl) (by kernel_rfl) (by kernel_rfl) (by kernel_rfl) (by kernel_rfl) (by kernel_rfl) fact9_9 fact10_9 fact11_9 fact12_9 (by kernel_rfl) (by kernel_rfl) (by kernel_rfl) (by kernel_rfl) (by kernel_rfl) (by kernel_rfl) (by kernel_rfl) (by kernel_rfl) (by kernel_rfl) (by kernel_rfl) (by kernel_rfl) (by kernel_rfl) f_enter (by rw [f_lift]; rfl) (by rw [f_make]; rfl) (by kernel_rfl) (by kernel_rfl) (by kernel_rfl) (by kernel_rfl)
theorem matrixDouble_holds : Rows.MatrixDoubleSaid :=
  OpenClaim.holds_of_wide 9 Try.f9 rfl rfl rfl rfl rfl rfl rfl ⟨rfl, rfl, rfl, rfl, rfl⟩ rfl rfl rfl rfl rfl (by kernel_rfl) Try.func9 facts9
    (of_decide_eq_true (by kernel_rfl)) (by unfold Func.isWrapper; first | (rw [if_pos (by decide +kernel)]; kernel_rfl) | (rw [if_neg (by decide +kernel)]; exact ⟨rfl, rfl⟩))
    (fun os started H enc _ => lifted9 os started H enc)

#print axioms matrixDouble_holds
end Go.Proofs.Ytnilimjkibimcaa

