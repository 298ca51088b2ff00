/- For all its arguments the law MatrixMatchesReference returns true and leaves its arguments as they were. -/
import Derived.Test.YtnilimjkibimcaaQi
import Derived.Test.YtnilimjkibimcaaClA
import Derived.JoinedOf
import Derived.Handed
set_option linter.unusedVariables false

namespace Go.Proofs.Ytnilimjkibimcaa
open Go.Zz
theorem kinds3 : Try.f3.params.toList.mapM (paramK Try.prog) = some [(false, [.slice [.int .i64, .int .i64, .int .i64, .int .i64, .int .i64, .int .i64]])] := by kernel_rfl
theorem bounds3 : Try.f3.params.toList.mapM (ckB Try.prog 20) = some [[48]] := by kernel_rfl
theorem law3 (avs : List AV) (h : All2 PA [(false, [.slice [.int .i64, .int .i64, .int .i64, .int .i64, .int .i64, .int .i64]])] avs) (hb : All2 PB [[48]] avs) : ∃ n m', evF C4 n (.func 3 [] []) avs ⟨[], []⟩ = some (.bool true, m') := by
  obtain ⟨a1, r1, rfl, p1, h1⟩ := all2_cons h
  obtain rfl := all2_nil h1
  obtain ⟨q1, _⟩ := hb
  obtain ⟨rs, rs1, rs2⟩ := pa_rws p1
  have rsw := pb_sl rs1 q1
  have rs3 : rs.length * 48 ≤ 140737488351232 := by simpa [reachBytes] using rsw
  obtain ⟨n, v, m', g, rfl⟩ := (run3 rs1 (by omega)).ex
  exact ⟨n, m', g⟩
set_option maxHeartbeats 1600000 in
set_option maxRecDepth 100000 in
theorem lifted3 (os : Os) (started : os.Started) (H : Type) (enc : TypeId × Value → H) :
    ReturnsInHanded {} Try.checked os 3 .any (Rows.matrixMatchesReferenceSpec.pre6 enc Try.prog Try.f3 Rows.matrixMatchesReferenceRow.domain false) (Rows.matrixMatchesReferenceSpec.post enc Try.prog Try.f3 false true false false) := by
  refine handed_reach (C := Try.checked) own started (by kernel_rfl) Try.func3
    (ChangeSpec.witness6 (enc := enc) (C := Try.checked) false ⟨#[], #[.slice none 0 0], []⟩ 8 (by kernel_rfl) (by kernel_rfl) (by kernel_rfl) (by kernel_rfl)) ?_
  intro W base args ds gs before hval hW hwt
  exact law_contract2 C4_ok kinds3 bounds3 laid (by kernel_rfl) rfl (fun H ds hd => by
    match ds, hd with
    | [d1], _ => rfl) rfl Try.underlying4 hval hW (noGlobW _) hwt law3
theorem fact9_3 : (Rows.matrixMatchesReferenceRow.inPlace == Try.prog.inPlace 3) = true := by kernel_rfl
theorem fact10_3 : (Rows.matrixMatchesReferenceRow.unfollowed == Try.prog.unfollowed 3) = true := by kernel_rfl
theorem fact11_3 : (Rows.matrixMatchesReferenceRow.recurses == Try.prog.recurses 3) = true := by kernel_rfl
theorem fact12_3 : (Rows.matrixMatchesReferenceRow.named == Try.prog.varsNamed 3) = true := by kernel_rfl
theorem facts3 : joinedFacts Try.prog 3 Try.f3 Rows.matrixMatchesReferenceSpec Rows.matrixMatchesReferenceRow = true := facts_of (by kernel_rfl) (by kernel_rfl) (by kernel_rfl) (by kernel_rfl) (by kernel_rfl) (by kernel_rfl) (by kernel_rfl) (by kernel_rfl) (by kernel_rfl) fact9_3 fact10_3 fact11_3 fact12_3 (by kernel_rfl) (by kernel_rfl) (by kernel_rfl) (by kernel_rfl) (by kernel_rfl) (by kernel_rfl) (by kernel_rfl) (by kernel_rfl) (by kernel_rfl) (by kernel_rfl) (by kernel_rfl) (by kernel_rfl) f_enter (by rw [f_lift]; rfl) (by rw [f_make]; rfl) (by kernel_rfl) (by kernel_rfl) (by kernel_rfl) (by kernel_rfl)
theorem matrixMatchesReference_holds : Rows.MatrixMatchesReferenceSaid :=
  OpenClaim.holds_of_wide 3 Try.f3 rfl rfl rfl rfl rfl rfl rfl ⟨rfl, rfl, rfl, rfl, rfl⟩ rfl rfl rfl rfl rfl (by kernel_rfl) Try.func3 facts3
    (of_decide_eq_true (by kernel_rfl)) (by unfold Func.isWrapper; first | (rw [if_pos (by decide +kernel)]; kernel_rfl) | (rw [if_neg (by decide +kernel)]; exact ⟨rfl, rfl⟩))
    (fun os started H enc _ => lifted3 os started H enc)
#print axioms matrixMatchesReference_holds
end Go.Proofs.Ytnilimjkibimcaa

