/- For all its arguments the law MatrixNormal returns true and leaves its arguments as they were. -/
import Derived.Test.YtnilimjkibimcaaQk
import Derived.Test.YtnilimjkibimcaaClA
import Derived.JoinedOf
import Derived.Handed
set_option linter.unusedVariables false

namespace Go.Proofs.Ytnilimjkibimcaa
open Go.Zz
theorem kinds4 : Try.f4.params.toList.mapM (paramK Try.prog) = some [(false, [.slice [.int .i64, .int .i64, .int .i64, .int .i64, .int .i64, .int .i64]])] := by kernel_rfl
theorem bounds4 : Try.f4.params.toList.mapM (ckB Try.prog 20) = some [[48]] := by kernel_rfl
theorem law4 (avs : List AV) (h : All2 PA [(false, [.slice [.int .i64, .int .i64, .int .i64, .int .i64, .int .i64, .int .i64]])] avs) (hb : All2 PB [[48]] avs) : ∃ n m', evF D4 n (.func 4 [] []) avs ⟨[], []⟩ = some (.bool true, m') := by
  obtain ⟨a1, r1, rfl, p1, h1⟩ := all2_cons h
  obtain rfl := all2_nil h1
  obtain ⟨q1, _⟩ := hb
  obtain ⟨rs, rs1, rs2⟩ := pa_rws p1
  have rsw := pb_sl rs1 q1
  have rs3 : rs.length * 48 ≤ 140737488351232 := by simpa [reachBytes] using rsw
  obtain ⟨n, v, m', g, rfl⟩ := (run4 rs1 (by omega)).ex
  exact ⟨n, m', g⟩
set_option maxHeartbeats 1600000 in
set_option maxRecDepth 100000 in
theorem lifted4 (os : Os) (started : os.Started) (H : Type) (enc : TypeId × Value → H) :
    ReturnsInHanded {} Try.checked os 4 .any (Rows.matrixNormalSpec.pre6 enc Try.prog Try.f4 Rows.matrixNormalRow.domain false) (Rows.matrixNormalSpec.post enc Try.prog Try.f4 false true false false) := by
  refine handed_reach (C := Try.checked) own started (by kernel_rfl) Try.func4
    (ChangeSpec.witness6 (enc := enc) (C := Try.checked) false ⟨#[], #[.slice none 0 0], []⟩ 8 (by kernel_rfl) (by kernel_rfl) (by kernel_rfl) (by kernel_rfl)) ?_
  intro W base args ds gs before hval hW hwt
  exact law_contract2 D4_ok kinds4 bounds4 laid (by kernel_rfl) rfl (fun H ds hd => by
    match ds, hd with
    | [d1], _ => rfl) rfl Try.underlying4 hval hW (noGlobW _) hwt law4
theorem fact9_4 : (Rows.matrixNormalRow.inPlace == Try.prog.inPlace 4) = true := by kernel_rfl
theorem fact10_4 : (Rows.matrixNormalRow.unfollowed == Try.prog.unfollowed 4) = true := by kernel_rfl
theorem fact11_4 : (Rows.matrixNormalRow.recurses == Try.prog.recurses 4) = true := by kernel_rfl
theorem fact12_4 : (Rows.matrixNormalRow.named == Try.prog.varsNamed 4) = true := by kernel_rfl
theorem facts4 : joinedFacts Try.prog 4 Try.f4 Rows.matrixNormalSpec Rows.matrixNormalRow = true := facts_of (by kernel_rfl) (by kernel_rfl) (by kernel_rfl) (by kernel_rfl) (by kernel_rfl) (by kernel_rfl) (by kernel_rfl) (by kernel_rfl) (by kernel_rfl) fact9_4 fact10_4 fact11_4 fact12_4 (by kernel_rfl) (by kernel_rfl) (by kernel_rfl) (by kernel_rfl) (by kernel_rfl) (by kernel_rfl) (by kernel_rfl) (by kernel_rfl) (by kernel_rfl) (by kernel_rfl) (by kernel_rfl) (by kernel_rfl) f_enter (by rw [f_lift]; rfl) (by rw [f_make]; rfl) (by kernel_rfl) (by kernel_rfl) (by kernel_rfl) (by kernel_rfl)
theorem matrixNormal_holds : Rows.MatrixNormalSaid :=
  OpenClaim.holds_of_wide 4 Try.f4 rfl rfl rfl rfl rfl rfl rfl ⟨rfl, rfl, rfl, rfl, rfl⟩ rfl rfl rfl rfl rfl (by kernel_rfl) Try.func4 facts4
    (of_decide_eq_true (by kernel_rfl)) (by unfold Func.isWrapper; first | (rw [if_pos (by decide +kernel)]; kernel_rfl) | (rw [if_neg (by decide +kernel)]; exact ⟨rfl, rfl⟩))
    (fun os started H enc _ => lifted4 os started H enc)
#print axioms matrixNormal_holds
end Go.Proofs.Ytnilimjkibimcaa

