/- For all its arguments the law MatrixDivisors returns true and leaves its arguments as they were. -/
import Derived.Test.YtnilimjkibimcaaQl
import Derived.Test.YtnilimjkibimcaaClA
import Derived.JoinedOf
import Derived.Handed
set_option linter.unusedVariables false

namespace Go.Proofs.Ytnilimjkibimcaa
open Go.Zz
theorem kinds8 : Try.f8.params.toList.mapM (paramK Try.prog) = some [(false, [.slice [.int .i64, .int .i64, .int .i64, .int .i64, .int .i64, .int .i64]])] := by kernel_rfl
theorem bounds8 : Try.f8.params.toList.mapM (ckB Try.prog 20) = some [[48]] := by kernel_rfl
theorem law8 (avs : List AV) (h : All2 PA [(false, [.slice [.int .i64, .int .i64, .int .i64, .int .i64, .int .i64, .int .i64]])] avs) (hb : All2 PB [[48]] avs) : ∃ n m', evF E43 n (.func 8 [] []) avs ⟨[], []⟩ = some (.bool true, m') := by
  obtain ⟨a1, r1, rfl, p1, h1⟩ := all2_cons h
  obtain rfl := all2_nil h1
  obtain ⟨q1, _⟩ := hb
  obtain ⟨rs, rs1, rs2⟩ := pa_rws p1
  have rsw := pb_sl rs1 q1
  have rs3 : rs.length * 48 ≤ 140737488351232 := by simpa [reachBytes] using rsw
  obtain ⟨n, v, m', g, rfl⟩ := (run8 rs1 (by omega)).ex
  exact ⟨n, m', g⟩
set_option maxHeartbeats 1600000 in
set_option maxRecDepth 100000 in
theorem lifted8 (os : Os) (started : os.Started) (H : Type) (enc : TypeId × Value → H) :
    ReturnsInHanded {} Try.checked os 8 .any (Rows.matrixDivisorsSpec.pre6 enc Try.prog Try.f8 Rows.matrixDivisorsRow.domain false) (Rows.matrixDivisorsSpec.post enc Try.prog Try.f8 false true false false) := by
  refine handed_reach (C := Try.checked) own started (by kernel_rfl) Try.func8
    (ChangeSpec.witness6 (enc := enc) (C := Try.checked) false ⟨#[], #[.slice none 0 0], []⟩ 8 (by kernel_rfl) (by kernel_rfl) (by kernel_rfl) (by kernel_rfl)) ?_
  intro W base args ds gs before hval hW hwt
  exact law_contract2 E43_ok kinds8 bounds8 laid (by kernel_rfl) rfl (fun H ds hd => by
    match ds, hd with
    | [d1], _ => rfl) rfl Try.underlying4 hval hW (noGlobW _) hwt law8
theorem fact9_8 : (Rows.matrixDivisorsRow.inPlace == Try.prog.inPlace 8) = true := by kernel_rfl
theorem fact10_8 : (Rows.matrixDivisorsRow.unfollowed == Try.prog.unfollowed 8) = true := by kernel_rfl
theorem fact11_8 : (Rows.matrixDivisorsRow.recurses == Try.prog.recurses 8) = true := by kernel_rfl
theorem fact12_8 : (Rows.matrixDivisorsRow.named == Try.prog.varsNamed 8) = true := by kernel_rfl
theorem facts8 : joinedFacts Try.prog 8 Try.f8 Rows.matrixDivisorsSpec Rows.matrixDivisorsRow = true := facts_of (by kernel_rfl) (by kernel_rfl) (by kernel_rfl) (by kernel_rfl) (by kernel_rfl) (by kernel_rfl) (by kernel_rfl) (by kernel_rfl) (by kernel_rfl) fact9_8 fact10_8 fact11_8 fact12_8 (by kernel_rfl) (by kernel_rfl) (by kernel_rfl) (by kernel_rfl) (by kernel_rfl) (by kernel_rfl) (by kernel_rfl) (by kernel_rfl) (by kernel_rfl) (by kernel_rfl) (by kernel_rfl) (by kernel_rfl) f_enter (by rw [f_lift]; rfl) (by rw [f_make]; rfl) (by kernel_rfl) (by kernel_rfl) (by kernel_rfl) (by kernel_rfl)
theorem matrixDivisors_holds : Rows.MatrixDivisorsSaid :=
  OpenClaim.holds_of_wide 8 Try.f8 rfl rfl rfl rfl rfl rfl rfl ⟨rfl, rfl, rfl, rfl, rfl⟩ rfl rfl rfl rfl rfl (by kernel_rfl) Try.func8 facts8
    (of_decide_eq_true (by kernel_rfl)) (by unfold Func.isWrapper; first | (rw [if_pos (by decide +kernel)]; kernel_rfl) | (rw [if_neg (by decide +kernel)]; exact ⟨rfl, rfl⟩))
    (fun os started H enc _ => lifted8 os started H enc)
#print axioms matrixDivisors_holds
end Go.Proofs.Ytnilimjkibimcaa

