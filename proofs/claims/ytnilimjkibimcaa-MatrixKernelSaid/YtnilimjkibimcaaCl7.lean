/- For all its arguments the law MatrixKernel returns true and leaves its arguments as they were. -/
import Derived.Test.YtnilimjkibimcaaQm
import Derived.Test.YtnilimjkibimcaaClA
import Derived.JoinedOf
import Derived.Handed
set_option linter.unusedVariables false

namespace Go.Proofs.Ytnilimjkibimcaa
open Go.Zz
theorem kinds7 : Try.f7.params.toList.mapM (paramK Try.prog) = some [(false, [.slice [.int .i64, .int .i64, .int .i64, .int .i64, .int .i64, .int .i64]]), (true, [.flat (.int .i64), .flat (.int .i64), .flat (.int .i64), .flat (.int .i64), .flat (.int .i64), .flat (.int .i64)])] := by kernel_rfl
theorem bounds7 : Try.f7.params.toList.mapM (ckB Try.prog 20) = some [[48], [0, 0, 0, 0, 0, 0]] := by kernel_rfl
theorem law7 (avs : List AV) (h : All2 PA [(false, [.slice [.int .i64, .int .i64, .int .i64, .int .i64, .int .i64, .int .i64]]), (true, [.flat (.int .i64), .flat (.int .i64), .flat (.int .i64), .flat (.int .i64), .flat (.int .i64), .flat (.int .i64)])] avs) (hb : All2 PB [[48], [0, 0, 0, 0, 0, 0]] avs) : ∃ n m', evF D5 n (.func 7 [] []) avs ⟨[], []⟩ = some (.bool true, m') := by
  obtain ⟨a1, r1, rfl, p1, h1⟩ := all2_cons h
  obtain ⟨a2, r2, rfl, p2, h2⟩ := all2_cons h1
  obtain rfl := all2_nil h2
  obtain ⟨q1, q2, _⟩ := hb
  obtain ⟨rs, rs1, rs2⟩ := pa_rws p1
  have rsw := pb_sl rs1 q1
  have rs3 : rs.length * 48 ≤ 140737488351232 := by simpa [reachBytes] using rsw
  obtain ⟨r, rfl, r6⟩ := pa_vec p2
  obtain ⟨n, v, m', g, rfl⟩ := (run7 rs1 (by omega) r6).ex
  exact ⟨n, m', g⟩
set_option maxHeartbeats 1600000 in
set_option maxRecDepth 100000 in
theorem lifted7 (os : Os) (started : os.Started) (H : Type) (enc : TypeId × Value → H) :
    ReturnsInHanded {} Try.checked os 7 .any (Rows.matrixKernelSpec.pre6 enc Try.prog Try.f7 Rows.matrixKernelRow.domain false) (Rows.matrixKernelSpec.post enc Try.prog Try.f7 false true false false) := by
  refine handed_reach (C := Try.checked) own started (by kernel_rfl) Try.func7
    (ChangeSpec.witness6 (enc := enc) (C := Try.checked) false ⟨#[], #[.slice none 0 0, .agg #[.int .i64 0, .int .i64 0, .int .i64 0, .int .i64 0, .int .i64 0, .int .i64 0]], []⟩ 8 (by kernel_rfl) (by kernel_rfl) (by kernel_rfl) (by kernel_rfl)) ?_
  intro W base args ds gs before hval hW hwt
  exact law_contract2 D5_ok kinds7 bounds7 laid (by kernel_rfl) rfl (fun H ds hd => by
    match ds, hd with
    | [d1, d2], _ => rfl) rfl Try.underlying4 hval hW (noGlobW _) hwt law7
theorem fact9_7 : (Rows.matrixKernelRow.inPlace == Try.prog.inPlace 7) = true := by kernel_rfl
theorem fact10_7 : (Rows.matrixKernelRow.unfollowed == Try.prog.unfollowed 7) = true := by kernel_rfl
theorem fact11_7 : (Rows.matrixKernelRow.recurses == Try.prog.recurses 7) = true := by kernel_rfl
theorem fact12_7 : (Rows.matrixKernelRow.named == Try.prog.varsNamed 7) = true := by kernel_rfl
theorem facts7 : joinedFacts Try.prog 7 Try.f7 Rows.matrixKernelSpec Rows.matrixKernelRow = true := facts_of (by kernel_rfl) (by kernel_rfl) (by kernel_rfl) (by kernel_rfl) (by kernel_rfl) (by kernel_rfl) (by kernel_rfl) (by kernel_rfl) (by kernel_rfl) fact9_7 fact10_7 fact11_7 fact12_7 (by kernel_rfl) (by kernel_rfl) (by kernel_rfl) (by kernel_rfl) (by kernel_rfl) (by kernel_rfl) (by kernel_rfl) (by kernel_rfl) (by kernel_rfl) (by kernel_rfl) (by kernel_rfl) (by kernel_rfl) f_enter (by rw [f_lift]; rfl) (by rw [f_make]; rfl) (by kernel_rfl) (by kernel_rfl) (by kernel_rfl) (by kernel_rfl)
theorem matrixKernel_holds : Rows.MatrixKernelSaid :=
  OpenClaim.holds_of_wide 7 Try.f7 rfl rfl rfl rfl rfl rfl rfl ⟨rfl, rfl, rfl, rfl, rfl⟩ rfl rfl rfl rfl rfl (by kernel_rfl) Try.func7 facts7
    (of_decide_eq_true (by kernel_rfl)) (by unfold Func.isWrapper; first | (rw [if_pos (by decide +kernel)]; kernel_rfl) | (rw [if_neg (by decide +kernel)]; exact ⟨rfl, rfl⟩))
    (fun os started H enc _ => lifted7 os started H enc)
#print axioms matrixKernel_holds
end Go.Proofs.Ytnilimjkibimcaa

