/- For all its arguments the law TemperKernel returns true and leaves its arguments as they were. -/
import Derived.Test.YtnilimjkibimcaaTq
import Derived.Test.YtnilimjkibimcaaClA
import Derived.JoinedOf
import Derived.Handed
set_option linter.unusedVariables false

namespace Go.Proofs.Ytnilimjkibimcaa
open Go.Zz
theorem kinds22 : Try.f22.params.toList.mapM (paramK Try.prog) = some [(true, [.slice [.int .i64, .int .i64, .int .i64, .int .i64, .int .i64, .int .i64]]), (true, [.flat (.int .i64), .flat (.int .i64), .flat (.int .i64), .flat (.int .i64), .flat (.int .i64), .flat (.int .i64)])] := by kernel_rfl
theorem bounds22 : Try.f22.params.toList.mapM (ckB Try.prog 20) = some [[48], [0, 0, 0, 0, 0, 0]] := by kernel_rfl
theorem law22 (avs : List AV) (h : All2 PA [(true, [.slice [.int .i64, .int .i64, .int .i64, .int .i64, .int .i64, .int .i64]]), (true, [.flat (.int .i64), .flat (.int .i64), .flat (.int .i64), .flat (.int .i64), .flat (.int .i64), .flat (.int .i64)])] avs) (hb : All2 PB [[48], [0, 0, 0, 0, 0, 0]] avs) : ∃ n m', evF T24 n (.func 22 [] []) avs ⟨[], []⟩ = some (.bool true, m') := by
  obtain ⟨a1, r1, rfl, p1, h1⟩ := all2_cons h
  obtain ⟨a2, r2, rfl, p2, h2⟩ := all2_cons h1
  obtain rfl := all2_nil h2
  obtain ⟨q1, q2, _⟩ := hb
  obtain ⟨l, rs, rfl, rs1, rs3⟩ := pa_map p1 q1
  obtain ⟨v, rfl, v6⟩ := pa_vec p2
  obtain ⟨n, v, m', g, rfl⟩ := (run22 rs1 (by omega) v6).ex
  exact ⟨n, m', g⟩
set_option maxHeartbeats 1600000 in
set_option maxRecDepth 100000 in
theorem lifted22 (os : Os) (started : os.Started) (H : Type) (enc : TypeId × Value → H) :
    ReturnsInHanded {} Try.checked os 22 .any (Rows.temperKernelSpec.pre6 enc Try.prog Try.f22 Rows.temperKernelRow.domain false) (Rows.temperKernelSpec.post enc Try.prog Try.f22 false true false false) := by
  refine handed_reach (C := Try.checked) own started (by kernel_rfl) Try.func22
    (ChangeSpec.witness6 (enc := enc) (C := Try.checked) false ⟨#[], #[.agg #[.slice none 0 0], .agg #[.int .i64 0, .int .i64 0, .int .i64 0, .int .i64 0, .int .i64 0, .int .i64 0]], []⟩ 8 (by kernel_rfl) (by kernel_rfl) (by kernel_rfl) (by kernel_rfl)) ?_
  intro W base args ds gs before hval hW hwt
  exact law_contract2 T24_ok kinds22 bounds22 laid (by kernel_rfl) rfl (fun H ds hd => by
    match ds, hd with
    | [d1, d2], _ => rfl) rfl Try.underlying4 hval hW (noGlobW _) hwt law22
theorem fact9_22 : (Rows.temperKernelRow.inPlace == Try.prog.inPlace 22) = true := by kernel_rfl
theorem fact10_22 : (Rows.temperKernelRow.unfollowed == Try.prog.unfollowed 22) = true := by kernel_rfl
theorem fact11_22 : (Rows.temperKernelRow.recurses == Try.prog.recurses 22) = true := by kernel_rfl
theorem fact12_22 : (Rows.temperKernelRow.named == Try.prog.varsNamed 22) = true := by kernel_rfl
theorem facts22 : joinedFacts Try.prog 22 Try.f22 Rows.temperKernelSpec Rows.temperKernelRow = true := facts_of (by kernel_rfl) (by kernel_rfl) (by kernel_rfl) (by kernel_rfl) (by kernel_rfl) (by kernel_rfl) (by kernel_rfl) (by kernel_rfl) (by kernel_rfl) fact9_22 fact10_22 fact11_22 fact12_22 (by kernel_rfl) (by kernel_rfl) (by kernel_rfl) (by kernel_rfl) (by kernel_rfl) (by kernel_rfl) (by kernel_rfl) (by kernel_rfl) (by kernel_rfl) (by kernel_rfl) (by kernel_rfl) (by kernel_rfl) f_enter (by rw [f_lift]; rfl) (by rw [f_make]; rfl) (by kernel_rfl) (by kernel_rfl) (by kernel_rfl) (by kernel_rfl)
theorem temperKernel_holds : Rows.TemperKernelSaid :=
  OpenClaim.holds_of_wide 22 Try.f22 rfl rfl rfl rfl rfl rfl rfl ⟨rfl, rfl, rfl, rfl, rfl⟩ rfl rfl rfl rfl rfl (by kernel_rfl) Try.func22 facts22
    (of_decide_eq_true (by kernel_rfl)) (by unfold Func.isWrapper; first | (rw [if_pos (by decide +kernel)]; kernel_rfl) | (rw [if_neg (by decide +kernel)]; exact ⟨rfl, rfl⟩))
    (fun os started H enc _ => lifted22 os started H enc)
#print axioms temperKernel_holds
end Go.Proofs.Ytnilimjkibimcaa

