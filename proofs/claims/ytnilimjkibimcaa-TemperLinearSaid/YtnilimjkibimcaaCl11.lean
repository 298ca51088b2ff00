/- For all its arguments the law TemperLinear returns true and leaves its arguments as they were. -/
import Derived.Test.YtnilimjkibimcaaTj
import Derived.Test.YtnilimjkibimcaaClA
import Derived.JoinedOf
import Derived.Handed
set_option linter.unusedVariables false

namespace Go.Proofs.Ytnilimjkibimcaa
open Go.Zz
theorem kinds11 : Try.f11.params.toList.mapM (paramK Try.prog) = some [(true, [.slice [.int .i64, .int .i64, .int .i64, .int .i64, .int .i64, .int .i64]]), (true, [.flat (.int .i64), .flat (.int .i64), .flat (.int .i64), .flat (.int .i64), .flat (.int .i64), .flat (.int .i64)]), (true, [.flat (.int .i64), .flat (.int .i64), .flat (.int .i64), .flat (.int .i64), .flat (.int .i64), .flat (.int .i64)])] := by kernel_rfl
theorem bounds11 : Try.f11.params.toList.mapM (ckB Try.prog 20) = some [[48], [0, 0, 0, 0, 0, 0], [0, 0, 0, 0, 0, 0]] := by kernel_rfl
theorem law11 (avs : List AV) (h : All2 PA [(true, [.slice [.int .i64, .int .i64, .int .i64, .int .i64, .int .i64, .int .i64]]), (true, [.flat (.int .i64), .flat (.int .i64), .flat (.int .i64), .flat (.int .i64), .flat (.int .i64), .flat (.int .i64)]), (true, [.flat (.int .i64), .flat (.int .i64), .flat (.int .i64), .flat (.int .i64), .flat (.int .i64), .flat (.int .i64)])] avs) (hb : All2 PB [[48], [0, 0, 0, 0, 0, 0], [0, 0, 0, 0, 0, 0]] avs) : ∃ n m', evF T23 n (.func 11 [] []) avs ⟨[], []⟩ = some (.bool true, m') := by
  obtain ⟨a1, r1, rfl, p1, h1⟩ := all2_cons h
  obtain ⟨a2, r2, rfl, p2, h2⟩ := all2_cons h1
  obtain ⟨a3, r3, rfl, p3, h3⟩ := all2_cons h2
  obtain rfl := all2_nil h3
  obtain ⟨q1, q2, q3, _⟩ := hb
  obtain ⟨l, rs, rfl, rs1, rs3⟩ := pa_map p1 q1
  obtain ⟨v, rfl, v6⟩ := pa_vec p2
  obtain ⟨w, rfl, w6⟩ := pa_vec p3
  obtain ⟨n, v, m', g, rfl⟩ := (run11 rs1 (by omega) v6 w6).ex
  exact ⟨n, m', g⟩
set_option maxHeartbeats 1600000 in
set_option maxRecDepth 100000 in
theorem lifted11 (os : Os) (started : os.Started) (H : Type) (enc : TypeId × Value → H) :
    ReturnsInHanded {} Try.checked os 11 .any (Rows.temperLinearSpec.pre6 enc Try.prog Try.f11 Rows.temperLinearRow.domain false) (Rows.temperLinearSpec.post enc Try.prog Try.f11 false true false false) := by
  refine handed_reach (C := Try.checked) own started (by kernel_rfl) Try.func11
    (ChangeSpec.witness6 (enc := enc) (C := Try.checked) false ⟨#[], #[.agg #[.slice none 0 0], .agg #[.int .i64 0, .int .i64 0, .int .i64 0, .int .i64 0, .int .i64 0, .int .i64 0], .agg #[.int .i64 0, .int .i64 0, .int .i64 0, .int .i64 0, .int .i64 0, .int .i64 0]], []⟩ 8 (by kernel_rfl) (by kernel_rfl) (by kernel_rfl) (by kernel_rfl)) ?_
  intro W base args ds gs before hval hW hwt
  exact law_contract2 T23_ok kinds11 bounds11 laid (by kernel_rfl) rfl (fun H ds hd => by
    match ds, hd with
    | [d1, d2, d3], _ => rfl) rfl Try.underlying4 hval hW (noGlobW _) hwt law11
theorem fact9_11 : (Rows.temperLinearRow.inPlace == Try.prog.inPlace 11) = true := by kernel_rfl
theorem fact10_11 : (Rows.temperLinearRow.unfollowed == Try.prog.unfollowed 11) = true := by kernel_rfl
theorem fact11_11 : (Rows.temperLinearRow.recurses == Try.prog.recurses 11) = true := by kernel_rfl
theorem fact12_11 : (Rows.temperLinearRow.named == Try.prog.varsNamed 11) = true := by kernel_rfl
theorem facts11 : joinedFacts Try.prog 11 Try.f11 Rows.temperLinearSpec Rows.temperLinearRow = true := facts_of (by kernel_rfl) (by kernel_rfl) (by kernel_rfl) (by kernel_rfl) (by kernel_rfl) (by kernel_rfl) (by kernel_rfl) (by kernel_rfl) (by kernel_rfl) fact9_11 fact10_11 fact11_11 fact12_11 (by kernel_rfl) (by kernel_rfl) (by kernel_rfl) (by kernel_rfl) (by kernel_rfl) (by kernel_rfl) (by kernel_rfl) (by kernel_rfl) (by kernel_rfl) (by kernel_rfl) (by kernel_rfl) (by kernel_rfl) f_enter (by rw [f_lift]; rfl) (by rw [f_make]; rfl) (by kernel_rfl) (by kernel_rfl) (by kernel_rfl) (by kernel_rfl)
theorem temperLinear_holds : Rows.TemperLinearSaid :=
  OpenClaim.holds_of_wide 11 Try.f11 rfl rfl rfl rfl rfl rfl rfl ⟨rfl, rfl, rfl, rfl, rfl⟩ rfl rfl rfl rfl rfl (by kernel_rfl) Try.func11 facts11
    (of_decide_eq_true (by kernel_rfl)) (by unfold Func.isWrapper; first | (rw [if_pos (by decide +kernel)]; kernel_rfl) | (rw [if_neg (by decide +kernel)]; exact ⟨rfl, rfl⟩))
    (fun os started H enc _ => lifted11 os started H enc)
#print axioms temperLinear_holds
end Go.Proofs.Ytnilimjkibimcaa

