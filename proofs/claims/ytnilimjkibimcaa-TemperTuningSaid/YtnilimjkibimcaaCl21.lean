/- For all its arguments the law TemperTuning returns true and leaves its arguments as they were. -/
import Derived.Test.YtnilimjkibimcaaTp
import Derived.Test.YtnilimjkibimcaaClA
import Derived.JoinedOf
import Derived.Handed
set_option linter.unusedVariables false

namespace Go.Proofs.Ytnilimjkibimcaa
open Go.Zz
theorem kinds21 : Try.f21.params.toList.mapM (paramK Try.prog) = some [(true, [.slice [.int .i64, .int .i64, .int .i64, .int .i64, .int .i64, .int .i64]]), (false, [.slice [.int .i64, .int .i64, .int .i64, .int .i64, .int .i64, .int .i64]]), (false, [.slice [.int .i64, .int .i64, .int .i64, .int .i64, .int .i64, .int .i64]]), (true, [.flat (.int .i64), .flat (.int .i64), .flat (.int .i64), .flat (.int .i64), .flat (.int .i64), .flat (.int .i64)]), (true, [.flat (.int .i64), .flat (.int .i64), .flat (.int .i64), .flat (.int .i64), .flat (.int .i64), .flat (.int .i64)])] := by kernel_rfl
theorem bounds21 : Try.f21.params.toList.mapM (ckB Try.prog 20) = some [[48], [48], [48], [0, 0, 0, 0, 0, 0], [0, 0, 0, 0, 0, 0]] := by kernel_rfl
theorem law21 (avs : List AV) (h : All2 PA [(true, [.slice [.int .i64, .int .i64, .int .i64, .int .i64, .int .i64, .int .i64]]), (false, [.slice [.int .i64, .int .i64, .int .i64, .int .i64, .int .i64, .int .i64]]), (false, [.slice [.int .i64, .int .i64, .int .i64, .int .i64, .int .i64, .int .i64]]), (true, [.flat (.int .i64), .flat (.int .i64), .flat (.int .i64), .flat (.int .i64), .flat (.int .i64), .flat (.int .i64)]), (true, [.flat (.int .i64), .flat (.int .i64), .flat (.int .i64), .flat (.int .i64), .flat (.int .i64), .flat (.int .i64)])] avs) (hb : All2 PB [[48], [48], [48], [0, 0, 0, 0, 0, 0], [0, 0, 0, 0, 0, 0]] avs) : ∃ n m', evF V2 n (.func 21 [] []) avs ⟨[], []⟩ = some (.bool true, m') := by
  obtain ⟨a1, r1, rfl, p1, h1⟩ := all2_cons h
  obtain ⟨a2, r2, rfl, p2, h2⟩ := all2_cons h1
  obtain ⟨a3, r3, rfl, p3, h3⟩ := all2_cons h2
  obtain ⟨a4, r4, rfl, p4, h4⟩ := all2_cons h3
  obtain ⟨a5, r5, rfl, p5, h5⟩ := all2_cons h4
  obtain rfl := all2_nil h5
  obtain ⟨q1, q2, q3, q4, q5, _⟩ := hb
  obtain ⟨l, rs, rfl, rs1, rs3⟩ := pa_map p1 q1
  obtain ⟨gs, gs1, gs2⟩ := pa_rws p2
  have gsw := pb_sl gs1 q2
  have gs3 : gs.length * 48 ≤ 140737488351232 := by simpa [reachBytes] using gsw
  obtain ⟨ms, ms1, ms2⟩ := pa_rws p3
  have msw := pb_sl ms1 q3
  have ms3 : ms.length * 48 ≤ 140737488351232 := by simpa [reachBytes] using msw
  obtain ⟨v, rfl, v6⟩ := pa_vec p4
  obtain ⟨w, rfl, w6⟩ := pa_vec p5
  obtain ⟨n, v, m', g, rfl⟩ := (run21 rs1 (by omega) gs1 (by omega) ms1 (by omega) v6 w6).ex
  exact ⟨n, m', g⟩
set_option maxHeartbeats 1600000 in
set_option maxRecDepth 100000 in
theorem lifted21 (os : Os) (started : os.Started) (H : Type) (enc : TypeId × Value → H) :
    ReturnsInHanded {} Try.checked os 21 .any (Rows.temperTuningSpec.pre6 enc Try.prog Try.f21 Rows.temperTuningRow.domain false) (Rows.temperTuningSpec.post enc Try.prog Try.f21 false true false false) := by
  refine handed_reach (C := Try.checked) own started (by kernel_rfl) Try.func21
    (ChangeSpec.witness6 (enc := enc) (C := Try.checked) false ⟨#[], #[.agg #[.slice none 0 0], .slice none 0 0, .slice none 0 0, .agg #[.int .i64 0, .int .i64 0, .int .i64 0, .int .i64 0, .int .i64 0, .int .i64 0], .agg #[.int .i64 0, .int .i64 0, .int .i64 0, .int .i64 0, .int .i64 0, .int .i64 0]], []⟩ 8 (by kernel_rfl) (by kernel_rfl) (by kernel_rfl) (by kernel_rfl)) ?_
  intro W base args ds gs before hval hW hwt
  exact law_contract2 V2_ok kinds21 bounds21 laid (by kernel_rfl) rfl (fun H ds hd => by
    match ds, hd with
    | [d1, d2, d3, d4, d5], _ => rfl) rfl Try.underlying4 hval hW (noGlobW _) hwt law21
theorem fact9_21 : (Rows.temperTuningRow.inPlace == Try.prog.inPlace 21) = true := by kernel_rfl
theorem fact10_21 : (Rows.temperTuningRow.unfollowed == Try.prog.unfollowed 21) = true := by kernel_rfl
theorem fact11_21 : (Rows.temperTuningRow.recurses == Try.prog.recurses 21) = true := by kernel_rfl
theorem fact12_21 : (Rows.temperTuningRow.named == Try.prog.varsNamed 21) = true := by kernel_rfl
theorem facts21 : joinedFacts Try.prog 21 Try.f21 Rows.temperTuningSpec Rows.temperTuningRow = true := facts_of (by kernel_rfl) (by kernel_rfl) (by kernel_rfl) (by kernel_rfl) (by kernel_rfl) (by kernel_rfl) (by kernel_rfl) (by kernel_rfl) (by kernel_rfl) fact9_21 fact10_21 fact11_21 fact12_21 (by kernel_rfl) (by kernel_rfl) (by kernel_rfl) (by kernel_rfl) (by kernel_rfl) (by kernel_rfl) (by kernel_rfl) (by kernel_rfl) (by kernel_rfl) (by kernel_rfl) (by kernel_rfl) (by kernel_rfl) f_enter (by rw [f_lift]; rfl) (by rw [f_make]; rfl) (by kernel_rfl) (by kernel_rfl) (by kernel_rfl) (by kernel_rfl)
theorem temperTuning_holds : Rows.TemperTuningSaid :=
  OpenClaim.holds_of_wide 21 Try.f21 rfl rfl rfl rfl rfl rfl rfl ⟨rfl, rfl, rfl, rfl, rfl⟩ rfl rfl rfl rfl rfl (by kernel_rfl) Try.func21 facts21
    (of_decide_eq_true (by kernel_rfl)) (by unfold Func.isWrapper; first | (rw [if_pos (by decide +kernel)]; kernel_rfl) | (rw [if_neg (by decide +kernel)]; exact ⟨rfl, rfl⟩))
    (fun os started H enc _ => lifted21 os started H enc)
#print axioms temperTuning_holds
end Go.Proofs.Ytnilimjkibimcaa

