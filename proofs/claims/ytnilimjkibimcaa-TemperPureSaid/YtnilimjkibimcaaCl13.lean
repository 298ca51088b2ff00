/- For all its arguments the law TemperPure returns true and leaves its arguments as they were. -/
import Derived.Test.YtnilimjkibimcaaTk
import Derived.Test.YtnilimjkibimcaaClA
import Derived.JoinedOf
import Derived.Handed
set_option linter.unusedVariables false

namespace Go.Proofs.Ytnilimjkibimcaa
open Go.Zz
theorem kinds13 : Try.f13.params.toList.mapM (paramK Try.prog) = some [(true, [.slice [.int .i64, .int .i64, .int .i64, .int .i64, .int .i64, .int .i64]]), (false, [.slice [.int .i64, .int .i64, .int .i64, .int .i64, .int .i64, .int .i64]]), (true, [.flat (.int .i64), .flat (.int .i64), .flat (.int .i64), .flat (.int .i64), .flat (.int .i64), .flat (.int .i64)]), (true, [.flat (.int .i64), .flat (.int .i64), .flat (.int .i64), .flat (.int .i64), .flat (.int .i64), .flat (.int .i64)])] := by kernel_rfl
theorem bounds13 : Try.f13.params.toList.mapM (ckB Try.prog 20) = some [[48], [48], [0, 0, 0, 0, 0, 0], [0, 0, 0, 0, 0, 0]] := by kernel_rfl
theorem law13 (avs : List AV) (h : All2 PA [(true, [.slice [.int .i64, .int .i64, .int .i64, .int .i64, .int .i64, .int .i64]]), (false, [.slice [.int .i64, .int .i64, .int .i64, .int .i64, .int .i64, .int .i64]]), (true, [.flat (.int .i64), .flat (.int .i64), .flat (.int .i64), .flat (.int .i64), .flat (.int .i64), .flat (.int .i64)]), (true, [.flat (.int .i64), .flat (.int .i64), .flat (.int .i64), .flat (.int .i64), .flat (.int .i64), .flat (.int .i64)])] avs) (hb : All2 PB [[48], [48], [0, 0, 0, 0, 0, 0], [0, 0, 0, 0, 0, 0]] avs) : ∃ n m', evF T23 n (.func 13 [] []) avs ⟨[], []⟩ = some (.bool true, m') := by
  obtain ⟨a1, r1, rfl, p1, h1⟩ := all2_cons h
  obtain ⟨a2, r2, rfl, p2, h2⟩ := all2_cons h1
  obtain ⟨a3, r3, rfl, p3, h3⟩ := all2_cons h2
  obtain ⟨a4, r4, rfl, p4, h4⟩ := all2_cons h3
  obtain rfl := all2_nil h4
  obtain ⟨q1, q2, q3, q4, _⟩ := hb
  obtain ⟨l, rs, rfl, rs1, rs3⟩ := pa_map p1 q1
  obtain ⟨gs, gs1, gs2⟩ := pa_rws p2
  have gsw := pb_sl gs1 q2
  have gs3 : gs.length * 48 ≤ 140737488351232 := by simpa [reachBytes] using gsw
  obtain ⟨v, rfl, v6⟩ := pa_vec p3
  obtain ⟨w, rfl, w6⟩ := pa_vec p4
  obtain ⟨n, v, m', g, rfl⟩ := (run13 rs1 (by omega) gs1 (by omega) v6 w6).ex
  exact ⟨n, m', g⟩
set_option maxHeartbeats 1600000 in
set_option maxRecDepth 100000 in
theorem lifted13 (os : Os) (started : os.Started) (H : Type) (enc : TypeId × Value → H) :
    ReturnsInHanded {} Try.checked os 13 .any (Rows.temperPureSpec.pre6 enc Try.prog Try.f13 Rows.temperPureRow.domain false) (Rows.temperPureSpec.post enc Try.prog Try.f13 false true false false) := by
  refine handed_reach (C := Try.checked) own started (by kernel_rfl) Try.func13
    (ChangeSpec.witness6 (enc := enc) (C := Try.checked) false ⟨#[], #[.agg #[.slice none 0 0], .slice none 0 0, .agg #[.int .i64 0, .int .i64 0, .int .i64 0, .int .i64 0, .int .i64 0, .int .i64 0], .agg #[.int .i64 0, .int .i64 0, .int .i64 0, .int .i64 0, .int .i64 0, .int .i64 0]], []⟩ 8 (by kernel_rfl) (by kernel_rfl) (by kernel_rfl) (by kernel_rfl)) ?_
  intro W base args ds gs before hval hW hwt
  exact law_contract2 T23_ok kinds13 bounds13 laid (by kernel_rfl) rfl (fun H ds hd => by
    match ds, hd with
    | [d1, d2, d3, d4], _ => rfl) rfl Try.underlying4 hval hW (noGlobW _) hwt law13
theorem fact9_13 : (Rows.temperPureRow.inPlace == Try.prog.inPlace 13) = true := by kernel_rfl
theorem fact10_13 : (Rows.temperPureRow.unfollowed == Try.prog.unfollowed 13) = true := by kernel_rfl
theorem fact11_13 : (Rows.temperPureRow.recurses == Try.prog.recurses 13) = true := by kernel_rfl
theorem fact12_13 : (Rows.temperPureRow.named == Try.prog.varsNamed 13) = true := by kernel_rfl
theorem facts13 : joinedFacts Try.prog 13 Try.f13 Rows.temperPureSpec Rows.temperPureRow = true := facts_of (by kernel_rfl) (by kernel_rfl) (by kernel_rfl) (by kernel_rfl) (by kernel_rfl) (by kernel_rfl) (by kernel_rfl) (by kernel_rfl) (by kernel_rfl) fact9_13 fact10_13 fact11_13 fact12_13 (by kernel_rfl) (by kernel_rfl) (by kernel_rfl) (by kernel_rfl) (by kernel_rfl) (by kernel_rfl) (by kernel_rfl) (by kernel_rfl) (by kernel_rfl) (by kernel_rfl) (by kernel_rfl) (by kernel_rfl) f_enter (by rw [f_lift]; rfl) (by rw [f_make]; rfl) (by kernel_rfl) (by kernel_rfl) (by kernel_rfl) (by kernel_rfl)
theorem temperPure_holds : Rows.TemperPureSaid :=
  OpenClaim.holds_of_wide 13 Try.f13 rfl rfl rfl rfl rfl rfl rfl ⟨rfl, rfl, rfl, rfl, rfl⟩ rfl rfl rfl rfl rfl (by kernel_rfl) Try.func13 facts13
    (of_decide_eq_true (by kernel_rfl)) (by unfold Func.isWrapper; first | (rw [if_pos (by decide +kernel)]; kernel_rfl) | (rw [if_neg (by decide +kernel)]; exact ⟨rfl, rfl⟩))
    (fun os started H enc _ => lifted13 os started H enc)
#print axioms temperPure_holds
end Go.Proofs.Ytnilimjkibimcaa

