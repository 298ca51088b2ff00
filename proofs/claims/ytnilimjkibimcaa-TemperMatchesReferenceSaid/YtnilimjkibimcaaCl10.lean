/- For all its arguments the law TemperMatchesReference returns true and leaves its arguments as they were. -/
import Derived.Test.YtnilimjkibimcaaTn
import Derived.Test.YtnilimjkibimcaaClA
import Derived.JoinedOf
import Derived.Handed

set_option linter.unusedVariables false

namespace Go.Proofs.Ytnilimjkibimcaa
open Go.Zz
theorem kinds10 : Try.f10.params.toList.mapM (paramK Try.prog) = some [(true, [.slice [.int .i64, .int .i64, .int .i64, .int .i64, .int .i64, .int .i64]]), (false, [.slice [.int .i64, .int .i64, .int .i64, .int .i64, .int .i64, .int .i64]]), (true, [.flat (.int .i64), .flat (.int .i64), .flat (.int .i64), .flat (.int .i64), .flat (.int .i64), .flat (.int .i64)]), (false, [.slice [.int .i64, .int .i64, .int .i64, .int .i64, .int .i64, .int .i64]])] := by kernel_rfl
theorem bounds10 : Try.f10.params.toList.mapM (ckB Try.prog 20) = some [[48], [48], [0, 0, 0, 0, 0, 0], [48]] := by kernel_rfl
theorem law10 (avs : List AV) (h : All2 PA [(true, [.slice [.int .i64, .int .i64, .int .i64, .int .i64, .int .i64, .int .i64]]), (false, [.slice [.int .i64, .int .i64, .int .i64, .int .i64, .int .i64, .int .i64]]), (true, [.flat (.int .i64), .flat (.int .i64), .flat (.int .i64), .flat (.int .i64), .flat (.int .i64), .flat (.int .i64)]), (false, [.slice [.int .i64, .int .i64, .int .i64, .int .i64, .int .i64, .int .i64]])] avs) (hb : All2 PB [[48], [48], [0, 0, 0, 0, 0, 0], [48]] avs) : ∃ n m', evF U14 n (.func 10 [] []) avs ⟨[], []⟩ = some (.bool true, m') := by
 obtain ⟨a1, r1, rfl, p1, h1⟩ := all2_cons h
 obtain ⟨a2, r2, rfl, p2, h2⟩ := all2_cons h1
 obtain ⟨a3, r3, rfl, p3, h3⟩ := all2_cons h2
 obtain ⟨a4, r4, rfl, p4, h4⟩ := all2_cons h3
 obtain rfl := all2_nil h4
 obtain ⟨q1, q2, q3, q4, _⟩ := hb
 obtain ⟨l, rs, rfl, rs1, rs3⟩ := pa_map p1 q1
 obtain ⟨gs, gs1, gs2⟩ := pa_rws p2
 have gsw := pb_sl gs1 q2
 have gs3 : gs.length * 48 ≤ 140737488351232 := by simpa [reachBytes] using gsw
 obtain ⟨v, rfl, v6⟩ := pa_vec p3
 obtain ⟨cs, cs1, cs2⟩ := pa_rws p4
 have csw := pb_sl cs1 q4
 have cs3 : cs.length * 48 ≤ 140737488351232 := by simpa [reachBytes] using csw
 obtain ⟨n, v, m', g, rfl⟩ := (run10 rs1 (by omega) gs1 (by omega) cs1 (by omega) v6).ex
 exact ⟨n, m', g⟩
set_option maxHeartbeats 1600000 in
set_option maxRecDepth 100000 in
theorem lifted10 (os : Os) (started : os.Started) (H : Type) (enc : TypeId × Value → H) :
  ReturnsInHanded {} Try.checked os 10 .any (Rows.temperMatchesReferenceSpec.pre6 enc Try.prog Try.f10 Rows.temperMatchesReferenceRow.domain false) (Rows.temperMatchesReferenceSpec.post enc Try.prog Try.f10 false true false false) := by
 refine handed_reach (C := Try.checked) own started (by kernel_rfl) Try.func10
  (ChangeSpec.witness6 (enc := enc) (C := Try.checked) false ⟨#[], #[.agg #[.slice none 0 0], .slice none 0 0, .agg #[.int .i64 0, .int .i64 0, .int .i64 0, .int .i64 0, .int .i64 0, .int .i64 0], .slice none 0 0], []⟩ 8 (by kernel_rfl) (by kernel_rfl) (by kernel_rfl) (by kernel_rfl)) ?_
 intro W base args ds gs before hval hW hwt
 exact law_contract2 U14_ok kinds10 bounds10 laid (by kernel_rfl) rfl (fun H ds hd => by
  match ds, hd with
  | [d1, d2, d3, d4], _ => rfl) rfl Try.underlying4 hval hW (noGlobW _) hwt law10
theorem fact9_10 : (Rows.temperMatchesReferenceRow.inPlace == Try.prog.inPlace 10) = true := by kernel_rfl
theorem fact10_10 : (Rows.temperMatchesReferenceRow.unfollowed == Try.prog.unfollowed 10) = true := by kernel_rfl
theorem fact11_10 : (Rows.temperMatchesReferenceRow.recurses == Try.prog.recurses 10) = true := by kernel_rfl
theorem fact12_10 : (Rows.temperMatchesReferenceRow.named == Try.prog.varsNamed 10) = true := by kernel_rfl
theorem facts10 : joinedFacts Try.prog 10 Try.f10 Rows.temperMatchesReferenceSpec Rows.temperMatchesReferenceRow = true := facts_of (by kernel_rfl) (by kernel_rfl) (by kernel_rfl) (by kernel_rfl) (by kernel_rfl) (by kernel_rfl) (by kernel_rfl) (by kernel_rfl) (by kernel_rfl) fact9_10 fact10_10 fact11_10 fact12_10 (by kernel_rfl) (by kernel_rfl) (by kernel_rfl) (by kernel_rfl) (by kernel_rfl) (by kernel_rfl) (by kernel_rfl) (by kernel_rfl) (by kernel_rfl) (by kernel_rfl) (by kernel_rfl) (by kernel_rfl) f_enter (by rw [f_lift]; rfl) (by rw [f_make]; rfl) (by kernel_rfl) (by kernel_rfl) (by kernel_rfl) (by kernel_rfl)
theorem temperMatchesReference_holds : Rows.TemperMatchesReferenceSaid :=
 OpenClaim.holds_of_wide 10 Try.f10 rfl rfl rfl rfl rfl rfl rfl ⟨rfl, rfl, rfl, rfl, rfl⟩ rfl rfl rfl rfl rfl (by kernel_rfl) Try.func10 facts10
  (of_decide_eq_true (by kernel_rfl)) (by unfold Func.isWrapper; first | (rw [if_pos (by decide +kernel)]; kernel_rfl) | (rw [if_neg (by decide +kernel)]; exact ⟨rfl, rfl⟩))
  (fun os started H enc _ => lifted10 os started H enc)
#print axioms temperMatchesReference_holds
end Go.Proofs.Ytnilimjkibimcaa

