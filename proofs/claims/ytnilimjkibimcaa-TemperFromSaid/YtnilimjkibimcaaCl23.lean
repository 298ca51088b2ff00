/- For all its arguments the law TemperFrom returns true and leaves its arguments as they were. -/
import Derived.Test.YtnilimjkibimcaaTr
import Derived.Test.YtnilimjkibimcaaClA
import Derived.JoinedOf
import Derived.Handed
set_option linter.unusedVariables false

namespace Go.Proofs.Ytnilimjkibimcaa
open Go.Zz
theorem kinds23 : Try.f23.params.toList.mapM (paramK Try.prog) = some [(false, [.slice [.int .i64, .int .i64, .int .i64, .int .i64, .int .i64, .int .i64]]), (true, [.flat (.int .i64), .flat (.int .i64), .flat (.int .i64), .flat (.int .i64), .flat (.int .i64), .flat (.int .i64)]), (true, [.slice [.int .i64, .int .i64, .int .i64, .int .i64, .int .i64, .int .i64]]), (true, [.flat (.int .i64), .flat (.int .i64), .flat (.int .i64), .flat (.int .i64), .flat (.int .i64), .flat (.int .i64)])] := by kernel_rfl
theorem bounds23 : Try.f23.params.toList.mapM (ckB Try.prog 20) = some [[48], [0, 0, 0, 0, 0, 0], [48], [0, 0, 0, 0, 0, 0]] := by kernel_rfl
theorem law23 (avs : List AV) (h : All2 PA [(false, [.slice [.int .i64, .int .i64, .int .i64, .int .i64, .int .i64, .int .i64]]), (true, [.flat (.int .i64), .flat (.int .i64), .flat (.int .i64), .flat (.int .i64), .flat (.int .i64), .flat (.int .i64)]), (true, [.slice [.int .i64, .int .i64, .int .i64, .int .i64, .int .i64, .int .i64]]), (true, [.flat (.int .i64), .flat (.int .i64), .flat (.int .i64), .flat (.int .i64), .flat (.int .i64), .flat (.int .i64)])] avs) (hb : All2 PB [[48], [0, 0, 0, 0, 0, 0], [48], [0, 0, 0, 0, 0, 0]] avs) : ∃ n m', evF T24 n (.func 23 [] []) avs ⟨[], []⟩ = some (.bool true, m') := by
  obtain ⟨a1, r1, rfl, p1, h1⟩ := all2_cons h
  obtain ⟨a2, r2, rfl, p2, h2⟩ := all2_cons h1
  obtain ⟨a3, r3, rfl, p3, h3⟩ := all2_cons h2
  obtain ⟨a4, r4, rfl, p4, h4⟩ := all2_cons h3
  obtain rfl := all2_nil h4
  obtain ⟨q1, q2, q3, q4, _⟩ := hb
  obtain ⟨cs, cs1, cs2⟩ := pa_rws p1
  have csw := pb_sl cs1 q1
  have cs3 : cs.length * 48 ≤ 140737488351232 := by simpa [reachBytes] using csw
  obtain ⟨r, rfl, r6⟩ := pa_vec p2
  obtain ⟨l, rs, rfl, rs1, rs3⟩ := pa_map p3 q3
  obtain ⟨v, rfl, v6⟩ := pa_vec p4
  obtain ⟨n, v, m', g, rfl⟩ := (run23 cs1 (by omega) rs1 (by omega) r6 v6).ex
  exact ⟨n, m', g⟩
set_option maxHeartbeats 1600000 in
set_option maxRecDepth 100000 in
theorem lifted23 (os : Os) (started : os.Started) (H : Type) (enc : TypeId × Value → H) :
    ReturnsInHanded {} Try.checked os 23 .any (Rows.temperFromSpec.pre6 enc Try.prog Try.f23 Rows.temperFromRow.domain false) (Rows.temperFromSpec.post enc Try.prog Try.f23 false true false false) := by
  refine handed_reach (C := Try.checked) own started (by kernel_rfl) Try.func23
    (ChangeSpec.witness6 (enc := enc) (C := Try.checked) false ⟨#[], #[.slice none 0 0, .agg #[.int .i64 0, .int .i64 0, .int .i64 0, .int .i64 0, .int .i64 0, .int .i64 0], .agg #[.slice none 0 0], .agg #[.int .i64 0, .int .i64 0, .int .i64 0, .int .i64 0, .int .i64 0, .int .i64 0]], []⟩ 8 (by kernel_rfl) (by kernel_rfl) (by kernel_rfl) (by kernel_rfl)) ?_
  intro W base args ds gs before hval hW hwt
  exact law_contract2 T24_ok kinds23 bounds23 laid (by kernel_rfl) rfl (fun H ds hd => by
    match ds, hd with
    | [d1, d2, d3, d4], _ => rfl) rfl Try.underlying4 hval hW (noGlobW _) hwt law23
theorem fact9_23 : (Rows.temperFromRow.inPlace == Try.prog.inPlace 23) = true := by kernel_rfl
theorem fact10_23 : (Rows.temperFromRow.unfollowed == Try.prog.unfollowed 23) = true := by kernel_rfl
theorem fact11_23 : (Rows.temperFromRow.recurses == Try.prog.recurses 23) = true := by kernel_rfl
theorem fact12_23 : (Rows.temperFromRow.named == Try.prog.varsNamed 23) = true := by kernel_rfl
theorem facts23 : joinedFacts Try.prog 23 Try.f23 Rows.temperFromSpec Rows.temperFromRow = true := facts_of (by kernel_rfl) (by kernel_rfl) (by kernel_rfl) (by kernel_rfl) (by kernel_rfl) (by kernel_rfl) (by kernel_rfl) (by kernel_rfl) (by kernel_rfl) fact9_23 fact10_23 fact11_23 fact12_23 (by kernel_rfl) (by kernel_rfl) (by kernel_rfl) (by kernel_rfl) (by kernel_rfl) (by kernel_rfl) (by kernel_rfl) (by kernel_rfl) (by kernel_rfl) (by kernel_rfl) (by kernel_rfl) (by kernel_rfl) f_enter (by rw [f_lift]; rfl) (by rw [f_make]; rfl) (by kernel_rfl) (by kernel_rfl) (by kernel_rfl) (by kernel_rfl)
theorem temperFrom_holds : Rows.TemperFromSaid :=
  OpenClaim.holds_of_wide 23 Try.f23 rfl rfl rfl rfl rfl rfl rfl ⟨rfl, rfl, rfl, rfl, rfl⟩ rfl rfl rfl rfl rfl (by kernel_rfl) Try.func23 facts23
    (of_decide_eq_true (by kernel_rfl)) (by unfold Func.isWrapper; first | (rw [if_pos (by decide +kernel)]; kernel_rfl) | (rw [if_neg (by decide +kernel)]; exact ⟨rfl, rfl⟩))
    (fun os started H enc _ => lifted23 os started H enc)
#print axioms temperFrom_holds
end Go.Proofs.Ytnilimjkibimcaa

