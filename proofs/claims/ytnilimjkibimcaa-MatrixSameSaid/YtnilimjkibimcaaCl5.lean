/- For all its arguments the law MatrixSame returns true and leaves its arguments as they were. -/
import Derived.Test.YtnilimjkibimcaaQb
import Derived.Test.YtnilimjkibimcaaClA
import Derived.JoinedOf
import Derived.Handed

set_option linter.unusedVariables false
namespace Go.Proofs.Ytnilimjkibimcaa
open Go.Zz


theorem kinds5 : Try.f5.params.toList.mapM (paramK Try.prog) = some [(false, [.slice [.int .i64, .int .i64, .int .i64, .int .i64, .int .i64, .int .i64]]), (false, [.flat (.int .u8)]), (false, [.flat (.int .u8)]), (false, [.flat (.int .i16)])] := by kernel_rfl
theorem bounds5 : Try.f5.params.toList.mapM (ckB Try.prog 20) = some [[48], [0], [0], [0]] := by kernel_rfl

theorem law5 (avs : List AV) (h : All2 PA [(false, [.slice [.int .i64, .int .i64, .int .i64, .int .i64, .int .i64, .int .i64]]), (false, [.flat (.int .u8)]), (false, [.flat (.int .u8)]), (false, [.flat (.int .i16)])] avs) (hb : All2 PB [[48], [0], [0], [0]] avs) : ∃ n m', evF E42 n (.func 5 [] []) avs ⟨[], []⟩ = some (.bool true, m') := by
  obtain ⟨a1, r1, rfl, p1, h1⟩ := all2_cons h
  obtain ⟨a2, r2, rfl, p2, h2⟩ := all2_cons h1
  obtain ⟨a3, r3, rfl, p3, h3⟩ := all2_cons h2
  obtain ⟨a4, r4, rfl, p4, h4⟩ := all2_cons h3
  obtain rfl := all2_nil h4
  obtain ⟨q1, q2, q3, q4, _⟩ := hb
  obtain ⟨rs, rs1, rs2⟩ := pa_rws p1
  have rsw := pb_sl rs1 q1
  have rs3 : rs.length * 48 ≤ 140737488351232 := by simpa [reachBytes] using rsw
  obtain ⟨a, rfl, ha⟩ := pa_u8 p2
  obtain ⟨b, rfl, hb⟩ := pa_u8 p3
  obtain ⟨c, rfl, hc⟩ := pa_i16 p4
  obtain ⟨n, v, m', g, rfl⟩ := (run5 rs1 (by omega) ha hb hc).ex
  exact ⟨n, m', g⟩

set_option maxHeartbeats 1600000 in
set_option maxRecDepth 100000 in
theorem lifted5 (os : Os) (started : os.Started) (H : Type) (enc : TypeId × Value → H) :
    ReturnsInHanded {} Try.checked os 5 .any (Rows.matrixSameSpec.pre6 enc Try.prog Try.f5 Rows.matrixSameRow.domain false) (Rows.matrixSameSpec.post enc Try.prog Try.f5 false true false false) := by
  refine handed_reach (C := Try.checked) own started (by kernel_rfl) Try.func5
    (ChangeSpec.witness6 (enc := enc) (C := Try.checked) false ⟨#[], #[.slice none 0 0, .int .u8 0, .int .u8 0, .int .i16 0], []⟩ 8 (by kernel_rfl) (by kernel_rfl) (by kernel_rfl) (by kernel_rfl)) ?_
  intro W base args ds gs before hval hW hwt
  exact law_contract2 E42_ok kinds5 bounds5 laid (by kernel_rfl) rfl (fun H ds hd => by
    match ds, hd with
    | [d1, d2, d3, d4], _ => rfl) rfl Try.underlying4 hval hW (noGlobW _) hwt law5

theorem fact9_5 : (Rows.matrixSameRow.inPlace == Try.prog.inPlace 5) = true := by kernel_rfl
theorem fact10_5 : (Rows.matrixSameRow.unfollowed == Try.prog.unfollowed 5) = true := by kernel_rfl
theorem fact11_5 : (Rows.matrixSameRow.recurses == Try.prog.recurses 5) = true := by kernel_rfl
theorem fact12_5 : (Rows.matrixSameRow.named == Try.prog.varsNamed 5) = true := by kernel_rfl
theorem facts5 : joinedFacts Try.prog 5 Try.f5 Rows.matrixSameSpec Rows.matrixSameRow = true := facts_of (by kernel_rfl) (by kernel_rfl) (by kernel_rfl) (by kernel_rfl) (by kernel_rfl) (by kernel_rfl) (by kernel_rfl) (by kernel_rfl) (by kernel_rfl) fact9_5 fact10_5 fact11_5 fact12_5 (by kernel_rfl) (by kernel_rfl) (by kernel_rfl) (by kernel_rfl) (by kernel_rfl) (by kernel_rfl) (by kernel_rfl) (by kernel_rfl) (by kernel_rfl) (by kernel_rfl) (by kernel_rfl) (by kernel_rfl) f_enter (by rw [f_lift]; rfl) (by rw [f_make]; rfl) (by kernel_rfl) (by kernel_rfl) (by kernel_rfl) (by kernel_rfl)
theorem matrixSame_holds : Rows.MatrixSameSaid :=
  OpenClaim.holds_of_wide 5 Try.f5 rfl rfl rfl rfl rfl rfl rfl ⟨rfl, rfl, rfl, rfl, rfl⟩ rfl rfl rfl rfl rfl (by kernel_rfl) Try.func5 facts5
    (of_decide_eq_true (by kernel_rfl)) (by unfold Func.isWrapper; first | (rw [if_pos (by decide +kernel)]; kernel_rfl) | (rw [if_neg (by decide +kernel)]; exact ⟨rfl, rfl⟩))
    (fun os started H enc _ => lifted5 os started H enc)

#print axioms matrixSame_holds
end Go.Proofs.Ytnilimjkibimcaa

