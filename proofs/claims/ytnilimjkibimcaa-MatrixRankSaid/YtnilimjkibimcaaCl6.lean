/- For all its arguments the law MatrixRank returns true and leaves its arguments as they were. -/
import Derived.Test.YtnilimjkibimcaaPb
import Derived.Test.YtnilimjkibimcaaClA
import Derived.JoinedOf
import Derived.Handed

set_option linter.unusedVariables false
namespace Go.Proofs.Ytnilimjkibimcaa
open Go.Zz


theorem kinds6 : Try.f6.params.toList.mapM (paramK Try.prog) = some [(false, [.slice [.int .i64, .int .i64, .int .i64, .int .i64, .int .i64, .int .i64]])] := by kernel_rfl
theorem bounds6 : Try.f6.params.toList.mapM (ckB Try.prog 20) = some [[48]] := by kernel_rfl

theorem law6 (avs : List AV) (h : All2 PA [(false, [.slice [.int .i64, .int .i64, .int .i64, .int .i64, .int .i64, .int .i64]])] avs) (hb : All2 PB [[48]] avs) : ∃ n m', evF E41 n (.func 6 [] []) avs ⟨[], []⟩ = some (.bool true, m') := by
  obtain ⟨a1, r1, rfl, p1, h1⟩ := all2_cons h
  obtain rfl := all2_nil h1
  obtain ⟨q1, _⟩ := hb
  obtain ⟨rs, rs1, rs2⟩ := pa_rws p1
  have rsw := pb_sl rs1 q1
  have rs3 : rs.length * 48 ≤ 140737488351232 := by simpa [reachBytes] using rsw
  obtain ⟨n, v, m', g, rfl⟩ := (run6 rs1 (by omega)).ex
  exact ⟨n, m', g⟩

set_option maxHeartbeats 1600000 in
set_option maxRecDepth 100000 in
theorem lifted6 (os : Os) (started : os.Started) (H : Type) (enc : TypeId × Value → H) :
    ReturnsInHanded {} Try.checked os 6 .any (Rows.matrixRankSpec.pre6 enc Try.prog Try.f6 Rows.matrixRankRow.domain false) (Rows.matrixRankSpec.post enc Try.prog Try.f6 false true false false) := by
  refine handed_reach (C := Try.checked) own started (by kernel_rfl) Try.func6
    (ChangeSpec.witness6 (enc := enc) (C := Try.checked) false ⟨#[], #[.slice none 0 0], []⟩ 8 (by kernel_rfl) (by kernel_rfl) (by kernel_rfl) (by kernel_rfl)) ?_
  intro W base args ds gs before hval hW hwt
  exact law_contract2 E41_ok kinds6 bounds6 laid (by kernel_rfl) rfl (fun H ds hd => by
    match ds, hd with
    | [d1], _ => rfl) rfl Try.underlying4 hval hW (noGlobW _) hwt law6

theorem fact9_6 : (Rows.matrixRankRow.inPlace == Try.prog.inPlace 6) = true := by kernel_rfl
theorem fact10_6 : (Rows.matrixRankRow.unfollowed == Try.prog.unfollowed 6) = true := by kernel_rfl
theorem fact11_6 : (Rows.matrixRankRow.recurses == Try.prog.recurses 6) = true := by kernel_rfl
theorem fact12_6 : (Rows.matrixRankRow.named == Try.prog.varsNamed 6) = true := by kernel_rfl
theorem facts6 : joinedFacts Try.prog 6 Try.f6 Rows.matrixRankSpec Rows.matrixRankRow = true := facts_of (by kernel_rfl) (by kernel_rfl) (by kernel_rfl) (by kernel_rfl) (by kernel_rfl) (by kernel_rfl) (by kernel_rfl) (by kernel_rfl) (by kernel_rfl) fact9_6 fact10_6 fact11_6 fact12_6 (by kernel_rfl) (by kernel_rfl) (by kernel_rfl) (by kernel_rfl) (by kernel_rfl) (by kernel_rfl) (by kernel_rfl) (by kernel_rfl) (by kernel_rfl) (by kernel_rfl) (by kernel_rfl) (by kernel_rfl) f_enter (by rw [f_lift]; rfl) (by rw [f_make]; rfl) (by kernel_rfl) (by kernel_rfl) (by kernel_rfl) (by kernel_rfl)
theorem matrixRank_holds : Rows.MatrixRankSaid :=
  OpenClaim.holds_of_wide 6 Try.f6 rfl rfl rfl rfl rfl rfl rfl ⟨rfl, rfl, rfl, rfl, rfl⟩ rfl rfl rfl rfl rfl (by kernel_rfl) Try.func6 facts6
    (of_decide_eq_true (by kernel_rfl)) (by unfold Func.isWrapper; first | (rw [if_pos (by decide +kernel)]; kernel_rfl) | (rw [if_neg (by decide +kernel)]; exact ⟨rfl, rfl⟩))
    (fun os started H enc _ => lifted6 os started H enc)

#print axioms matrixRank_holds
end Go.Proofs.Ytnilimjkibimcaa

