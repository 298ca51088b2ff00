/- For all its arguments the law LatticeRepresentatives returns true and leaves its arguments as they were. -/
import Derived.Test.YtnilimjkibimcaaLo
import Derived.Test.YtnilimjkibimcaaClA
import Derived.JoinedOf
import Derived.Handed
set_option linter.unusedVariables false

namespace Go.Proofs.Ytnilimjkibimcaa
open Go.Zz
theorem kinds16 : Try.f16.params.toList.mapM (paramK Try.prog) = some [(false, [.slice [.int .i64, .int .i64, .int .i64, .int .i64, .int .i64, .int .i64]]), (true, [.flat (.int .i64), .flat (.int .i64), .flat (.int .i64), .flat (.int .i64), .flat (.int .i64), .flat (.int .i64)]), (false, [.slice [.int .i16]])] := by kernel_rfl
theorem bounds16 : Try.f16.params.toList.mapM (ckB Try.prog 20) = some [[48], [0, 0, 0, 0, 0, 0], [2]] := by kernel_rfl
theorem law16 (avs : List AV) (h : All2 PA [(false, [.slice [.int .i64, .int .i64, .int .i64, .int .i64, .int .i64, .int .i64]]), (true, [.flat (.int .i64), .flat (.int .i64), .flat (.int .i64), .flat (.int .i64), .flat (.int .i64), .flat (.int .i64)]), (false, [.slice [.int .i16]])] avs) (hb : All2 PB [[48], [0, 0, 0, 0, 0, 0], [2]] avs) : ∃ n m', evF N21 n (.func 16 [] []) avs ⟨[], []⟩ = some (.bool true, m') := by
  obtain ⟨a1, r1, rfl, p1, h1⟩ := all2_cons h
  obtain ⟨a2, r2, rfl, p2, h2⟩ := all2_cons h1
  obtain ⟨a3, r3, rfl, p3, h3⟩ := all2_cons h2
  obtain rfl := all2_nil h3
  obtain ⟨q1, q2, q3, _⟩ := hb
  obtain ⟨rs, rs1, rs2⟩ := pa_rws p1
  have rsw := pb_sl rs1 q1
  have rs3 : rs.length * 48 ≤ 140737488351232 := by simpa [reachBytes] using rsw
  obtain ⟨v, rfl, v6⟩ := pa_vec p2
  obtain ⟨ys, ys1, ys2, ys3⟩ := pa_i16s p3
  obtain ⟨n, v, m', g, rfl⟩ := (run16 rs1 (by omega) v6 ys1 ys2 ys3).ex
  exact ⟨n, m', g⟩
set_option maxHeartbeats 1600000 in
set_option maxRecDepth 100000 in
theorem lifted16 (os : Os) (started : os.Started) (H : Type) (enc : TypeId × Value → H) :
    ReturnsInHanded {} Try.checked os 16 .any (Rows.latticeRepresentativesSpec.pre6 enc Try.prog Try.f16 Rows.latticeRepresentativesRow.domain false) (Rows.latticeRepresentativesSpec.post enc Try.prog Try.f16 false true false false) := by
  refine handed_reach (C := Try.checked) own started (by kernel_rfl) Try.func16
    (ChangeSpec.witness6 (enc := enc) (C := Try.checked) false ⟨#[], #[.slice none 0 0, .agg #[.int .i64 0, .int .i64 0, .int .i64 0, .int .i64 0, .int .i64 0, .int .i64 0], .slice none 0 0], []⟩ 8 (by kernel_rfl) (by kernel_rfl) (by kernel_rfl) (by kernel_rfl)) ?_
  intro W base args ds gs before hval hW hwt
  exact law_contract2 N21_ok kinds16 bounds16 laid (by kernel_rfl) rfl (fun H ds hd => by
    match ds, hd with
    | [d1, d2, d3], _ => rfl) rfl Try.underlying4 hval hW (noGlobW _) hwt law16
theorem fact9_16 : (Rows.latticeRepresentativesRow.inPlace == Try.prog.inPlace 16) = true := by kernel_rfl
theorem fact10_16 : (Rows.latticeRepresentativesRow.unfollowed == Try.prog.unfollowed 16) = true := by kernel_rfl
theorem fact11_16 : (Rows.latticeRepresentativesRow.recurses == Try.prog.recurses 16) = true := by kernel_rfl
theorem fact12_16 : (Rows.latticeRepresentativesRow.named == Try.prog.varsNamed 16) = true := by kernel_rfl
theorem facts16 : joinedFacts Try.prog 16 Try.f16 Rows.latticeRepresentativesSpec Rows.latticeRepresentativesRow = true := facts_of (by kernel_rfl) (by kernel_rfl) (by kernel_rfl) (by kernel_rfl) (by kernel_rfl) (by kernel_rfl) (by kernel_rfl) (by kernel_rfl) (by kernel_rfl) fact9_16 fact10_16 fact11_16 fact12_16 (by kernel_rfl) (by kernel_rfl) (by kernel_rfl) (by kernel_rfl) (by kernel_rfl) (by kernel_rfl) (by kernel_rfl) (by kernel_rfl) (by kernel_rfl) (by kernel_rfl) (by kernel_rfl) (by kernel_rfl) f_enter (by rw [f_lift]; rfl) (by rw [f_make]; rfl) (by kernel_rfl) (by kernel_rfl) (by kernel_rfl) (by kernel_rfl)
theorem latticeRepresentatives_holds : Rows.LatticeRepresentativesSaid :=
  OpenClaim.holds_of_wide 16 Try.f16 rfl rfl rfl rfl rfl rfl rfl ⟨rfl, rfl, rfl, rfl, rfl⟩ rfl rfl rfl rfl rfl (by kernel_rfl) Try.func16 facts16
    (of_decide_eq_true (by kernel_rfl)) (by unfold Func.isWrapper; first | (rw [if_pos (by decide +kernel)]; kernel_rfl) | (rw [if_neg (by decide +kernel)]; exact ⟨rfl, rfl⟩))
    (fun os started H enc _ => lifted16 os started H enc)
#print axioms latticeRepresentatives_holds
end Go.Proofs.Ytnilimjkibimcaa

