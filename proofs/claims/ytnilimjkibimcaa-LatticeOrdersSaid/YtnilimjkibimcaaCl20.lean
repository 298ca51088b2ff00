/- For all its arguments the law LatticeOrders returns true and leaves its arguments as they were. -/
import Derived.Test.YtnilimjkibimcaaLs
import Derived.Test.YtnilimjkibimcaaClA
import Derived.JoinedOf
import Derived.Handed
set_option linter.unusedVariables false

namespace Go.Proofs.Ytnilimjkibimcaa
open Go.Zz
theorem kinds20 : Try.f20.params.toList.mapM (paramK Try.prog) = some [(false, [.slice [.int .i64, .int .i64, .int .i64, .int .i64, .int .i64, .int .i64]]), (true, [.flat (.int .i64), .flat (.int .i64), .flat (.int .i64), .flat (.int .i64), .flat (.int .i64), .flat (.int .i64)])] := by kernel_rfl
theorem bounds20 : Try.f20.params.toList.mapM (ckB Try.prog 20) = some [[48], [0, 0, 0, 0, 0, 0]] := by kernel_rfl
theorem law20 (avs : List AV) (h : All2 PA [(false, [.slice [.int .i64, .int .i64, .int .i64, .int .i64, .int .i64, .int .i64]]), (true, [.flat (.int .i64), .flat (.int .i64), .flat (.int .i64), .flat (.int .i64), .flat (.int .i64), .flat (.int .i64)])] avs) (hb : All2 PB [[48], [0, 0, 0, 0, 0, 0]] avs) : ∃ n m', evF N21 n (.func 20 [] []) avs ⟨[], []⟩ = some (.bool true, m') := by
  obtain ⟨a1, r1, rfl, p1, h1⟩ := all2_cons h
  obtain ⟨a2, r2, rfl, p2, h2⟩ := all2_cons h1
  obtain rfl := all2_nil h2
  obtain ⟨q1, q2, _⟩ := hb
  obtain ⟨rs, rs1, rs2⟩ := pa_rws p1
  have rsw := pb_sl rs1 q1
  have rs3 : rs.length * 48 ≤ 140737488351232 := by simpa [reachBytes] using rsw
  obtain ⟨v, rfl, v6⟩ := pa_vec p2
  obtain ⟨n, v, m', g, rfl⟩ := (run20 rs1 (by omega) v6).ex
  exact ⟨n, m', g⟩
set_option maxHeartbeats 1600000 in
set_option maxRecDepth 100000 in
theorem lifted20 (os : Os) (started : os.Started) (H : Type) (enc : TypeId × Value → H) :
    ReturnsInHanded {} Try.checked os 20 .any (Rows.latticeOrdersSpec.pre6 enc Try.prog Try.f20 Rows.latticeOrdersRow.domain false) (Rows.latticeOrdersSpec.post enc Try.prog Try.f20 false true false false) := by
  refine handed_reach (C := Try.checked) own started (by kernel_rfl) Try.func20
    (ChangeSpec.witness6 (enc := enc) (C := Try.checked) false ⟨#[], #[.slice none 0 0, .agg #[.int .i64 0, .int .i64 0, .int .i64 0, .int .i64 0, .int .i64 0, .int .i64 0]], []⟩ 8 (by kernel_rfl) (by kernel_rfl) (by kernel_rfl) (by kernel_rfl)) ?_
  intro W base args ds gs before hval hW hwt
  exact law_contract2 N21_ok kinds20 bounds20 laid (by kernel_rfl) rfl (fun H ds hd => by
    match ds, hd with
    | [d1, d2], _ => rfl) rfl Try.underlying4 hval hW (noGlobW _) hwt law20
theorem fact9_20 : (Rows.latticeOrdersRow.inPlace == Try.prog.inPlace 20) = true := by kernel_rfl
theorem fact10_20 : (Rows.latticeOrdersRow.unfollowed == Try.prog.unfollowed 20) = true := by kernel_rfl
theorem fact11_20 : (Rows.latticeOrdersRow.recurses == Try.prog.recurses 20) = true := by kernel_rfl
theorem fact12_20 : (Rows.latticeOrdersRow.named == Try.prog.varsNamed 20) = true := by kernel_rfl
theorem facts20 : joinedFacts Try.prog 20 Try.f20 Rows.latticeOrdersSpec Rows.latticeOrdersRow = true := facts_of (by kernel_rfl) (by kernel_rfl) (by kernel_rfl) (by kernel_rfl) (by kernel_rfl) (by kernel_rfl) (by kernel_rfl) (by kernel_rfl) (by kernel_rfl) fact9_20 fact10_20 fact11_20 fact12_20 (by kernel_rfl) (by kernel_rfl) (by kernel_rfl) (by kernel_rfl) (by kernel_rfl) (by kernel_rfl) (by kernel_rfl) (by kernel_rfl) (by kernel_rfl) (by kernel_rfl) (by kernel_rfl) (by kernel_rfl) f_enter (by rw [f_lift]; rfl) (by rw [f_make]; rfl) (by kernel_rfl) (by kernel_rfl) (by kernel_rfl) (by kernel_rfl)
theorem latticeOrders_holds : Rows.LatticeOrdersSaid :=
  OpenClaim.holds_of_wide 20 Try.f20 rfl rfl rfl rfl rfl rfl rfl ⟨rfl, rfl, rfl, rfl, rfl⟩ rfl rfl rfl rfl rfl (by kernel_rfl) Try.func20 facts20
    (of_decide_eq_true (by kernel_rfl)) (by unfold Func.isWrapper; first | (rw [if_pos (by decide +kernel)]; kernel_rfl) | (rw [if_neg (by decide +kernel)]; exact ⟨rfl, rfl⟩))
    (fun os started H enc _ => lifted20 os started H enc)
#print axioms latticeOrders_holds
end Go.Proofs.Ytnilimjkibimcaa

