/- For all its arguments the law LatticeMembers returns true and leaves its arguments as they were. -/
import Derived.Test.YtnilimjkibimcaaLn
import Derived.Test.YtnilimjkibimcaaClA
import Derived.JoinedOf
import Derived.Handed
set_option linter.unusedVariables false

namespace Go.Proofs.Ytnilimjkibimcaa
open Go.Zz
theorem kinds15 : Try.f15.params.toList.mapM (paramK Try.prog) = some [(false, [.slice [.int .i64, .int .i64, .int .i64, .int .i64, .int .i64, .int .i64]]), (false, [.slice [.int .i16]])] := by kernel_rfl
theorem bounds15 : Try.f15.params.toList.mapM (ckB Try.prog 20) = some [[48], [2]] := by kernel_rfl
theorem law15 (avs : List AV) (h : All2 PA [(false, [.slice [.int .i64, .int .i64, .int .i64, .int .i64, .int .i64, .int .i64]]), (false, [.slice [.int .i16]])] avs) (hb : All2 PB [[48], [2]] avs) : ∃ n m', evF N21 n (.func 15 [] []) avs ⟨[], []⟩ = some (.bool true, m') := by
  obtain ⟨a1, r1, rfl, p1, h1⟩ := all2_cons h
  obtain ⟨a2, r2, rfl, p2, h2⟩ := all2_cons h1
  obtain rfl := all2_nil h2
  obtain ⟨q1, q2, _⟩ := hb
  obtain ⟨rs, rs1, rs2⟩ := pa_rws p1
  have rsw := pb_sl rs1 q1
  have rs3 : rs.length * 48 ≤ 140737488351232 := by simpa [reachBytes] using rsw
  obtain ⟨ys, ys1, ys2, ys3⟩ := pa_i16s p2
  obtain ⟨n, v, m', g, rfl⟩ := (run15 rs1 (by omega) ys1 ys2 ys3).ex
  exact ⟨n, m', g⟩
set_option maxHeartbeats 1600000 in
set_option maxRecDepth 100000 in
theorem lifted15 (os : Os) (started : os.Started) (H : Type) (enc : TypeId × Value → H) :
    ReturnsInHanded {} Try.checked os 15 .any (Rows.latticeMembersSpec.pre6 enc Try.prog Try.f15 Rows.latticeMembersRow.domain false) (Rows.latticeMembersSpec.post enc Try.prog Try.f15 false true false false) := by
  refine handed_reach (C := Try.checked) own started (by kernel_rfl) Try.func15
    (ChangeSpec.witness6 (enc := enc) (C := Try.checked) false ⟨#[], #[.slice none 0 0, .slice none 0 0], []⟩ 8 (by kernel_rfl) (by kernel_rfl) (by kernel_rfl) (by kernel_rfl)) ?_
  intro W base args ds gs before hval hW hwt
  exact law_contract2 N21_ok kinds15 bounds15 laid (by kernel_rfl) rfl (fun H ds hd => by
    match ds, hd with
    | [d1, d2], _ => rfl) rfl Try.underlying4 hval hW (noGlobW _) hwt law15
theorem fact9_15 : (Rows.latticeMembersRow.inPlace == Try.prog.inPlace 15) = true := by kernel_rfl
theorem fact10_15 : (Rows.latticeMembersRow.unfollowed == Try.prog.unfollowed 15) = true := by kernel_rfl
theorem fact11_15 : (Rows.latticeMembersRow.recurses == Try.prog.recurses 15) = true := by kernel_rfl
theorem fact12_15 : (Rows.latticeMembersRow.named == Try.prog.varsNamed 15) = true := by kernel_rfl
theorem facts15 : joinedFacts Try.prog 15 Try.f15 Rows.latticeMembersSpec Rows.latticeMembersRow = true := facts_of (by kernel_rfl) (by kernel_rfl) (by kernel_rfl) (by kernel_rfl) (by kernel_rfl) (by kernel_rfl) (by kernel_rfl) (by kernel_rfl) (by kernel_rfl) fact9_15 fact10_15 fact11_15 fact12_15 (by kernel_rfl) (by kernel_rfl) (by kernel_rfl) (by kernel_rfl) (by kernel_rfl) (by kernel_rfl) (by kernel_rfl) (by kernel_rfl) (by kernel_rfl) (by kernel_rfl) (by kernel_rfl) (by kernel_rfl) f_enter (by rw [f_lift]; rfl) (by rw [f_make]; rfl) (by kernel_rfl) (by kernel_rfl) (by kernel_rfl) (by kernel_rfl)
theorem latticeMembers_holds : Rows.LatticeMembersSaid :=
  OpenClaim.holds_of_wide 15 Try.f15 rfl rfl rfl rfl rfl rfl rfl ⟨rfl, rfl, rfl, rfl, rfl⟩ rfl rfl rfl rfl rfl (by kernel_rfl) Try.func15 facts15
    (of_decide_eq_true (by kernel_rfl)) (by unfold Func.isWrapper; first | (rw [if_pos (by decide +kernel)]; kernel_rfl) | (rw [if_neg (by decide +kernel)]; exact ⟨rfl, rfl⟩))
    (fun os started H enc _ => lifted15 os started H enc)
#print axioms latticeMembers_holds
end Go.Proofs.Ytnilimjkibimcaa

