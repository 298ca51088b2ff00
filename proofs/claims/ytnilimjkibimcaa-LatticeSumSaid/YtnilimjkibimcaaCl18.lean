/- For all its arguments the law LatticeSum returns true and leaves its arguments as they were. -/
import Derived.Test.YtnilimjkibimcaaLq
import Derived.Test.YtnilimjkibimcaaClA
import Derived.JoinedOf
import Derived.Handed
set_option linter.unusedVariables false

namespace Go.Proofs.Ytnilimjkibimcaa
open Go.Zz
theorem kinds18 : Try.f18.params.toList.mapM (paramK Try.prog) = some [(false, [.slice [.int .i64, .int .i64, .int .i64, .int .i64, .int .i64, .int .i64]]), (false, [.slice [.int .i64, .int .i64, .int .i64, .int .i64, .int .i64, .int .i64]]), (false, [.slice [.int .i64, .int .i64, .int .i64, .int .i64, .int .i64, .int .i64]])] := by kernel_rfl
theorem bounds18 : Try.f18.params.toList.mapM (ckB Try.prog 20) = some [[48], [48], [48]] := by kernel_rfl
theorem law18 (avs : List AV) (h : All2 PA [(false, [.slice [.int .i64, .int .i64, .int .i64, .int .i64, .int .i64, .int .i64]]), (false, [.slice [.int .i64, .int .i64, .int .i64, .int .i64, .int .i64, .int .i64]]), (false, [.slice [.int .i64, .int .i64, .int .i64, .int .i64, .int .i64, .int .i64]])] avs) (hb : All2 PB [[48], [48], [48]] avs) : ∃ n m', evF N21 n (.func 18 [] []) avs ⟨[], []⟩ = some (.bool true, m') := by
  obtain ⟨a1, r1, rfl, p1, h1⟩ := all2_cons h
  obtain ⟨a2, r2, rfl, p2, h2⟩ := all2_cons h1
  obtain ⟨a3, r3, rfl, p3, h3⟩ := all2_cons h2
  obtain rfl := all2_nil h3
  obtain ⟨q1, q2, q3, _⟩ := hb
  obtain ⟨ra, ra1, ra2⟩ := pa_rws p1
  have raw := pb_sl ra1 q1
  have ra3 : ra.length * 48 ≤ 140737488351232 := by simpa [reachBytes] using raw
  obtain ⟨rb, rb1, rb2⟩ := pa_rws p2
  have rbw := pb_sl rb1 q2
  have rb3 : rb.length * 48 ≤ 140737488351232 := by simpa [reachBytes] using rbw
  obtain ⟨rc, rc1, rc2⟩ := pa_rws p3
  have rcw := pb_sl rc1 q3
  have rc3 : rc.length * 48 ≤ 140737488351232 := by simpa [reachBytes] using rcw
  obtain ⟨n, v, m', g, rfl⟩ := (run18 ra1 rb1 rc1 (by omega) (by omega) (by omega)).ex
  exact ⟨n, m', g⟩
set_option maxHeartbeats 1600000 in
set_option maxRecDepth 100000 in
theorem lifted18 (os : Os) (started : os.Started) (H : Type) (enc : TypeId × Value → H) :
    ReturnsInHanded {} Try.checked os 18 .any (Rows.latticeSumSpec.pre6 enc Try.prog Try.f18 Rows.latticeSumRow.domain false) (Rows.latticeSumSpec.post enc Try.prog Try.f18 false true false false) := by
  refine handed_reach (C := Try.checked) own started (by kernel_rfl) Try.func18
    (ChangeSpec.witness6 (enc := enc) (C := Try.checked) false ⟨#[], #[.slice none 0 0, .slice none 0 0, .slice none 0 0], []⟩ 8 (by kernel_rfl) (by kernel_rfl) (by kernel_rfl) (by kernel_rfl)) ?_
  intro W base args ds gs before hval hW hwt
  exact law_contract2 N21_ok kinds18 bounds18 laid (by kernel_rfl) rfl (fun H ds hd => by
    match ds, hd with
    | [d1, d2, d3], _ => rfl) rfl Try.underlying4 hval hW (noGlobW _) hwt law18
theorem fact9_18 : (Rows.latticeSumRow.inPlace == Try.prog.inPlace 18) = true := by kernel_rfl
theorem fact10_18 : (Rows.latticeSumRow.unfollowed == Try.prog.unfollowed 18) = true := by kernel_rfl
theorem fact11_18 : (Rows.latticeSumRow.recurses == Try.prog.recurses 18) = true := by kernel_rfl
theorem fact12_18 : (Rows.latticeSumRow.named == Try.prog.varsNamed 18) = true := by kernel_rfl
theorem facts18 : joinedFacts Try.prog 18 Try.f18 Rows.latticeSumSpec Rows.latticeSumRow = true := facts_of (by kernel_rfl) (by kernel_rfl) (by kernel_rfl) (by kernel_rfl) (by kernel_rfl) (by kernel_rfl) (by kernel_rfl) (by kernel_rfl) (by kernel_rfl) fact9_18 fact10_18 fact11_18 fact12_18 (by kernel_rfl) (by kernel_rfl) (by kernel_rfl) (by kernel_rfl) (by kernel_rfl) (by kernel_rfl) (by kernel_rfl) (by kernel_rfl) (by kernel_rfl) (by kernel_rfl) (by kernel_rfl) (by kernel_rfl) f_enter (by rw [f_lift]; rfl) (by rw [f_make]; rfl) (by kernel_rfl) (by kernel_rfl) (by kernel_rfl) (by kernel_rfl)
theorem latticeSum_holds : Rows.LatticeSumSaid :=
  OpenClaim.holds_of_wide 18 Try.f18 rfl rfl rfl rfl rfl rfl rfl ⟨rfl, rfl, rfl, rfl, rfl⟩ rfl rfl rfl rfl rfl (by kernel_rfl) Try.func18 facts18
    (of_decide_eq_true (by kernel_rfl)) (by unfold Func.isWrapper; first | (rw [if_pos (by decide +kernel)]; kernel_rfl) | (rw [if_neg (by decide +kernel)]; exact ⟨rfl, rfl⟩))
    (fun os started H enc _ => lifted18 os started H enc)
#print axioms latticeSum_holds
end Go.Proofs.Ytnilimjkibimcaa

