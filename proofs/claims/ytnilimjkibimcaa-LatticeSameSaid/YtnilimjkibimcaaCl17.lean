/- For all its arguments the law LatticeSame returns true and leaves its arguments as they were. -/
import Derived.Test.YtnilimjkibimcaaLp
import Derived.Test.YtnilimjkibimcaaClA
import Derived.JoinedOf
import Derived.Handed
set_option linter.unusedVariables false

namespace Go.Proofs.Ytnilimjkibimcaa
open Go.Zz
theorem kinds17 : Try.f17.params.toList.mapM (paramK Try.prog) = some [(false, [.slice [.int .i64, .int .i64, .int .i64, .int .i64, .int .i64, .int .i64]]), (false, [.slice [.int .i64, .int .i64, .int .i64, .int .i64, .int .i64, .int .i64]])] := by kernel_rfl
theorem bounds17 : Try.f17.params.toList.mapM (ckB Try.prog 20) = some [[48], [48]] := by kernel_rfl
theorem law17 (avs : List AV) (h : All2 PA [(false, [.slice [.int .i64, .int .i64, .int .i64, .int .i64, .int .i64, .int .i64]]), (false, [.slice [.int .i64, .int .i64, .int .i64, .int .i64, .int .i64, .int .i64]])] avs) (hb : All2 PB [[48], [48]] avs) : ∃ n m', evF N21 n (.func 17 [] []) avs ⟨[], []⟩ = some (.bool true, m') := by
  obtain ⟨a1, r1, rfl, p1, h1⟩ := all2_cons h
  obtain ⟨a2, r2, rfl, p2, h2⟩ := all2_cons h1
  obtain rfl := all2_nil h2
  obtain ⟨q1, q2, _⟩ := hb
  obtain ⟨ra, ra1, ra2⟩ := pa_rws p1
  have raw := pb_sl ra1 q1
  have ra3 : ra.length * 48 ≤ 140737488351232 := by simpa [reachBytes] using raw
  obtain ⟨rb, rb1, rb2⟩ := pa_rws p2
  have rbw := pb_sl rb1 q2
  have rb3 : rb.length * 48 ≤ 140737488351232 := by simpa [reachBytes] using rbw
  obtain ⟨n, v, m', g, rfl⟩ := (run17 ra1 rb1 (by omega) (by omega)).ex
  exact ⟨n, m', g⟩
set_option maxHeartbeats 1600000 in
set_option maxRecDepth 100000 in
theorem lifted17 (os : Os) (started : os.Started) (H : Type) (enc : TypeId × Value → H) :
    ReturnsInHanded {} Try.checked os 17 .any (Rows.latticeSameSpec.pre6 enc Try.prog Try.f17 Rows.latticeSameRow.domain false) (Rows.latticeSameSpec.post enc Try.prog Try.f17 false true false false) := by
  refine handed_reach (C := Try.checked) own started (by kernel_rfl) Try.func17
    (ChangeSpec.witness6 (enc := enc) (C := Try.checked) false ⟨#[], #[.slice none 0 0, .slice none 0 0], []⟩ 8 (by kernel_rfl) (by kernel_rfl) (by kernel_rfl) (by kernel_rfl)) ?_
  intro W base args ds gs before hval hW hwt
  exact law_contract2 N21_ok kinds17 bounds17 laid (by kernel_rfl) rfl (fun H ds hd => by
    match ds, hd with
    | [d1, d2], _ => rfl) rfl Try.underlying4 hval hW (noGlobW _) hwt law17
theorem fact9_17 : (Rows.latticeSameRow.inPlace == Try.prog.inPlace 17) = true := by kernel_rfl
theorem fact10_17 : (Rows.latticeSameRow.unfollowed == Try.prog.unfollowed 17) = true := by kernel_rfl
theorem fact11_17 : (Rows.latticeSameRow.recurses == Try.prog.recurses 17) = true := by kernel_rfl
theorem fact12_17 : (Rows.latticeSameRow.named == Try.prog.varsNamed 17) = true := by kernel_rfl
theorem facts17 : joinedFacts Try.prog 17 Try.f17 Rows.latticeSameSpec Rows.latticeSameRow = true := facts_of (by kernel_rfl) (by kernel_rfl) (by kernel_rfl) (by kernel_rfl) (by kernel_rfl) (by kernel_rfl) (by kernel_rfl) (by kernel_rfl) (by kernel_rfl) fact9_17 fact10_17 fact11_17 fact12_17 (by kernel_rfl) (by kernel_rfl) (by kernel_rfl) (by kernel_rfl) (by kernel_rfl) (by kernel_rfl) (by kernel_rfl) (by kernel_rfl) (by kernel_rfl) (by kernel_rfl) (by kernel_rfl) (by kernel_rfl) f_enter (by rw [f_lift]; rfl) (by rw [f_make]; rfl) (by kernel_rfl) (by kernel_rfl) (by kernel_rfl) (by kernel_rfl)
theorem latticeSame_holds : Rows.LatticeSameSaid :=
  OpenClaim.holds_of_wide 17 Try.f17 rfl rfl rfl rfl rfl rfl rfl ⟨rfl, rfl, rfl, rfl, rfl⟩ rfl rfl rfl rfl rfl (by kernel_rfl) Try.func17 facts17
    (of_decide_eq_true (by kernel_rfl)) (by unfold Func.isWrapper; first | (rw [if_pos (by decide +kernel)]; kernel_rfl) | (rw [if_neg (by decide +kernel)]; exact ⟨rfl, rfl⟩))
    (fun os started H enc _ => lifted17 os started H enc)
#print axioms latticeSame_holds
end Go.Proofs.Ytnilimjkibimcaa

