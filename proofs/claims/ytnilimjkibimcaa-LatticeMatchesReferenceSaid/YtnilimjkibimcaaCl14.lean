/- For all its arguments the law LatticeMatchesReference returns true and leaves its arguments as they were. -/
import Derived.Test.YtnilimjkibimcaaRg
import Derived.Test.YtnilimjkibimcaaClA
import Derived.JoinedOf
import Derived.Handed

set_option linter.unusedVariables false

namespace Go.Proofs.Ytnilimjkibimcaa
open Go.Zz
theorem kinds14 : Try.f14.params.toList.mapM (paramK Try.prog) = some [(false, [.slice [.int .i64, .int .i64, .int .i64, .int .i64, .int .i64, .int .i64]]), (false, [.slice [.int .i64, .int .i64, .int .i64, .int .i64, .int .i64, .int .i64]]), (true, [.flat (.int .i64), .flat (.int .i64), .flat (.int .i64), .flat (.int .i64), .flat (.int .i64), .flat (.int .i64)])] := by kernel_rfl
theorem bounds14 : Try.f14.params.toList.mapM (ckB Try.prog 20) = some [[48], [48], [0, 0, 0, 0, 0, 0]] := by kernel_rfl
theorem law14 (avs : List AV) (h : All2 PA [(false, [.slice [.int .i64, .int .i64, .int .i64, .int .i64, .int .i64, .int .i64]]), (false, [.slice [.int .i64, .int .i64, .int .i64, .int .i64, .int .i64, .int .i64]]), (true, [.flat (.int .i64), .flat (.int .i64), .flat (.int .i64), .flat (.int .i64), .flat (.int .i64), .flat (.int .i64)])] avs) (hb : All2 PB [[48], [48], [0, 0, 0, 0, 0, 0]] avs) : ∃ n m', evF O13 n (.func 14 [] []) avs ⟨[], []⟩ = some (.bool true, m') := by
 obtain ⟨a1, r1, rfl, p1, h1⟩ := all2_cons h
 obtain ⟨a2, r2, rfl, p2, h2⟩ := all2_cons h1
 obtain ⟨a3, r3, rfl, p3, h3⟩ := all2_cons h2
 obtain rfl := all2_nil h3
 obtain ⟨q1, q2, q3, _⟩ := hb
 obtain ⟨ra, ra1, ra2⟩ := pa_rws p1
 have raw := pb_sl ra1 q1
 have ra3 : ra.length * 48 ≤ 140737488351232 := by simpa [reachBytes] using raw
 obtain ⟨rb, rb1, rb2⟩ := pa_rws p2
 have rbw := pb_sl rb1 q2
 have rb3 : rb.length * 48 ≤ 140737488351232 := by simpa [reachBytes] using rbw
 obtain ⟨v, rfl, v6⟩ := pa_vec p3
 obtain ⟨n, v, m', g, rfl⟩ := (run14 ra1 rb1 (by omega) (by omega) v6).ex
 exact ⟨n, m', g⟩
set_option maxHeartbeats 1600000 in
set_option maxRecDepth 100000 in
theorem lifted14 (os : Os) (started : os.Started) (H : Type) (enc : TypeId × Value → H) :
  ReturnsInHanded {} Try.checked os 14 .any (Rows.latticeMatchesReferenceSpec.pre6 enc Try.prog Try.f14 Rows.latticeMatchesReferenceRow.domain false) (Rows.latticeMatchesReferenceSpec.post enc Try.prog Try.f14 false true false false) := by
 refine handed_reach (C := Try.checked) own started (by kernel_rfl) Try.func14
  (ChangeSpec.witness6 (enc := enc) (C := Try.checked) false ⟨#[], #[.slice none 0 0, .slice none 0 0, .agg #[.int .i64 0, .int .i64 0, .int .i64 0, .int .i64 0, .int .i64 0, .int .i64 0]], []⟩ 8 (by kernel_rfl) (by kernel_rfl) (by kernel_rfl) (by kernel_rfl)) ?_
 intro W base args ds gs before hval hW hwt
 exact law_contract2 O13_ok kinds14 bounds14 laid (by kernel_rfl) rfl (fun H ds hd => by
  match ds, hd with
  | [d1, d2, d3], _ => rfl) rfl Try.underlying4 hval hW (noGlobW _) hwt law14
theorem fact9_14 : (Rows.latticeMatchesReferenceRow.inPlace == Try.prog.inPlace 14) = true := by kernel_rfl
theorem fact10_14 : (Rows.latticeMatchesReferenceRow.unfollowed == Try.prog.unfollowed 14) = true := by kernel_rfl
theorem fact11_14 : (Rows.latticeMatchesReferenceRow.recurses == Try.prog.recurses 14) = true := by kernel_rfl
theorem fact12_14 : (Rows.latticeMatchesReferenceRow.named == Try.prog.varsNamed 14) = true := by kernel_rfl
theorem facts14 : joinedFacts Try.prog 14 Try.f14 Rows.latticeMatchesReferenceSpec Rows.latticeMatchesReferenceRow = true := facts_of (by kernel_rfl) (by kernel_rfl) (by kernel_rfl) (by kernel_rfl) (by kernel_rfl) (by kernel_rfl) (by kernel_rfl) (by kernel_rfl) (by kernel_rfl) fact9_14 fact10_14 fact11_14 fact12_14 (by kernel_rfl) (by kernel_rfl) (by kernel_rfl) (by kernel_rfl) (by kernel_rfl) (by kernel_rfl) (by kernel_rfl) (by kernel_rfl) (by kernel_rfl) (by kernel_rfl) (by kernel_rfl) (by kernel_rfl) f_enter (by rw [f_lift]; rfl) (by rw [f_make]; rfl) (by kernel_rfl) (by kernel_rfl) (by kernel_rfl) (by kernel_rfl)
theorem latticeMatchesReference_holds : Rows.LatticeMatchesReferenceSaid :=
 OpenClaim.holds_of_wide 14 Try.f14 rfl rfl rfl rfl rfl rfl rfl ⟨rfl, rfl, rfl, rfl, rfl⟩ rfl rfl rfl rfl rfl (by kernel_rfl) Try.func14 facts14
  (of_decide_eq_true (by kernel_rfl)) (by unfold Func.isWrapper; first | (rw [if_pos (by decide +kernel)]; kernel_rfl) | (rw [if_neg (by decide +kernel)]; exact ⟨rfl, rfl⟩))
  (fun os started H enc _ => lifted14 os started H enc)
#print axioms latticeMatchesReference_holds
end Go.Proofs.Ytnilimjkibimcaa

