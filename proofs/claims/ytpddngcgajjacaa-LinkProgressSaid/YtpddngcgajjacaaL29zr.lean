import Derived.Test.YtpddngcgajjacaaL29zq
set_option linter.unusedVariables false
namespace Go.Proofs.Ytpddngcgajjacaa
open Go.Zz

theorem kinds8 : Try.f8.params.toList.mapM (paramK Try.prog) = some [(true, [.flat (.int .i64), .slice [.int .i64]])] := by kernel_rfl

theorem law8 (avs : List AV) (h : All2 PA [(true, [.flat (.int .i64), .slice [.int .i64]])] avs) : ∃ n m', evF G5 n (.func 8 [] []) avs ⟨[], []⟩ = some (.bool true, m') := by
  obtain ⟨a, l1, rfl, ha, h1⟩ := all2_cons h
  obtain rfl := all2_nil h1
  obtain ⟨s, q, qs, rfl, c1, c2, c3⟩ := pa_sender ha
  obtain ⟨n, v, m', g, rfl⟩ := (window_run c2 c1 c3).ex
  exact ⟨n, m', g⟩

set_option maxHeartbeats 1600000 in
set_option maxRecDepth 100000 in
theorem lifted8 (os : Os) (started : os.Started) (H : Type) (enc : TypeId × Value → H) :
    ReturnsInHanded {} Try.checked os 8 .any (Rows.linkWindowSpec.pre6 enc Try.prog Try.f8 Rows.linkWindowRow.domain false) (Rows.linkWindowSpec.post enc Try.prog Try.f8 false true false false) := by
  refine returnsInHanded_of_change (C := Try.checked) own started (by kernel_rfl) Try.func8
    (ChangeSpec.witness6 (enc := enc) (C := Try.checked) false ⟨#[], #[.agg #[.int .i64 0, .slice none 0 0]], []⟩ 8 (by kernel_rfl) (by kernel_rfl) (by kernel_rfl) (by kernel_rfl)) ?_
  intro W base args ds gs before hval hW _ _
  exact law_contract G5_ok kinds8 laid (by kernel_rfl) rfl (fun H ds hd => by
    match ds, hd with
    | [d1], _ => rfl) rfl Try.underlying4 hval hW law8

theorem linkWindow_holds : Rows.LinkWindowSaid :=
  OpenClaim.holds_of_wide 8 Try.f8 rfl rfl rfl rfl rfl rfl rfl ⟨rfl, rfl, rfl, rfl, rfl⟩ rfl rfl rfl rfl rfl (by kernel_rfl) Try.func8 (by kernel_rfl)
    (of_decide_eq_true (by kernel_rfl)) (by unfold Func.isWrapper; first | (rw [if_pos (by decide +kernel)]; kernel_rfl) | (rw [if_neg (by decide +kernel)]; exact ⟨rfl, rfl⟩))
    (fun os started H enc _ => lifted8 os started H enc)

#print axioms linkWindow_holds
end Go.Proofs.Ytpddngcgajjacaa

