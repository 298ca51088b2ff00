import Derived.Test.YtpddngcgajjacaaL29zm
set_option linter.unusedVariables false
namespace Go.Proofs.Ytpddngcgajjacaa
open Go.Zz

theorem kinds4 : Try.f4.params.toList.mapM (paramK Try.prog) = some [(false, [.slice [.int .i64]]), (false, [.slice [.int .i64]])] := by kernel_rfl

theorem law4 (avs : List AV) (h : All2 PA [(false, [.slice [.int .i64]]), (false, [.slice [.int .i64]])] avs) : ∃ n m', evF G4 n (.func 4 [] []) avs ⟨[], []⟩ = some (.bool true, m') := by
  obtain ⟨a, l1, rfl, ha, h1⟩ := all2_cons h
  obtain ⟨b, l2, rfl, hb, h2⟩ := all2_cons h1
  obtain rfl := all2_nil h2
  obtain ⟨bs, c1, _, _⟩ := pa_ints ha
  obtain ⟨ss, d1, _, d2⟩ := pa_ints hb
  obtain ⟨n, v, m', g, rfl⟩ := (once_run c1 d1 d2).ex
  exact ⟨n, m', g⟩

set_option maxHeartbeats 1600000 in
set_option maxRecDepth 100000 in
theorem lifted4 (os : Os) (started : os.Started) (H : Type) (enc : TypeId × Value → H) :
    ReturnsInHanded {} Try.checked os 4 .any (Rows.linkOnceSpec.pre6 enc Try.prog Try.f4 Rows.linkOnceRow.domain false) (Rows.linkOnceSpec.post enc Try.prog Try.f4 false true false false) := by
  refine returnsInHanded_of_change (C := Try.checked) own started (by kernel_rfl) Try.func4
    (ChangeSpec.witness6 (enc := enc) (C := Try.checked) false ⟨#[], #[.slice none 0 0, .slice none 0 0], []⟩ 8 (by kernel_rfl) (by kernel_rfl) (by kernel_rfl) (by kernel_rfl)) ?_
  intro W base args ds gs before hval hW _ _
  exact law_contract G4_ok kinds4 laid (by kernel_rfl) rfl (fun H ds hd => by
    match ds, hd with
    | [d1, d2], _ => rfl) rfl Try.underlying4 hval hW law4

theorem linkOnce_holds : Rows.LinkOnceSaid :=
  OpenClaim.holds_of_wide 4 Try.f4 rfl rfl rfl rfl rfl rfl rfl ⟨rfl, rfl, rfl, rfl, rfl⟩ rfl rfl rfl rfl rfl (by kernel_rfl) Try.func4 (by kernel_rfl)
    (of_decide_eq_true (by kernel_rfl)) (by unfold Func.isWrapper; first | (rw [if_pos (by decide +kernel)]; kernel_rfl) | (rw [if_neg (by decide +kernel)]; exact ⟨rfl, rfl⟩))
    (fun os started H enc _ => lifted4 os started H enc)

#print axioms linkOnce_holds
end Go.Proofs.Ytpddngcgajjacaa

