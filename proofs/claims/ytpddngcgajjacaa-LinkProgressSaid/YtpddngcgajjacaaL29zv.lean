/- Proved: LinkProgress returns true for every input, and each argument reads afterwards as it read before. No condition. -/
import Derived.Test.YtpddngcgajjacaaL29zu
set_option linter.unusedVariables false
namespace Go.Proofs.Ytpddngcgajjacaa
open Go.Zz

theorem kinds5 : Try.f5.params.toList.mapM (paramK Try.prog) = some [(false, [.slice [.int .i64]]), (false, [.slice [.int .i64]])] := by kernel_rfl

theorem law5 (avs : List AV) (h : All2 PA [(false, [.slice [.int .i64]]), (false, [.slice [.int .i64]])] avs) : ∃ n m', evF G3 n (.func 5 [] []) avs ⟨[], []⟩ = some (.bool true, m') := by
  obtain ⟨a, l1, rfl, ha, h1⟩ := all2_cons h
  obtain ⟨b, l2, rfl, hb, h2⟩ := all2_cons h1
  obtain rfl := all2_nil h2
  obtain ⟨bs, c1, _, _⟩ := pa_ints ha
  obtain ⟨ss, d1, _, d2⟩ := pa_ints hb
  obtain ⟨n, v, m', g, rfl⟩ := (progress_run c1 d1 d2).ex
  exact ⟨n, m', g⟩

set_option maxHeartbeats 1600000 in
set_option maxRecDepth 100000 in
theorem lifted5 (os : Os) (started : os.Started) (H : Type) (enc : TypeId × Value → H) :
    ReturnsInHanded {} Try.checked os 5 .any (Rows.linkProgressSpec.pre6 enc Try.prog Try.f5 Rows.linkProgressRow.domain false) (Rows.linkProgressSpec.post enc Try.prog Try.f5 false true false false) := by
  refine returnsInHanded_of_change (C := Try.checked) own started (by kernel_rfl) Try.func5
    (ChangeSpec.witness6 (enc := enc) (C := Try.checked) false ⟨#[], #[.slice none 0 0, .slice none 0 0], []⟩ 8 (by kernel_rfl) (by kernel_rfl) (by kernel_rfl) (by kernel_rfl)) ?_
  intro W base args ds gs before hval hW _ _
  exact law_contract G3_ok kinds5 laid (by kernel_rfl) rfl (fun H ds hd => by
    match ds, hd with
    | [d1, d2], _ => rfl) rfl Try.underlying4 hval hW law5

theorem linkProgress_holds : Rows.LinkProgressSaid :=
  OpenClaim.holds_of_wide 5 Try.f5 rfl rfl rfl rfl rfl rfl rfl ⟨rfl, rfl, rfl, rfl, rfl⟩ rfl rfl rfl rfl rfl (by kernel_rfl) Try.func5 (by kernel_rfl)
    (of_decide_eq_true (by kernel_rfl)) (by unfold Func.isWrapper; first | (rw [if_pos (by decide +kernel)]; kernel_rfl) | (rw [if_neg (by decide +kernel)]; exact ⟨rfl, rfl⟩))
    (fun os started H enc _ => lifted5 os started H enc)

#print axioms linkProgress_holds
end Go.Proofs.Ytpddngcgajjacaa

