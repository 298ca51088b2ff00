import Derived.Test.YtpddngcgajjacaaL29zj
set_option linter.unusedVariables false
namespace Go.Proofs.Ytpddngcgajjacaa
open Go.Zz

theorem pa_ints {x : AV} (h : PA (false, [.slice [.int .i64]]) x) : ∃ xs, IntS x xs ∧ xs.length < 9223372036854775808 ∧ ∀ y ∈ xs, I64 y := by
  unfold PA at h
  rw [if_neg (by simp)] at h
  obtain ⟨k, hk, h⟩ := h
  simp at hk
  subst hk
  exact ca_ints h

theorem pa_u16 {x : AV} (h : PA (false, [.flat (.int .u16)]) x) : ∃ n : Nat, x = .int .u16 n ∧ n ≤ 65535 := by
  unfold PA at h
  rw [if_neg (by simp)] at h
  obtain ⟨k, hk, h⟩ := h
  simp at hk
  subst hk
  obtain ⟨n, rfl, hw⟩ := h
  have e1 : IntKind.u16.min = 0 := by decide
  have e2 : IntKind.u16.max = 65535 := by decide
  have : IntKind.u16.min ≤ n ∧ n ≤ IntKind.u16.max := by simpa [Lit.wf] using hw
  rw [e1, e2] at this
  refine ⟨n.toNat, ?_, by omega⟩
  congr 1
  omega

theorem kinds9 : Try.f9.params.toList.mapM (paramK Try.prog) = some [(false, [.slice [.int .i64]]), (false, [.slice [.int .i64]]), (false, [.flat (.int .u16)])] := by kernel_rfl

theorem law9 (avs : List AV) (h : All2 PA [(false, [.slice [.int .i64]]), (false, [.slice [.int .i64]]), (false, [.flat (.int .u16)])] avs) : ∃ n m', evF G4 n (.func 9 [] []) avs ⟨[], []⟩ = some (.bool true, m') := by
  obtain ⟨a, l1, rfl, ha, h1⟩ := all2_cons h
  obtain ⟨b, l2, rfl, hb, h2⟩ := all2_cons h1
  obtain ⟨c, l3, rfl, hc, h3⟩ := all2_cons h2
  obtain rfl := all2_nil h3
  obtain ⟨bs, c1, _, _⟩ := pa_ints ha
  obtain ⟨ss, d1, _, d2⟩ := pa_ints hb
  obtain ⟨at_, rfl, e1⟩ := pa_u16 hc
  obtain ⟨n, v, m', g, rfl⟩ := (forward_run (at_ := at_) c1 d1 d2 e1).ex
  exact ⟨n, m', g⟩

set_option maxHeartbeats 1600000 in
set_option maxRecDepth 100000 in
theorem lifted9 (os : Os) (started : os.Started) (H : Type) (enc : TypeId × Value → H) :
    ReturnsInHanded {} Try.checked os 9 .any (Rows.linkForwardSpec.pre6 enc Try.prog Try.f9 Rows.linkForwardRow.domain false) (Rows.linkForwardSpec.post enc Try.prog Try.f9 false true false false) := by
  refine returnsInHanded_of_change (C := Try.checked) own started (by kernel_rfl) Try.func9
    (ChangeSpec.witness6 (enc := enc) (C := Try.checked) false ⟨#[], #[.slice none 0 0, .slice none 0 0, .int .u16 0], []⟩ 8 (by kernel_rfl) (by kernel_rfl) (by kernel_rfl) (by kernel_rfl)) ?_
  intro W base args ds gs before hval hW _ _
  exact law_contract G4_ok kinds9 laid (by kernel_rfl) rfl (fun H ds hd => by
    match ds, hd with
    | [d1, d2, d3], _ => rfl) rfl Try.underlying4 hval hW law9

theorem linkForward_holds : Rows.LinkForwardSaid :=
  OpenClaim.holds_of_wide 9 Try.f9 rfl rfl rfl rfl rfl rfl rfl ⟨rfl, rfl, rfl, rfl, rfl⟩ rfl rfl rfl rfl rfl (by kernel_rfl) Try.func9 (by kernel_rfl)
    (of_decide_eq_true (by kernel_rfl)) (by unfold Func.isWrapper; first | (rw [if_pos (by decide +kernel)]; kernel_rfl) | (rw [if_neg (by decide +kernel)]; exact ⟨rfl, rfl⟩))
    (fun os started H enc _ => lifted9 os started H enc)

#print axioms linkForward_holds
end Go.Proofs.Ytpddngcgajjacaa

