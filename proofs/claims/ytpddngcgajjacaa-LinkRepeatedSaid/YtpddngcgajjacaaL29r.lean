/- Proved: LinkRepeated returns true for every input, and each argument reads afterwards as it read before. No condition. -/
import Derived.Test.YtpddngcgajjacaaL29q
set_option linter.unusedVariables false
namespace Go.Proofs.Ytpddngcgajjacaa
open Go.Zz

theorem pa_receiver {x : AV} (h : PA (true, [.slice [.int .i64]]) x) : ∃ g gs, x = .agg [g] ∧ IntS g gs ∧ gs.length < 9223372036854775808 := by
  unfold PA at h
  rw [if_pos rfl] at h
  obtain ⟨l, rfl, h⟩ := h
  obtain ⟨b, l2, rfl, h2, h3⟩ := all2_cons h
  obtain rfl := all2_nil h3
  obtain ⟨xs, g1, g2, _⟩ := ca_ints h2
  exact ⟨b, xs, rfl, g1, g2⟩

theorem kinds6 : Try.f6.params.toList.mapM (paramK Try.prog) = some [(true, [.flat (.int .i64), .slice [.int .i64]]), (true, [.slice [.int .i64]]), (true, [.flat .bool, .flat (.int .i64), .flat (.int .i64)]), (true, [.flat .bool, .flat (.int .i64), .flat (.int .i64)])] := by kernel_rfl

theorem law6 (avs : List AV) (h : All2 PA [(true, [.flat (.int .i64), .slice [.int .i64]]), (true, [.slice [.int .i64]]), (true, [.flat .bool, .flat (.int .i64), .flat (.int .i64)]), (true, [.flat .bool, .flat (.int .i64), .flat (.int .i64)])] avs) : ∃ n m', evF G2 n (.func 6 [] []) avs ⟨[], []⟩ = some (.bool true, m') := by
  obtain ⟨a, l1, rfl, ha, h1⟩ := all2_cons h
  obtain ⟨b, l2, rfl, hb, h2⟩ := all2_cons h1
  obtain ⟨p, l3, rfl, hp, h3⟩ := all2_cons h2
  obtain ⟨q, l4, rfl, hq, h4⟩ := all2_cons h3
  obtain rfl := all2_nil h4
  obtain ⟨s, q, qs, rfl, c1, c2, c3⟩ := pa_sender ha
  obtain ⟨g, gs, rfl, b1, b2⟩ := pa_receiver hb
  obtain ⟨_, ps, _, rfl, d1, _⟩ := pa_packet hp
  obtain ⟨_, ps', _, rfl, e1, _⟩ := pa_packet hq
  obtain ⟨n, v, m', g, rfl⟩ := (repeated_run (ps := ps) (qs' := ps') c2 b1 c1 d1 e1 c3 b2).ex
  exact ⟨n, m', g⟩

set_option maxHeartbeats 1600000 in
set_option maxRecDepth 100000 in
theorem lifted6 (os : Os) (started : os.Started) (H : Type) (enc : TypeId × Value → H) :
    ReturnsInHanded {} Try.checked os 6 .any (Rows.linkRepeatedSpec.pre6 enc Try.prog Try.f6 Rows.linkRepeatedRow.domain false) (Rows.linkRepeatedSpec.post enc Try.prog Try.f6 false true false false) := by
  refine returnsInHanded_of_change (C := Try.checked) own started (by kernel_rfl) Try.func6
    (ChangeSpec.witness6 (enc := enc) (C := Try.checked) false ⟨#[], #[.agg #[.int .i64 0, .slice none 0 0], .agg #[.slice none 0 0], .agg #[.bool false, .int .i64 0, .int .i64 0], .agg #[.bool false, .int .i64 0, .int .i64 0]], []⟩ 8 (by kernel_rfl) (by kernel_rfl) (by kernel_rfl) (by kernel_rfl)) ?_
  intro W base args ds gs before hval hW _ _
  exact law_contract G2_ok kinds6 laid (by kernel_rfl) rfl (fun H ds hd => by
    match ds, hd with
    | [d1, d2, d3, d4], _ => rfl) rfl Try.underlying4 hval hW law6

theorem linkRepeated_holds : Rows.LinkRepeatedSaid :=
  OpenClaim.holds_of_wide 6 Try.f6 rfl rfl rfl rfl rfl rfl rfl ⟨rfl, rfl, rfl, rfl, rfl⟩ rfl rfl rfl rfl rfl (by kernel_rfl) Try.func6 (by kernel_rfl)
    (of_decide_eq_true (by kernel_rfl)) (by unfold Func.isWrapper; first | (rw [if_pos (by decide +kernel)]; kernel_rfl) | (rw [if_neg (by decide +kernel)]; exact ⟨rfl, rfl⟩))
    (fun os started H enc _ => lifted6 os started H enc)

#print axioms linkRepeated_holds
end Go.Proofs.Ytpddngcgajjacaa
