/- Proved: LinkMatchesReference returns true for every input, and each argument reads afterwards as it read before. No condition. -/
import Derived.Test.YtpddngcgajjacaaL29zzi
set_option linter.unusedVariables false
namespace Go.Proofs.Ytpddngcgajjacaa
open Go.Zz

theorem pa_int {x : AV} (h : PA (false, [.flat (.int .i64)]) x) : ∃ n : Int, x = .int .i64 n := by
  unfold PA at h
  rw [if_neg (by simp)] at h
  obtain ⟨k, hk, h⟩ := h
  simp at hk
  subst hk
  obtain ⟨n, rfl, _⟩ := h
  exact ⟨n, rfl⟩

theorem kinds3 : Try.f3.params.toList.mapM (paramK Try.prog) = some [(true, [.flat (.int .i64), .slice [.int .i64]]), (true, [.slice [.int .i64]]), (true, [.flat .bool, .flat (.int .i64), .flat (.int .i64)]), (false, [.slice [.int .i64]]), (false, [.slice [.int .i64]]), (false, [.flat (.int .i64)])] := by kernel_rfl

theorem law3 (avs : List AV) (h : All2 PA [(true, [.flat (.int .i64), .slice [.int .i64]]), (true, [.slice [.int .i64]]), (true, [.flat .bool, .flat (.int .i64), .flat (.int .i64)]), (false, [.slice [.int .i64]]), (false, [.slice [.int .i64]]), (false, [.flat (.int .i64)])] avs) : ∃ n m', evF Gm n (.func 3 [] []) avs ⟨[], []⟩ = some (.bool true, m') := by
  obtain ⟨a, l1, rfl, ha, h1⟩ := all2_cons h
  obtain ⟨b, l2, rfl, hb, h2⟩ := all2_cons h1
  obtain ⟨p, l3, rfl, hp, h3⟩ := all2_cons h2
  obtain ⟨c, l4, rfl, hc, h4⟩ := all2_cons h3
  obtain ⟨d, l5, rfl, hd, h5⟩ := all2_cons h4
  obtain ⟨e, l6, rfl, he, h6⟩ := all2_cons h5
  obtain rfl := all2_nil h6
  obtain ⟨s, q, qs, rfl, c1, c2, c3⟩ := pa_sender ha
  obtain ⟨g, gs, rfl, b1, b2⟩ := pa_receiver hb
  obtain ⟨ack, ps, bd, rfl, d1, _⟩ := pa_packet hp
  obtain ⟨bs, e1, _, _⟩ := pa_ints hc
  obtain ⟨ss, f1, _, f2⟩ := pa_ints hd
  obtain ⟨body, rfl⟩ := pa_int he
  obtain ⟨n, v, m', g, rfl⟩ := (matches_run (p := (ack, ps, bd)) (body := body) c2 b1 e1 f1 c1 d1 f2 c3 b2).ex
  exact ⟨n, m', g⟩

set_option maxHeartbeats 1600000 in
set_option maxRecDepth 100000 in
theorem lifted3 (os : Os) (started : os.Started) (H : Type) (enc : TypeId × Value → H) :
    ReturnsInHanded {} Try.checked os 3 .any (Rows.linkMatchesReferenceSpec.pre6 enc Try.prog Try.f3 Rows.linkMatchesReferenceRow.domain false) (Rows.linkMatchesReferenceSpec.post enc Try.prog Try.f3 false true false false) := by
  refine returnsInHanded_of_change (C := Try.checked) own started (by kernel_rfl) Try.func3
    (ChangeSpec.witness6 (enc := enc) (C := Try.checked) false ⟨#[], #[.agg #[.int .i64 0, .slice none 0 0], .agg #[.slice none 0 0], .agg #[.bool false, .int .i64 0, .int .i64 0], .slice none 0 0, .slice none 0 0, .int .i64 0], []⟩ 8 (by kernel_rfl) (by kernel_rfl) (by kernel_rfl) (by kernel_rfl)) ?_
  intro W base args ds gs before hval hW _ _
  exact law_contract Gm_ok kinds3 laid (by kernel_rfl) rfl (fun H ds hd => by
    match ds, hd with
    | [d1, d2, d3, d4, d5, d6], _ => rfl) rfl Try.underlying4 hval hW law3

theorem linkMatchesReference_holds : Rows.LinkMatchesReferenceSaid :=
  OpenClaim.holds_of_wide 3 Try.f3 rfl rfl rfl rfl rfl rfl rfl ⟨rfl, rfl, rfl, rfl, rfl⟩ rfl rfl rfl rfl rfl (by kernel_rfl) Try.func3 (by kernel_rfl)
    (of_decide_eq_true (by kernel_rfl)) (by unfold Func.isWrapper; first | (rw [if_pos (by decide +kernel)]; kernel_rfl) | (rw [if_neg (by decide +kernel)]; exact ⟨rfl, rfl⟩))
    (fun os started H enc _ => lifted3 os started H enc)

#print axioms linkMatchesReference_holds
end Go.Proofs.Ytpddngcgajjacaa

