import Derived.Test.YtpddngcgajjacaaL29m
import Derived.JoinedOf
import Derived.Handed
set_option linter.unusedVariables false
namespace Go.Proofs.Ytpddngcgajjacaa
open Go.Zz

theorem own : ownKnob Try.prog.godebug = none := by kernel_rfl
theorem laid : laidOutB Try.prog = true := by kernel_rfl

theorem kinds7 : Try.f7.params.toList.mapM (paramK Try.prog) = some [(true, [.flat (.int .i64), .slice [.int .i64]]), (true, [.flat .bool, .flat (.int .i64), .flat (.int .i64)]), (true, [.flat .bool, .flat (.int .i64), .flat (.int .i64)])] := by kernel_rfl

theorem law7 (avs : List AV) (h : All2 PA [(true, [.flat (.int .i64), .slice [.int .i64]]), (true, [.flat .bool, .flat (.int .i64), .flat (.int .i64)]), (true, [.flat .bool, .flat (.int .i64), .flat (.int .i64)])] avs) : ∃ n m', evF G1 n (.func 7 [] []) avs ⟨[], []⟩ = some (.bool true, m') := by
  obtain ⟨a, l1, rfl, ha, h1⟩ := all2_cons h
  obtain ⟨p, l2, rfl, hp, h2⟩ := all2_cons h1
  obtain ⟨q, l3, rfl, hq, h3⟩ := all2_cons h2
  obtain rfl := all2_nil h3
  obtain ⟨s, q, qs, rfl, c1, c2, c3⟩ := pa_sender ha
  obtain ⟨_, ps, _, rfl, d1, _⟩ := pa_packet hp
  obtain ⟨_, ps', _, rfl, e1, _⟩ := pa_packet hq
  obtain ⟨n, v, m', g, rfl⟩ := (overtaken_run (ps := ps) (qs' := ps') c2 c1 d1 e1 c3).ex
  exact ⟨n, m', g⟩

set_option maxHeartbeats 1600000 in
set_option maxRecDepth 100000 in
theorem lifted7 (os : Os) (started : os.Started) (H : Type) (enc : TypeId × Value → H) :
    ReturnsInHanded {} Try.checked os 7 .any (Rows.linkOvertakenSpec.pre6 enc Try.prog Try.f7 Rows.linkOvertakenRow.domain false) (Rows.linkOvertakenSpec.post enc Try.prog Try.f7 false true false false) := by
  refine returnsInHanded_of_change (C := Try.checked) own started (by kernel_rfl) Try.func7
    (ChangeSpec.witness6 (enc := enc) (C := Try.checked) false ⟨#[], #[.agg #[.int .i64 0, .slice none 0 0], .agg #[.bool false, .int .i64 0, .int .i64 0], .agg #[.bool false, .int .i64 0, .int .i64 0]], []⟩ 8 (by kernel_rfl) (by kernel_rfl) (by kernel_rfl) (by kernel_rfl)) ?_
  intro W base args ds gs before hval hW _ _
  exact law_contract G1_ok kinds7 laid (by kernel_rfl) rfl (fun H ds hd => by
    match ds, hd with
    | [d1, d2, d3], _ => rfl) rfl Try.underlying4 hval hW law7

theorem linkOvertaken_holds : Rows.LinkOvertakenSaid :=
  OpenClaim.holds_of_wide 7 Try.f7 rfl rfl rfl rfl rfl rfl rfl ⟨rfl, rfl, rfl, rfl, rfl⟩ rfl rfl rfl rfl rfl (by kernel_rfl) Try.func7 (by kernel_rfl)
    (of_decide_eq_true (by kernel_rfl)) (by unfold Func.isWrapper; first | (rw [if_pos (by decide +kernel)]; kernel_rfl) | (rw [if_neg (by decide +kernel)]; exact ⟨rfl, rfl⟩))
    (fun os started H enc _ => lifted7 os started H enc)

#print axioms linkOvertaken_holds
end Go.Proofs.Ytpddngcgajjacaa
