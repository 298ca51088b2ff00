/- For all its arguments the law ReadingMore of package schismalaw16 returns true and leaves its arguments as they were. -/
import Derived.Test.YtndaljjljmmlcaaL16x8
import Derived.Test.YtndaljjljmmlcaaL16pa
import Derived.Test.YtndaljjljmmlcaaAbsI
import Derived.JoinedOf
import Derived.Handed
set_option linter.unusedVariables false
namespace Go.Proofs.Ytndaljjljmmlcaa
open Go.Zz


theorem kinds8 : Try.f8.params.toList.mapM (paramK Try.prog) = some [(false, [.flat (.int .i64)]), (false, [.slice [.int .i64, .int .i64, .int .i64, .int .i64]]), (true, [.flat (.int .i64), .flat (.int .i64), .flat (.int .i64), .flat (.int .i64)]), (false, [.flat (.int .i64)]), (false, [.flat (.int .i64)])] := by kernel_rfl
theorem bounds8 : Try.f8.params.toList.mapM (ckB Try.prog 20) = some [[0], [32], [0, 0, 0, 0], [0], [0]] := by kernel_rfl

theorem law8 (avs : List AV) (h : All2 PA [(false, [.flat (.int .i64)]), (false, [.slice [.int .i64, .int .i64, .int .i64, .int .i64]]), (true, [.flat (.int .i64), .flat (.int .i64), .flat (.int .i64), .flat (.int .i64)]), (false, [.flat (.int .i64)]), (false, [.flat (.int .i64)])] avs) (hb : All2 PB [[0], [32], [0, 0, 0, 0], [0], [0]] avs) : ∃ n m', evF E21 n (.func 8 [] []) avs ⟨[], []⟩ = some (.bool true, m') := by
  obtain ⟨a1, r1, rfl, p1, h1⟩ := all2_cons h
  obtain ⟨a2, r2, rfl, p2, h2⟩ := all2_cons h1
  obtain ⟨a3, r3, rfl, p3, h3⟩ := all2_cons h2
  obtain ⟨a4, r4, rfl, p4, h4⟩ := all2_cons h3
  obtain ⟨a5, r5, rfl, p5, h5⟩ := all2_cons h4
  obtain rfl := all2_nil h5
  obtain ⟨q1, q2, q3, q4, q5, _⟩ := hb
  obtain ⟨n, rfl, _⟩ := pa_int p1
  obtain ⟨rs, rs1, rs2⟩ := pa_rds p2
  obtain ⟨l3, rfl, g0⟩ := pa_agg p3
  obtain ⟨_, w1, rfl, ⟨ra, rfl, _⟩, g1⟩ := all2_cons g0
  obtain ⟨_, w2, rfl, ⟨rb, rfl, _⟩, g2⟩ := all2_cons g1
  obtain ⟨_, w3, rfl, ⟨rlo, rfl, _⟩, g3⟩ := all2_cons g2
  obtain ⟨_, w4, rfl, ⟨rhi, rfl, _⟩, g4⟩ := all2_cons g3
  obtain rfl := all2_nil g4
  obtain ⟨a, rfl, _⟩ := pa_int p4
  obtain ⟨b, rfl, _⟩ := pa_int p5
  have hw := pb_sl rs1 q2
  have hr : rs.length * 32 ≤ 140737488351232 := by simpa [reachBytes] using hw
  obtain ⟨n, v, m', g, rfl⟩ := (run8 (n := n) (r := ⟨ra, rb, rlo, rhi⟩) (a := a) (b := b) rs1 (by omega)).ex
  exact ⟨n, m', g⟩

set_option maxHeartbeats 1600000 in
set_option maxRecDepth 100000 in
theorem lifted8 (os : Os) (started : os.Started) (H : Type) (enc : TypeId × Value → H) :
    ReturnsInHanded {} Try.checked os 8 .any (Rows.readingMoreSpec.pre6 enc Try.prog Try.f8 Rows.readingMoreRow.domain false) (Rows.readingMoreSpec.post enc Try.prog Try.f8 false true false false) := by
  refine handed_reach (C := Try.checked) own started (by kernel_rfl) Try.func8
    (ChangeSpec.witness6 (enc := enc) (C := Try.checked) false ⟨#[], #[.int .i64 0, .slice none 0 0, .agg #[.int .i64 0, .int .i64 0, .int .i64 0, .int .i64 0], .int .i64 0, .int .i64 0], []⟩ 8 (by kernel_rfl) (by kernel_rfl) (by kernel_rfl) (by kernel_rfl)) ?_
  intro W base args ds gs before hval hW hwt
  exact law_contract2 E21_ok kinds8 bounds8 laid (by kernel_rfl) rfl (fun H ds hd => by
    match ds, hd with
    | [d1, d2, d3, d4, d5], _ => rfl) rfl Try.underlying4 hval hW (noGlobW _) hwt law8

theorem readingMore_holds : Rows.ReadingMoreSaid :=
  OpenClaim.holds_of_wide 8 Try.f8 rfl rfl rfl rfl rfl rfl rfl ⟨rfl, rfl, rfl, rfl, rfl⟩ rfl rfl rfl rfl rfl (by kernel_rfl) Try.func8 (by kernel_rfl)
    (of_decide_eq_true (by kernel_rfl)) (by unfold Func.isWrapper; first | (rw [if_pos (by decide +kernel)]; kernel_rfl) | (rw [if_neg (by decide +kernel)]; exact ⟨rfl, rfl⟩))
    (fun os started H enc _ => lifted8 os started H enc)

#print axioms readingMore_holds
end Go.Proofs.Ytndaljjljmmlcaa

