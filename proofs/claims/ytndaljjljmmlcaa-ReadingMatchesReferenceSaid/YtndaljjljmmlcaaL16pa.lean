import Derived.Test.YtndaljjljmmlcaaAbsI
import Derived.Test.YtndaljjljmmlcaaL16H

set_option linter.unusedVariables false
namespace Go.Proofs.Ytndaljjljmmlcaa
open Go.Zz

theorem pa_rds {x : AV} (h : PA (false, [.slice [.int .i64, .int .i64, .int .i64, .int .i64]]) x) : ∃ rs, RdL x rs ∧ rs.length < 9223372036854775808 := by
  obtain ⟨cs, hs, hm, hc⟩ := ca_recs (pa_one h) (by decide)
  have hex : ∃ rs : List Rg, cs = rs.map Rg.cells := by
    clear hs hm
    induction cs with
    | nil => exact ⟨[], rfl⟩
    | cons c cs ih =>
      obtain ⟨rs, rfl⟩ := ih fun c hc' => hc c (List.mem_cons_of_mem _ hc')
      obtain ⟨a, r1, rfl, ⟨a, rfl, _⟩, h1⟩ := all2_cons (hc c (by simp))
      obtain ⟨b, r2, rfl, ⟨b, rfl, _⟩, h2⟩ := all2_cons h1
      obtain ⟨lo, r3, rfl, ⟨lo, rfl, _⟩, h3⟩ := all2_cons h2
      obtain ⟨hi, r4, rfl, ⟨hi, rfl, _⟩, h4⟩ := all2_cons h3
      obtain rfl := all2_nil h4
      exact ⟨⟨a, b, lo, hi⟩ :: rs, rfl⟩
  obtain ⟨rs, rfl⟩ := hex
  exact ⟨rs, hs, by unfold maxLen at hm; simp at hm; omega⟩
theorem own : ownKnob Try.prog.godebug = none := by kernel_rfl
theorem laid : laidOutB Try.prog = true := by kernel_rfl
end Go.Proofs.Ytndaljjljmmlcaa

