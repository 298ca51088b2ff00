import Derived.Test.YtgchabldcnmccaaDoorAbsI
import Derived.Test.YtgchabldcnmccaaDoorKs
set_option linter.unusedVariables false

namespace Go.Proofs.YtgchabldcnmccaaDoor
open Go Go.Zz
theorem pa_mvs {x : AV} (h : PA (false, [.slice [.int .i64, .int .i64, .int .i64, .int .i64, .int .i64, .int .i64, .int .i64]]) x) : ∃ ms, MvL x ms := by
  obtain ⟨cs, hs, hm, hc⟩ := ca_recs (pa_one h) (by decide)
  have hex : ∃ ms : List Mv, cs = ms.map Mv.cells := by
    clear hs hm
    induction cs with
    | nil => exact ⟨[], rfl⟩
    | cons c cs ih =>
      obtain ⟨ms, rfl⟩ := ih fun c hc' => hc c (List.mem_cons_of_mem _ hc')
      obtain ⟨a, r1, rfl, ⟨a, rfl, _⟩, h1⟩ := all2_cons (hc c (by simp))
      obtain ⟨b, r2, rfl, ⟨b, rfl, _⟩, h2⟩ := all2_cons h1
      obtain ⟨d, r3, rfl, ⟨d, rfl, _⟩, h3⟩ := all2_cons h2
      obtain ⟨e, r4, rfl, ⟨e, rfl, _⟩, h4⟩ := all2_cons h3
      obtain ⟨g, r5, rfl, ⟨g, rfl, _⟩, h5⟩ := all2_cons h4
      obtain ⟨i, r6, rfl, ⟨i, rfl, _⟩, h6⟩ := all2_cons h5
      obtain ⟨j, r7, rfl, ⟨j, rfl, _⟩, h7⟩ := all2_cons h6
      obtain rfl := all2_nil h7
      exact ⟨⟨a, b, d, ⟨e, g, i, j⟩⟩ :: ms, rfl⟩
  obtain ⟨ms, rfl⟩ := hex
  exact ⟨ms, hs⟩
theorem pa_u8 {x : AV} (h : PA (false, [.flat (.int .u8)]) x) : ∃ k : Int, x = .int .u8 k ∧ 0 ≤ k ∧ k < 256 := by
  obtain ⟨n, rfl, hw⟩ := pa_one h
  have e1 : IntKind.u8.min = 0 := by decide
  have e2 : IntKind.u8.max = 255 := by decide
  have h2 : IntKind.u8.min ≤ n ∧ n ≤ IntKind.u8.max := by simpa [Lit.wf] using hw
  rw [e1, e2] at h2
  exact ⟨n, rfl, h2.1, by omega⟩
end Go.Proofs.YtgchabldcnmccaaDoor

