import Derived.Test.YtjbdefmhjmkifaaDoorL11pa
import Derived.Test.YtjbdefmhjmkifaaDoorL11E

set_option linter.unusedVariables false
namespace Go.Proofs.YtjbdefmhjmkifaaDoor
open Go.Zz

theorem pa_vecs {x : AV} (h : PA (false, [.slice [.int .i64, .int .i64, .int .i64, .int .i64, .int .i64, .int .i64]]) x) (hb : PB [48] x) : ∃ vs, VL6 x vs ∧ vs.length * 48 ≤ 140737488351232 := by
  obtain ⟨cs, hs, hm, hc⟩ := ca_recs (pa_one h) (by decide)
  have hex : ∃ vs : List V6, cs = vs.map V6.cells := by
    clear hs hm
    induction cs with
    | nil => exact ⟨[], rfl⟩
    | cons c cs ih =>
      obtain ⟨vs, rfl⟩ := ih fun c hc' => hc c (List.mem_cons_of_mem _ hc')
      obtain ⟨a, r1, rfl, ⟨a, rfl, _⟩, h1⟩ := all2_cons (hc c (by simp))
      obtain ⟨b, r2, rfl, ⟨b, rfl, _⟩, h2⟩ := all2_cons h1
      obtain ⟨c, r3, rfl, ⟨c, rfl, _⟩, h3⟩ := all2_cons h2
      obtain ⟨d, r4, rfl, ⟨d, rfl, _⟩, h4⟩ := all2_cons h3
      obtain ⟨e, r5, rfl, ⟨e, rfl, _⟩, h5⟩ := all2_cons h4
      obtain ⟨f, r6, rfl, ⟨f, rfl, _⟩, h6⟩ := all2_cons h5
      obtain rfl := all2_nil h6
      exact ⟨⟨a, b, c, d, e, f⟩ :: vs, rfl⟩
  obtain ⟨vs, rfl⟩ := hex
  refine ⟨vs, hs, ?_⟩
  have := pb_sl hs hb
  rw [List.length_map] at this
  simpa [reachBytes] using this
theorem pb_ints {x : AV} {xs : List Int} (h : IntS x xs) (hb : PB [8] x) : xs.length * 8 ≤ 140737488351232 := by
  rcases h with ⟨rfl, rfl⟩ | ⟨f, rfl⟩
  · simp
  · obtain ⟨b', h1, h2⟩ := hb
    simp only [List.cons.injEq, and_true] at h1
    subst h1
    simpa [reachBytes] using h2 _ rfl
end Go.Proofs.YtjbdefmhjmkifaaDoor

