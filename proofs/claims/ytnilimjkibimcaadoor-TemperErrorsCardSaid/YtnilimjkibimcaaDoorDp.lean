import Derived.Test.YtnilimjkibimcaaDoorAbsI
import Derived.Test.YtnilimjkibimcaaDoorDTk
set_option linter.unusedVariables false

namespace Go.Proofs.YtnilimjkibimcaaDoor
open Go Go.Zz
theorem pa_rws {x : AV} (h : PA (false, [.slice [.int .i64, .int .i64, .int .i64, .int .i64, .int .i64, .int .i64]]) x) : ∃ rs, RwL x rs ∧ rs.length < 9223372036854775808 := by
  obtain ⟨cs, hs, hm, hc⟩ := ca_recs (pa_one h) (by decide)
  have hex : ∃ rs : List (List Int), cs = rs.map icells := by
    clear hs hm
    induction cs with
    | nil => exact ⟨[], rfl⟩
    | cons c cs ih =>
      obtain ⟨rs, rfl⟩ := ih fun c hc' => hc c (List.mem_cons_of_mem _ hc')
      obtain ⟨a, r1, rfl, ⟨a, rfl, _⟩, h1⟩ := all2_cons (hc c (by simp))
      obtain ⟨b, r2, rfl, ⟨b, rfl, _⟩, h2⟩ := all2_cons h1
      obtain ⟨d, r3, rfl, ⟨d, rfl, _⟩, h3⟩ := all2_cons h2
      obtain ⟨e, r4, rfl, ⟨e, rfl, _⟩, h4⟩ := all2_cons h3
      obtain ⟨g, r5, rfl, ⟨g, rfl, _⟩, h5⟩ := all2_cons h4
      obtain ⟨i, r6, rfl, ⟨i, rfl, _⟩, h6⟩ := all2_cons h5
      obtain rfl := all2_nil h6
      exact ⟨[a, b, d, e, g, i] :: rs, rfl⟩
  obtain ⟨rs, rfl⟩ := hex
  exact ⟨rs, hs, by unfold maxLen at hm; simp at hm; omega⟩
theorem pa_map {x : AV} (h : PA (true, [.slice [.int .i64, .int .i64, .int .i64, .int .i64, .int .i64, .int .i64]]) x) (hb : PB [48] x) : ∃ l rs, x = .agg [l] ∧ RwL l rs ∧ rs.length * 48 ≤ 140737488351232 := by
  obtain ⟨l1, rfl, g0⟩ := pa_agg h
  obtain ⟨pv, w1, rfl, q1, g1⟩ := all2_cons g0
  obtain rfl := all2_nil g1
  obtain ⟨rs, h1, _⟩ := pa_rws (x := pv) (by unfold PA; rw [if_neg (by decide)]; exact ⟨_, rfl, q1⟩)
  have hw := hb.1 _ h1.len
  exact ⟨pv, rs, rfl, h1, by simpa [reachBytes] using hw⟩
theorem pa_vec {x : AV} (h : PA (true, [.flat (.int .i64), .flat (.int .i64), .flat (.int .i64), .flat (.int .i64), .flat (.int .i64), .flat (.int .i64)]) x) : ∃ r : List Int, x = .agg (icells r) ∧ r.length = 6 := by
  obtain ⟨l, rfl, g0⟩ := pa_agg h
  obtain ⟨_, w1, rfl, ⟨a, rfl, _⟩, g1⟩ := all2_cons g0
  obtain ⟨_, w2, rfl, ⟨b, rfl, _⟩, g2⟩ := all2_cons g1
  obtain ⟨_, w3, rfl, ⟨c, rfl, _⟩, g3⟩ := all2_cons g2
  obtain ⟨_, w4, rfl, ⟨d, rfl, _⟩, g4⟩ := all2_cons g3
  obtain ⟨_, w5, rfl, ⟨e, rfl, _⟩, g5⟩ := all2_cons g4
  obtain ⟨_, w6, rfl, ⟨g, rfl, _⟩, g6⟩ := all2_cons g5
  obtain rfl := all2_nil g6
  exact ⟨[a, b, c, d, e, g], rfl, rfl⟩
end Go.Proofs.YtnilimjkibimcaaDoor

