import Derived.Test.YtgchabldcnmccabDoorAbsI
import Derived.Test.YtgchabldcnmccabDoorCs

set_option linter.unusedVariables false

namespace Go.Proofs.YtgchabldcnmccabDoor
open Go Go.Zz
theorem ztP {x : AV} (h : PA (false, [.slice [.int .i64, .int .i64, .int .i64, .int .i64, .int .i64, .int .i64]]) x) : ∃ rs, RwL x rs /\ rs.length < 9223372036854775808 := by
 obtain ⟨cs, hs, hm, hc⟩ := zko (znQ h) (by decide)
 have hex : ∃ rs : List (List Int), cs = rs.map zaa := by
  clear hs hm
  induction cs with
  | nil => exact ⟨[], rfl⟩
  | cons c cs ih =>
   obtain ⟨rs, rfl⟩ := ih fun c hc' => hc c (List.mem_cons_of_mem _ hc')
   obtain ⟨a, r1, rfl, ⟨a, rfl, _⟩, h1⟩ := zaO (hc c (by simp));obtain ⟨b, r2, rfl, ⟨b, rfl, _⟩, h2⟩ := zaO h1;obtain ⟨d, r3, rfl, ⟨d, rfl, _⟩, h3⟩ := zaO h2;obtain ⟨e, r4, rfl, ⟨e, rfl, _⟩, h4⟩ := zaO h3;obtain ⟨g, r5, rfl, ⟨g, rfl, _⟩, h5⟩ := zaO h4;obtain ⟨i, r6, rfl, ⟨i, rfl, _⟩, h6⟩ := zaO h5;obtain rfl := ze4 h6;exact ⟨[a, b, d, e, g, i] :: rs, rfl⟩
 obtain ⟨rs, rfl⟩ := hex;exact ⟨rs, hs, by unfold maxLen at hm; simp at hm; omega⟩
theorem ztf {x : AV} (h : PA (false, [.slice [.str, .int .i64, .int .i64, .int .i64, .int .i64, .int .i64, .int .i64]]) x) : ∃ cs, NmL x cs := by
 obtain ⟨cs, hs, hm, hc⟩ := zko (znQ h) (by decide)
 have hex : ∃ rs : List Nm, cs = rs.map Nm.cells /\ ∀ c ∈ rs, NmW c := by
  clear hs hm
  induction cs with
  | nil => exact ⟨[], rfl, fun c hc => by cases hc⟩
  | cons c cs ih =>
   obtain ⟨rs, rfl, hr⟩ := ih fun c hc' => hc c (List.mem_cons_of_mem _ hc')
   obtain ⟨s, r0, rfl, ⟨s, rfl, hs⟩, h0⟩ := zaO (hc c (by simp));obtain ⟨a, r1, rfl, ⟨a, rfl, _⟩, h1⟩ := zaO h0;obtain ⟨b, r2, rfl, ⟨b, rfl, _⟩, h2⟩ := zaO h1;obtain ⟨d, r3, rfl, ⟨d, rfl, _⟩, h3⟩ := zaO h2;obtain ⟨e, r4, rfl, ⟨e, rfl, _⟩, h4⟩ := zaO h3;obtain ⟨g, r5, rfl, ⟨g, rfl, _⟩, h5⟩ := zaO h4;obtain ⟨i, r6, rfl, ⟨i, rfl, _⟩, h6⟩ := zaO h5;obtain rfl := ze4 h6;exact ⟨⟨s, [a, b, d, e, g, i]⟩ :: rs, rfl, fun c hc => by rcases List.mem_cons.1 hc with rfl | hc; exact ⟨hs, rfl⟩; exact hr c hc⟩
 obtain ⟨rs, rfl, hr⟩ := hex;exact ⟨rs, hr, hs⟩
theorem ztT {x : AV} (h : PA (true, [.flat (.int .i64), .flat (.int .i64), .flat (.int .i64), .flat (.int .i64), .flat (.int .i64), .flat (.int .i64)]) x) : ∃ r : List Int, x = .agg (zaa r) /\ r.length = 6 := by
 obtain ⟨l, rfl, g0⟩ := ztc h;obtain ⟨_, w1, rfl, ⟨a, rfl, _⟩, g1⟩ := zaO g0;obtain ⟨_, w2, rfl, ⟨b, rfl, _⟩, g2⟩ := zaO g1;obtain ⟨_, w3, rfl, ⟨c, rfl, _⟩, g3⟩ := zaO g2;obtain ⟨_, w4, rfl, ⟨d, rfl, _⟩, g4⟩ := zaO g3;obtain ⟨_, w5, rfl, ⟨e, rfl, _⟩, g5⟩ := zaO g4;obtain ⟨_, w6, rfl, ⟨g, rfl, _⟩, g6⟩ := zaO g5;obtain rfl := ze4 g6;exact ⟨[a, b, c, d, e, g], rfl, rfl⟩
end Go.Proofs.YtgchabldcnmccabDoor

