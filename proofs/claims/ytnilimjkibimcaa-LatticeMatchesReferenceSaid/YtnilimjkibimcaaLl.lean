import Derived.Test.YtnilimjkibimcaaLB
import Derived.Test.YtnilimjkibimcaaLC
import Derived.Test.YtnilimjkibimcaaIrX

set_option linter.unusedSimpArgs false
set_option linter.unusedVariables false

namespace Go.Proofs.Ytnilimjkibimcaa
open Go.Zz
set_option maxRecDepth 100000
set_option maxHeartbeats 8000000
theorem f79 {r : List Int} (h6 : r.length = 6) : WF N13 (.func 79 [] []) [.agg (icells r)] ⟨[], []⟩ fun y m' => y = .bool (decide (okB 1000000000 r)) := by
 have hml : (icells r).length = 6 := by rw [icells_len, h6]
 have hcut := icells_cut h6
 refine WF.fnE rfl (fn_of Try.func79 cir79) (by show 1 ≤ 18; decide) ?_
 unfold ir79
 simp only [padTo, List.replicate, zNA, zAN]
 repeat' (first | (refine WO.opE (by intro; simp (disch := omega) only [go_sem]; rfl) (by simp only [pt1, pt2, pt3]; rfl) ?_) | (refine WC.seq ?_) | (refine WC.region ?_) | (refine WO.nil ?_) | (simp only [fl1]) | (refine WC.block ?_))
 refine WC.loopI (fun m s => ∃ T j, s = ⟨T, [some ⟨0, icells r⟩], []⟩ ∧ T.length = 18 ∧ gt T 1 = .pref 0 0 0 ∧ gt T 3 = .int .i64 (j : Nat) ∧ m + j = 6 ∧ ∀ t, t < j → -1000000000 ≤ r.getD t 0 ∧ r.getD t 0 ≤ 1000000000) ?_ 6 _ ⟨_, 0, rfl, rfl, rfl, rfl, by omega, fun t ht => by omega⟩
 rintro m _ ⟨T, j, rfl, hT, g1, g3, hm, hz⟩
 obtain ⟨f, rfl⟩ := ex18 hT
 clear hT
 replace g1 : f 1 = .pref 0 0 0 := g1
 replace g3 : f 3 = .int .i64 (j : Nat) := g3
 simp only [g1, g3]
 by_cases hj : j < 6
 ·have hia := icells_at (r := r) (j := j) (by omega)
  generalize hx : r.getD j 0 = x at *
  by_cases hxb : -1000000000 ≤ x ∧ x ≤ 1000000000
  ·have hxb1 := hxb
   repeat' (first | (refine WO.yes rfl ?_) | (refine WO.opE (by intro; simp (disch := omega) only [go_sem, Zz.look, Int.reduceNeg, Int.reduceAdd, hia, Nat.mul_one]; rfl) (by simp only [pt8, pt0, pt1, pt2, pt3, pt4, pt5, pt6, pt7]; rfl) ?_) | (refine WC.seq ?_) | (refine WC.region ?_) | (refine WO.nil ?_) | (simp only [fl1, fl10]) | (refine WC.skip ?_) | (refine WC.block ?_) | (refine WO.em2 rfl (by intro hp; simp only [hp, decide_true]; rfl) (by intro hp; simp only [hp, decide_false]; rfl) (fun hp => ?_) (fun hp => ?_) <;> try (exfalso; first | omega | contradiction)) | (refine WC.em2 rfl (fun hp => ?_) (fun hp => ?_) <;> try (exfalso; first | omega | contradiction)))
   exact ⟨m - 1, by omega, _, j + 1, rfl, rfl, rfl, rfl, by omega, fun t ht => by
    by_cases e : t = j
    ·subst e; rw [hx]; exact hxb
    ·exact hz t (by omega)⟩
  ·have hxb1 := hxb
   have hd : decide (okB 1000000000 r) = false := decide_eq_false fun h => hxb (by have := h j hj; rw [hx] at this; exact this)
   repeat' (first | (refine WO.yes rfl ?_) | (refine WO.noE rfl (by simp only [pt8, pt0, pt5, pt6, pt7]; rfl) ?_) | (refine WO.opE (by intro; simp (disch := omega) only [go_sem, Zz.look, Int.reduceNeg, Int.reduceAdd, hia, Nat.mul_one]; rfl) (by simp only [pt8, pt0, pt1, pt2, pt3, pt4, pt5, pt6, pt7]; rfl) ?_) | (refine WC.seq ?_) | (refine WC.region ?_) | (refine WO.nil ?_) | (simp only [fl1, fl2, fl5, fl8]) | (refine WC.yes rfl ?_) | (refine WC.skip ?_) | (refine WC.ret ?_) | (refine WC.block ?_) | (refine WO.em2 rfl (by intro hp; simp only [hp, decide_true]; rfl) (by intro hp; simp only [hp, decide_false]; rfl) (fun hp => ?_) (fun hp => ?_) <;> try (exfalso; first | omega | contradiction)) | (refine WC.em2 rfl (fun hp => ?_) (fun hp => ?_) <;> try (exfalso; first | omega | contradiction)))
   all_goals exact ⟨_, rfl, by rw [hd]; rfl⟩
 ·have hje : j = 6 := by omega
  subst hje
  have hd : decide (okB 1000000000 r) = true := decide_eq_true hz
  repeat' (first | (refine WO.opE (by intro; simp (disch := omega) only [go_sem]; rfl) (by simp only [pt2, pt4, pt5]; rfl) ?_) | (refine WC.seq ?_) | (refine WC.region ?_) | (refine WO.nil ?_) | (simp only [fl1]) | (refine WC.no rfl ?_) | (refine WC.exit ?_) | (refine WC.ret ?_))
  exact ⟨_, rfl, by rw [hd]; rfl⟩
theorem s79 {r : List Int} (h6 : r.length = 6) {m : Mem} : borrowE N13 79 [.agg (icells r)] m = some (.bool (decide (okB 1000000000 r)), m) :=
 borrowE_of (pures_cons (pureI r) rfl) ((f79 h6).mono fun y m' h => by rw [h]; rfl)
noncomputable def N14 : Env := N13.put 79 (borrowE N13 79)
theorem N14_ok : EnvOk Try.prog N14 := Env.put_ok N13_ok (borrowE_ok N13_ok (callable Try.func79 (by kernel_rfl)))
theorem SxS.byVal {x : AV} {xs : List Int} (h : SxS x xs) (H : Hp) : Zz.byVal H x = some x := by
 rcases h with ⟨rfl, _⟩ | ⟨f, rfl⟩
 ·rfl
 ·have e : (xs.map (AV.int .i16)).all flatAV = true := by simp [flatAV]
  simp only [Zz.byVal, Zz.byC, e, if_true]
noncomputable def N15 : Env := N14.put 78 (borrowX N14 78)
theorem N15_ok : EnvOk Try.prog N15 := Env.put_ok N14_ok (borrowX_ok N14_ok (callable Try.func78 (by kernel_rfl)))
end Go.Proofs.Ytnilimjkibimcaa

