import Derived.Test.YtjbdefmhjmkifaaDoorIr11xc10
import Derived.Test.YtjbdefmhjmkifaaDoorL11ce

set_option linter.unusedSimpArgs false
set_option linter.unusedVariables false
namespace Go.Proofs.YtjbdefmhjmkifaaDoor
open Go.Zz
set_option maxRecDepth 100000
set_option maxHeartbeats 4000000
theorem f85 {i : Nat} (h : i < 6) : WF C7 (.func 85 [] []) [.int .i64 (i : Int)] ⟨[], []⟩ fun y m' => y = .int .i64 (LL i) := by
  rcases cases6 h with rfl | rfl | rfl | rfl | rfl | rfl
  all_goals
    refine WF.fnE rfl (fn_of Tryd.func85 cir85) (by show 1 ≤ 8; decide) ?_
    unfold ir85
    simp only [padTo, List.replicate, List.nil_append, List.append_nil, List.cons_append]
    repeat' (first | (refine WO.opE (by intro; simp (disch := omega) only [go_sem, zeros, Zz.look, Zz.over, Zz.cut, List.append_assoc, List.length_append, Nat.reduceAdd, Nat.reduceMul, Nat.reduceSub, Nat.reduceLeDiff, Nat.reduceEqDiff, Int.reduceNeg, Int.reduceAdd, Int.reduceToNat, reduceIte, reduceCtorEq, fillP, Option.bind_eq_bind, idx]; rfl) (by simp only [pt8, pt0, pt1, pt2, pt3, pt4, pt5, pt6, pt7]; rfl) ?_) | (refine WO.opN (by intro; simp (disch := omega) only [go_sem, zeros, Zz.look, Zz.over, Zz.cut, List.append_assoc, List.length_append, Nat.reduceAdd, Nat.reduceMul, Nat.reduceSub, Nat.reduceLeDiff, Nat.reduceEqDiff, Int.reduceNeg, Int.reduceAdd, Int.reduceToNat, reduceIte, reduceCtorEq, fillP, Option.bind_eq_bind, idx]; rfl) ?_) | (refine WC.seq ?_) | (refine WC.region ?_) | (refine WO.nil ?_) | (simp only [fl1, fl2, fl3, fl4, fl5, fl6, fl7, fl8, fl9, fl10, Nat.reduceBEq]) | (refine WC.ret ?_))
    exact ⟨_, rfl, rfl⟩
theorem s85 {i : Nat} (h : i < 6) {m : Mem} : borrowE C7 85 [.int .i64 (i : Int)] m = some (.int .i64 (LL i), m) := borrowE_of rfl ((f85 h).mono fun y m' h => by rw [h]; rfl)

noncomputable def C8 : Env := C7.put 85 (borrowE C7 85)
theorem C8_ok : EnvOk Tryd.prog C8 := Env.put_ok C7_ok (borrowE_ok C7_ok (callable Tryd.func85 (by kernel_rfl)))
theorem f86 {i : Nat} (h : i < 6) : WF C8 (.func 86 [] []) [.int .i64 (i : Int)] ⟨[], []⟩ fun y m' => y = .int .i64 (LH i) := by
  rcases cases6 h with rfl | rfl | rfl | rfl | rfl | rfl
  all_goals
    refine WF.fnE rfl (fn_of Tryd.func86 cir86) (by show 1 ≤ 10; decide) ?_
    unfold ir86
    simp only [padTo, List.replicate, List.nil_append, List.append_nil, List.cons_append]
    repeat' (first | (refine WO.opE (by intro; simp (disch := omega) only [go_sem, zeros, Zz.look, Zz.over, Zz.cut, List.append_assoc, List.length_append, Nat.reduceAdd, Nat.reduceMul, Nat.reduceSub, Nat.reduceLeDiff, Nat.reduceEqDiff, Int.reduceNeg, Int.reduceAdd, Int.reduceToNat, reduceIte, reduceCtorEq, fillP, Option.bind_eq_bind, idx]; rfl) (by simp only [pt8, pt0, pt1, pt2, pt3, pt4, pt5, pt6, pt7]; rfl) ?_) | (refine WO.specE rfl rfl (s85 h) (by simp only [pt8, pt0, pt1, pt2, pt3, pt4, pt5, pt6, pt7]; rfl) ?_) | (refine WC.seq ?_) | (refine WC.region ?_) | (refine WO.nil ?_) | (simp only [fl1, fl2, fl3, fl4, fl5, fl6, fl7, fl8, fl9, fl10, Nat.reduceBEq]) | (refine WC.yes rfl ?_) | (refine WC.no rfl ?_) | (refine WC.skip ?_) | (refine WC.ret ?_))
    exact ⟨_, rfl, rfl⟩
end Go.Proofs.YtjbdefmhjmkifaaDoor

