import Derived.Test.YtgchabldcnmccaaDoorKc
import Derived.Test.YtgchabldcnmccaaDoorAbsI
set_option linter.unusedSimpArgs false
set_option linter.unusedVariables false

namespace Go.Proofs.YtgchabldcnmccaaDoor
open Go.Zz
set_option maxRecDepth 100000
set_option maxHeartbeats 8000000
theorem f19 {n : Int} {m : Mv} : WF E9 (.func 19 [] []) [.int .i64 n, .agg [.int .i64 m.k, .int .i64 m.b, .int .i64 m.t, .int .i64 m.v.s, .int .i64 m.v.c, .int .i64 m.v.n, .int .i64 m.v.d]] ⟨[], []⟩ fun y m' => y = .bool (decide (DkOk m.t n)) := by
  refine WF.fnE rfl (fn_of Tryd.func19 cir19) (by show 2 ≤ 9; decide) ?_
  unfold ir19; dsimp only [k0, kI, mV, oO, oG]
  simp only [padTo, List.replicate, List.nil_append, List.append_nil, List.cons_append]
  repeat' (first | (refine WO.opE (by intro; simp (disch := omega) only [go_sem, zeros, List.length_append, ov_one0, ov_one1, ov_one2, ov_one3, ov_all2, ov_all3, ov_all4, ov_all5, ov_all6, over7, cut7, cut4b, cut4c, fillP, Option.bind_eq_bind, Zz.look, Nat.reduceAdd, Nat.reduceMul, Nat.reduceSub, Nat.reduceLeDiff, Nat.reduceEqDiff, Int.reduceNeg, Int.reduceAdd, Int.reduceToNat, reduceIte, reduceCtorEq]; rfl) (by simp only [pt8, pt0, pt1, pt2, pt3, pt4, pt5, pt6, pt7]; rfl) ?_) | (refine WO.specE rfl rfl (s20) (by simp only [pt8, pt0, pt1, pt2, pt3, pt4, pt5, pt6, pt7]; rfl) ?_) | (refine WC.seq ?_) | (refine WC.region ?_) | (refine WO.nil ?_) | (simp only [fl1, fl2, fl3, fl4, fl5, fl6, fl7, fl8, fl9, fl10, Nat.reduceBEq]) | (refine WC.ret ?_))
  exact ⟨_, rfl, rfl⟩
theorem s19 {n : Int} {m : Mv} {mm : Mem} : borrowE E9 19 [.int .i64 n, .agg [.int .i64 m.k, .int .i64 m.b, .int .i64 m.t, .int .i64 m.v.s, .int .i64 m.v.c, .int .i64 m.v.n, .int .i64 m.v.d]] mm = some (.bool (decide (DkOk m.t n)), mm) :=
  borrowE_of rfl (f19.mono fun y m' h => by rw [h]; rfl)
noncomputable def E10 : Env := E9.put 19 (borrowE E9 19)
theorem E10_ok : EnvOk Tryd.prog E10 := Env.put_ok E9_ok (borrowE_ok E9_ok (callable Tryd.func19 (by kernel_rfl)))
theorem f22 {n : Int} {m : Mv} : WF E10 (.func 22 [] []) [.int .i64 n, .agg [.int .i64 m.k, .int .i64 m.b, .int .i64 m.t, .int .i64 m.v.s, .int .i64 m.v.c, .int .i64 m.v.n, .int .i64 m.v.d]] ⟨[], []⟩ fun y m' => y = .bool (decide (TkOk m.v)) := by
  refine WF.fnE rfl (fn_of Tryd.func22 cir22) (by show 2 ≤ 8; decide) ?_
  unfold ir22; dsimp only [k0, kI, mV, oO, oG]
  simp only [padTo, List.replicate, List.nil_append, List.append_nil, List.cons_append]
  repeat' (first | (refine WO.opE (by intro; simp (disch := omega) only [go_sem, zeros, List.length_append, ov_one0, ov_one1, ov_one2, ov_one3, ov_all2, ov_all3, ov_all4, ov_all5, ov_all6, over7, cut7, cut4b, cut4c, fillP, Option.bind_eq_bind, Zz.look, Nat.reduceAdd, Nat.reduceMul, Nat.reduceSub, Nat.reduceLeDiff, Nat.reduceEqDiff, Int.reduceNeg, Int.reduceAdd, Int.reduceToNat, reduceIte, reduceCtorEq]; rfl) (by simp only [pt8, pt0, pt1, pt2, pt3, pt4, pt5, pt6, pt7]; rfl) ?_) | (refine WO.specE rfl rfl (s23) (by simp only [pt8, pt0, pt1, pt2, pt3, pt4, pt5, pt6, pt7]; rfl) ?_) | (refine WC.seq ?_) | (refine WC.region ?_) | (refine WO.nil ?_) | (simp only [fl1, fl2, fl3, fl4, fl5, fl6, fl7, fl8, fl9, fl10, Nat.reduceBEq]) | (refine WC.ret ?_))
  exact ⟨_, rfl, rfl⟩
theorem s22 {n : Int} {m : Mv} {mm : Mem} : borrowE E10 22 [.int .i64 n, .agg [.int .i64 m.k, .int .i64 m.b, .int .i64 m.t, .int .i64 m.v.s, .int .i64 m.v.c, .int .i64 m.v.n, .int .i64 m.v.d]] mm = some (.bool (decide (TkOk m.v)), mm) :=
  borrowE_of rfl (f22.mono fun y m' h => by rw [h]; rfl)
noncomputable def E11 : Env := E10.put 22 (borrowE E10 22)
theorem E11_ok : EnvOk Tryd.prog E11 := Env.put_ok E10_ok (borrowE_ok E10_ok (callable Tryd.func22 (by kernel_rfl)))
def kindsEs : List AV := [.int .i64 1, .agg [.func 19 [] [], .func 21 [] []], .int .i64 2, .agg [.func 22 [] [], .func 24 [] []], .int .i64 3, .agg [.func 19 [] [], .func 25 [] []]]
theorem f10 {H : Hp} {L : List (Option ALoop)} : WF E11 (.func 10 [] []) [] ⟨H, L⟩ fun y m' => y = .mref L.length ∧ m' = ⟨H, L ++ [some (mapObj kindsEs)]⟩ := by
  have hm : ∀ x : Option ALoop, (L ++ [x])[L.length]? = some x := fun x => by simp
  have hset : ∀ x y : Option ALoop, (L ++ [x]).set L.length y = L ++ [y] := fun x y => by simp
  refine WF.fnE rfl (fn_of Tryd.func10 cir10) (by show 0 ≤ 9; decide) ?_
  unfold ir10; dsimp only [k0, kI, mV, oO, oG]
  simp only [padTo, List.replicate, List.nil_append, List.append_nil, List.cons_append]
  repeat' (first | (refine WO.opE (by intro; simp (disch := omega) only [go_sem, zeros, List.length_append, ov_one0, ov_one1, ov_one2, ov_one3, ov_all2, ov_all3, ov_all4, ov_all5, ov_all6, over7, cut7, cut4b, cut4c, fillP, Option.bind_eq_bind, Nat.reduceAdd, Nat.reduceMul, Nat.reduceSub, Nat.reduceLeDiff, Nat.reduceEqDiff, Int.reduceNeg, Int.reduceAdd, Int.reduceToNat, reduceIte, reduceCtorEq]; rfl) (by simp only [pt8, pt0, pt1, pt2, pt3, pt4, pt5, pt6, pt7]; rfl) ?_) | (refine WO.opN (by intro; refine Eq.trans (ev_mapSet rfl rfl (hm _) rfl) ?_; simp only [hset]; rfl) ?_) | (refine WC.seq ?_) | (refine WC.region ?_) | (refine WO.nil ?_) | (simp only [fl1, fl2, fl3, fl4, fl5, fl6, fl7, fl8, fl9, fl10, Nat.reduceBEq]) | (refine WC.ret ?_))
  exact ⟨_, rfl, rfl, rfl⟩
end Go.Proofs.YtgchabldcnmccaaDoor

