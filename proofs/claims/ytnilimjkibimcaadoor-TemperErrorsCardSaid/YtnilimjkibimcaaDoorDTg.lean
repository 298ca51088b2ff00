import Derived.Test.YtnilimjkibimcaaDoorDTf
set_option linter.unusedSimpArgs false
set_option linter.unusedVariables false

namespace Go.Proofs.YtnilimjkibimcaaDoor
open Go.Zz
set_option maxRecDepth 100000
set_option maxHeartbeats 8000000
theorem hs1 : imgR [[12,19,28,34,42,44]] [-1,1,0,0,0,0] = [7] := by kernel_rfl
theorem hs2 : errI [[12,19,28,34,42,44]] [-1,1,0,0,0,0] = 0 := by kernel_rfl
theorem hs3 : tempR [[12,19,28,34,42,44]] [-4,4,-1,0,0,0] = true := by kernel_rfl
theorem hs4 : errI [[12,19,28,34,42,44]] [-4,4,-1,0,0,0] = 0 := by kernel_rfl
theorem hs5 : fromR [[-4,4,-1,0,0,0],[0,0,0,1,0,0],[0,0,0,0,1,0],[0,0,0,0,0,1]] = [[1,0,-4,0,0,0],[0,1,4,0,0,0]] := by kernel_rfl
theorem hs6 : errF [[-4,4,-1,0,0,0],[0,0,0,1,0,0],[0,0,0,0,1,0],[0,0,0,0,0,1]] = 0 := by kernel_rfl
theorem hs7 : errF [[-4,4,-1,0,0,0]] = 4 := by kernel_rfl
theorem hs8 : kerT [[1,0,-4,0,0,0],[0,1,4,0,0,0]] = [[4,-4,1,0,0,0],[0,0,0,1,0,0],[0,0,0,0,1,0],[0,0,0,0,0,1]] := by kernel_rfl
theorem hs9 : errT [[1,0,-4,0,0,0],[0,1,4,0,0,0]] = 0 := by kernel_rfl
theorem hs10 : tunP [[1,0,-4,0,0,0],[0,1,4,0,0,0]] [[12,0,0,0,0,0],[12,0,3,0,0,0]] [-1,1,0,0,0,0] = [0,0,3,0,0,0] := by kernel_rfl
theorem hs11 : errTu [[1,0,-4,0,0,0],[0,1,4,0,0,0]] [[12,0,0,0,0,0],[12,0,3,0,0,0]] [-1,1,0,0,0,0] = 0 := by kernel_rfl
theorem hs12 : pureR [[1,0,-4,0,0,0],[0,1,4,0,0,0]] [[12,0,0,0,0,0],[12,0,3,0,0,0]] [-1,1,0,0,0,0] = false := by kernel_rfl
theorem hs13 : pureR [[1,0,-4,0,0,0],[0,1,4,0,0,0]] [[12,0,0,0,0,0],[12,0,3,0,0,0]] [-2,0,1,0,0,0] = true := by kernel_rfl
theorem hs14 : errTu [[1,0,-4,0,0,0],[0,1,4,0,0,0]] [[12,0,0,0,0,0],[12,0,3,0,0,0]] [-2,0,1,0,0,0] = 0 := by kernel_rfl
theorem f44 : WF T19 (.func 4 [] []) [] ⟨[], []⟩ fun y m' => y = .bool true := by
  have L1 := lit_rw (rows := [[12,19,28,34,42,44]]) (by decide)
  have L2 := lit_rw (rows := [[1,0,-4,0,0,0],[0,1,4,0,0,0]]) (by decide)
  have L3 := lit_rw (rows := [[12,0,0,0,0,0],[12,0,3,0,0,0]]) (by decide)
  have L4 := lit_rw (rows := [[-4,4,-1,0,0,0],[0,0,0,1,0,0],[0,0,0,0,1,0],[0,0,0,0,0,1]]) (by decide)
  have L5 := lit_rw (rows := [[-4,4,-1,0,0,0]]) (by decide)
  have L6 := lit_rw (rows := [[4,-4,1,0,0,0],[0,0,0,1,0,0],[0,0,0,0,1,0],[0,0,0,0,0,1]]) (by decide)
  obtain ⟨x1, hx1, c47⟩ := x47 (v := [-1,1,0,0,0,0]) L1 (by decide) rfl
  have c50 := fun m l' h => x50 (m := m) (l' := l') (v := [-4,4,-1,0,0,0]) L1 (by decide) rfl h
  obtain ⟨x2, hx2, c55⟩ := x55 L4 (by decide)
  obtain ⟨x3, hx3, d55⟩ := x55 L5 (by decide)
  obtain ⟨x4, hx4, c52⟩ := x52 L2 (by decide)
  have c57 := fun m l' g' h h' => x57 (m := m) (l' := l') (gx' := g') (v := [-1,1,0,0,0,0]) L2 (by decide) L3 (by decide) rfl h h'
  have c59 := fun m l' g' h h' => x59 (m := m) (l' := l') (gx' := g') (v := [-1,1,0,0,0,0]) L2 (by decide) L3 (by decide) rfl h h'
  have d59 := fun m l' g' h h' => x59 (m := m) (l' := l') (gx' := g') (v := [-2,0,1,0,0,0]) L2 (by decide) L3 (by decide) rfl h h'
  rw [hs1] at hx1
  rw [hs2] at c47
  rw [hs3, hs4] at c50
  rw [hs5] at hx2
  rw [hs6] at c55
  rw [hs7] at d55
  rw [hs8] at hx4
  rw [hs9] at c52
  rw [hs10, hs11] at c57
  rw [hs11, hs12] at c59
  rw [hs13, hs14] at d59
  have n1 := IntS.byVal hx1 
  have n2 := hx2.cells
  have n3 := hx3.cells
  unfold AV.cells at n2 n3
  have d49 := fun m y' h => x49 (m := m) (y' := y') hx1 (IntS.mk [7] true) (by decide) (IntS.byVal hx1 _) h
  have d54 := fun m y' h => x54 (m := m) (y' := y') hx2 L2 (by decide) (hx2.byVal _) h
  have e54 := fun m y' h => x54 (m := m) (y' := y') hx4 L6 (by decide) (hx4.byVal _) h
  simp only [decide_true] at d49 d54 e54
  have c108 := fun m => r108 (m := m)
  have i1 : icells [0,0,3,0,0,0] = [.int .i64 0, .int .i64 0, .int .i64 3, .int .i64 0, .int .i64 0, .int .i64 0] := rfl
  rw [i1] at c57
  have hce : cellsEq [true, true, true, true, true, true] [.int .i64 0, .int .i64 0, .int .i64 3, .int .i64 0, .int .i64 0, .int .i64 0] [.int .i64 0, .int .i64 0, .int .i64 3, .int .i64 0, .int .i64 0, .int .i64 0] = some true := by decide
  refine WF.fnE rfl (fn_of Tryd.func4 cir4) (by show 0 ≤ 149; decide) ?_
  unfold ir4; dsimp only [k0, kI, mV, oO, oG]
  simp only [padTo, List.replicate, List.append_nil]
  repeat' (first | (refine WO.yes rfl ?_) | (refine WO.opE (by intro; simp (disch := omega) only [go_sem, Zz.look, Zz.over, Zz.cut, fillP, Option.bind_eq_bind, List.append_assoc, zeros, Nat.reduceAdd, Nat.reduceLeDiff, Int.reduceNeg, Int.reduceAdd, hce, Option.map_some, List.cons_append, List.nil_append, Nat.add_zero]; rfl) (by simp only [pt8, pt0, pt1, pt2, pt3, pt4, pt5, pt6, pt7]; rfl) ?_) | (refine WO.opN (by intro; simp (disch := omega) only [go_sem, Zz.look, Zz.over, Option.bind_eq_bind, Nat.reduceAdd, Nat.reduceLeDiff, Int.reduceNeg, Option.map_some, setBlk, List.set_cons_zero, List.set_cons_succ, List.cons_append, List.nil_append]; rfl) ?_) | (refine WO.specE rfl rfl (c108 _) (by simp only [pt8, pt1]; rfl) ?_) | (refine WO.specE rfl rfl (c47 _ _ rfl) (by simp only [pt8, pt7]; rfl) ?_) | (refine WO.specE rfl rfl (c50 _ _ rfl) (by simp only [pt8, pt5]; rfl) ?_) | (refine WO.specE rfl rfl (c55 _ _ rfl) (by simp only [pt8, pt4, pt6]; rfl) ?_) | (refine WO.specE rfl rfl (d55 _ _ rfl) (by simp only [pt8, pt4]; rfl) ?_) | (refine WO.specE rfl rfl (c52 _ _ rfl) (by simp only [pt8, pt1]; rfl) ?_) | (refine WO.specE rfl rfl (c57 _ _ _ rfl rfl) (by simp only [pt8, pt0]; rfl) ?_) | (refine WO.specE rfl rfl (c59 _ _ _ rfl rfl) (by simp only [pt8, pt7]; rfl) ?_) | (refine WO.specE rfl rfl (d59 _ _ _ rfl rfl) (by simp only [pt8, pt6]; rfl) ?_) | (refine WO.specE rfl rfl (d49 _ _ rfl) (by simp only [pt8, pt3]; rfl) ?_) | (refine WO.specE rfl rfl (d54 _ _ rfl) (by simp only [pt8, pt5]; rfl) ?_) | (refine WO.specE rfl rfl (e54 _ _ rfl) (by simp only [pt8, pt3]; rfl) ?_) | (refine WC.seq ?_) | (refine WC.region ?_) | (refine WO.nil ?_) | (simp only [fl1]) | (refine WC.ret ?_))
  exact ⟨_, rfl, rfl⟩
theorem s44 {m : Mem} : borrowE T19 4 [] m = some (.bool true, m) := borrowE_of rfl (f44.mono fun y m' h => by rw [h]; rfl)
noncomputable def T20 : Env := T19.put 4 (borrowE T19 4)
theorem T20_ok : EnvOk Tryd.prog T20 := Env.put_ok T19_ok (borrowE_ok T19_ok (callable Tryd.func4 (by kernel_rfl)))
end Go.Proofs.YtnilimjkibimcaaDoor

