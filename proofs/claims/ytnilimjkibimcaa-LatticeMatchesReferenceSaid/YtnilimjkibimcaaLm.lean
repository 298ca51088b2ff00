import Derived.Test.YtnilimjkibimcaaLl
import Derived.Test.YtnilimjkibimcaaLC

set_option linter.unusedSimpArgs false
set_option linter.unusedVariables false

namespace Go.Proofs.Ytnilimjkibimcaa
open Go.Zz
set_option maxRecDepth 100000
set_option maxHeartbeats 8000000
noncomputable def N16 : Env := N15.put 76 (borrowX M4 76)
theorem N16_ok : EnvOk Try.prog N16 := Env.put_ok N15_ok (borrowX_ok M4_ok (callable Try.func76 (by kernel_rfl)))
noncomputable def N17 : Env := N16.put 34 (borrowX E24 34)
theorem N17_ok : EnvOk Try.prog N17 := Env.put_ok N16_ok (borrowX_ok E24_ok (callable Try.func34 (by kernel_rfl)))
noncomputable def N18 : Env := N17.put 29 (borrowX E24 29)
theorem N18_ok : EnvOk Try.prog N18 := Env.put_ok N17_ok (borrowX_ok E24_ok (callable Try.func29 (by kernel_rfl)))
def exA : List (List Int) := [[-4,4,-1,0,0,0],[7,0,-3,0,0,0]]
def exB : List (List Int) := [[1,20,-14,0,0,0],[0,28,-19,0,0,0],[3,4,-4,0,0,0]]
def exO : List (List Int) := [[-4,4,-1,0,0,0]]
def exT : List (List Int) := [[-8,8,-2,0,0,0]]
def exS : List (List Int) := [[7,0,-3,0,0,0]]
theorem hl1 : memD exA [3,4,-4,0,0,0] := by decide +kernel
theorem hl2 : quoM exA [3,4,-4,0,0,0] = [3,-2] := by kernel_rfl
theorem hl3 : memD exA [-19,12,0,0,0,0] := by decide +kernel
theorem hl4 : quoM exA [-19,12,0,0,0,0] = [-19,14] := by kernel_rfl
theorem hl5 : remD exA [-1,1,0,0,0,0] = [0,21,-14,0,0,0] := by kernel_rfl
theorem hl6 : errD exA [-1,1,0,0,0,0] = 0 := by kernel_rfl
theorem hl7 : idxV exT exO = 2 := by kernel_rfl
theorem hl8 : errX exT exO = 0 := by kernel_rfl
theorem hl9 : ordD exT [-4,4,-1,0,0,0] = 2 := by kernel_rfl
theorem hl10 : errO exT [-4,4,-1,0,0,0] = 0 := by kernel_rfl
theorem hl11 : ordD exA [1,0,0,0,0,0] = 0 := by kernel_rfl
theorem hl12 : errO exA [1,0,0,0,0,0] = 0 := by kernel_rfl
theorem hl13 : idxV exT exA = 0 := by kernel_rfl
theorem hl14 : errX exT exA = 0 := by kernel_rfl
theorem hl15 : idxV exO exT = 0 := by kernel_rfl
theorem hl16 : errX exO exT = 4 := by kernel_rfl
theorem hl17 : sameS exA exB := by decide +kernel
theorem hl18 : errS exA exB = 0 := by kernel_rfl
theorem hl19 : ¬ sameS exO exT := by decide +kernel
theorem hl20 : errS exO exT = 0 := by kernel_rfl
theorem hl21 : sumR exO exS = [[1,20,-14,0,0,0],[0,28,-19,0,0,0]] := by kernel_rfl
theorem hl22 : errM exO exS = 0 := by kernel_rfl
theorem f65 : WF N18 (.func 65 [] []) [] ⟨[], []⟩ fun y m' => y = .bool true := by
 have lA := lit_rw (rows := exA) (by decide)
 have lB := lit_rw (rows := exB) (by decide)
 have lO := lit_rw (rows := exO) (by decide)
 have lT := lit_rw (rows := exT) (by decide)
 have lS := lit_rw (rows := exS) (by decide)
 obtain ⟨x1, hx1, c1⟩ := x66 lA (by decide) (v := [3,4,-4,0,0,0]) rfl
 obtain ⟨x2, hx2, c2⟩ := x66 lA (by decide) (v := [-19,12,0,0,0,0]) rfl
 have c3 := fun m l' h => x68 (m := m) (l' := l') lA (by decide) (v := [-1,1,0,0,0,0]) rfl h
 have c4 := fun m l' k' h k => x74 (m := m) (x' := l') (y' := k') lT lO (by decide) (by decide) h k
 have c5 := fun m l' h => x76 (m := m) (l' := l') lT (by decide) (v := [-4,4,-1,0,0,0]) rfl h
 have c6 := fun m l' h => x76 (m := m) (l' := l') lA (by decide) (v := [1,0,0,0,0,0]) rfl h
 have c7 := fun m l' k' h k => x74 (m := m) (x' := l') (y' := k') lT lA (by decide) (by decide) h k
 have c8 := fun m l' k' h k => x74 (m := m) (x' := l') (y' := k') lO lT (by decide) (by decide) h k
 have c9 := fun m l' k' h k => x70 (m := m) (x' := l') (y' := k') lA lB (by decide) (by decide) h k
 have c10 := fun m l' k' h k => x70 (m := m) (x' := l') (y' := k') lO lT (by decide) (by decide) h k
 obtain ⟨x3, hx3, c11⟩ := x72 lO lS (by decide) (by decide)
 rw [hl2] at hx1
 rw [hl4] at hx2
 rw [hl21] at hx3
 rw [decide_eq_true hl1, hl1.1] at c1
 rw [decide_eq_true hl3, hl3.1] at c2
 rw [hl5, hl6] at c3
 rw [hl7, hl8] at c4
 rw [hl9, hl10] at c5
 rw [hl11, hl12] at c6
 rw [hl13, hl14] at c7
 rw [hl15, hl16] at c8
 rw [decide_eq_true hl17, hl18] at c9
 rw [decide_eq_false hl19, hl20] at c10
 rw [hl22] at c11
 have d1 := fun m y' h => x34 (m := m) (y' := y') hx1 (IntS.mk [3, -2] true) (by decide) (hx1.byVal _) h
 have d2 := fun m y' h => x34 (m := m) (y' := y') hx2 (IntS.mk [-19, 14] true) (by decide) (hx2.byVal _) h
 have d3 := fun m y' h => x29 (m := m) (y' := y') hx3 (lit_rw (rows := [[1,20,-14,0,0,0],[0,28,-19,0,0,0]]) (by decide)) (by decide) (hx3.byVal _) h
 simp only [decide_true] at d1 d2 d3
 have hce : cellsEq [true, true, true, true, true, true] (icells [0,21,-14,0,0,0]) (icells [0,21,-14,0,0,0]) = some true := by
  have h := cellsEq_int (r := [0,21,-14,0,0,0]) (r' := [0,21,-14,0,0,0]) rfl
  rw [decide_eq_true rfl] at h
  exact h
 refine WF.fnE rfl (fn_of Try.func65 cir65) (by show 0 ≤ 202; decide) ?_
 unfold ir65
 simp only [padTo, List.replicate, zAN]
 repeat' (first | (refine WO.yes rfl ?_) | (refine WO.opE (by intro; simp (disch := omega) only [go_sem, Zz.look, fillP, Option.bind_eq_bind, zeros, ov_one0, ov_one1, ov_one2, Nat.reduceAdd, Int.reduceNeg, Int.reduceAdd]; rfl) (by simp only [pt8, pt0, pt1, pt2, pt3, pt4, pt5, pt6, pt7]; rfl) ?_) | (refine WO.opN (by intro; simp (disch := omega) only [go_sem, Zz.look, Option.bind_eq_bind, Int.reduceNeg]; rfl) ?_) | (refine WO.specE rfl rfl (c1 _ _ rfl) (by simp only [pt8, pt5]; rfl) ?_) | (refine WO.specE rfl rfl (c2 _ _ rfl) (by simp only [pt8, pt4]; rfl) ?_) | (refine WO.specE rfl rfl (c3 _ _ rfl) (by simp only [pt8, pt1]; rfl) ?_) | (refine WO.specE rfl rfl (c4 _ _ _ rfl rfl) (by simp only [pt8, pt1, pt7]; rfl) ?_) | (refine WO.specE rfl rfl (c5 _ _ rfl) (by simp only [pt8, pt5]; rfl) ?_) | (refine WO.specE rfl rfl (c6 _ _ rfl) (by simp only [pt8, pt3]; rfl) ?_) | (refine WO.specE rfl rfl (c7 _ _ _ rfl rfl) (by simp only [pt8, pt1, pt7]; rfl) ?_) | (refine WO.specE rfl rfl (c8 _ _ _ rfl rfl) (by simp only [pt8, pt7]; rfl) ?_) | (refine WO.specE rfl rfl (c9 _ _ _ rfl rfl) (by simp only [pt8, pt0, pt6]; rfl) ?_) | (refine WO.specE rfl rfl (c10 _ _ _ rfl rfl) (by simp only [pt8, pt6]; rfl) ?_) | (refine WO.specE rfl rfl (c11 _ _ _ rfl rfl) (by simp only [pt8, pt3]; rfl) ?_) | (refine WO.specE rfl rfl (d1 _ _ rfl) (by simp only [pt8, pt7]; rfl) ?_) | (refine WO.specE rfl rfl (d2 _ _ rfl) (by simp only [pt8, pt4]; rfl) ?_) | (refine WO.specE rfl rfl (d3 _ _ rfl) (by simp only [pt8, pt0]; rfl) ?_) | (refine WC.seq ?_) | (refine WC.region ?_) | (refine WO.nil ?_) | (simp only [fl1]) | (refine WC.ret ?_))
 exact ⟨_, rfl, rfl⟩
theorem s65 {m : Mem} : borrowE N18 65 [] m = some (.bool true, m) := borrowE_of rfl (f65.mono fun y m' h => by rw [h]; rfl)
noncomputable def N19 : Env := N18.put 65 (borrowE N18 65)
theorem N19_ok : EnvOk Try.prog N19 := Env.put_ok N18_ok (borrowE_ok N18_ok (callable Try.func65 (by kernel_rfl)))
noncomputable def N20 : Env := N19.put 27 (borrowX E16 27)
theorem N20_ok : EnvOk Try.prog N20 := Env.put_ok N19_ok (borrowX_ok E16_ok (callable Try.func27 (by kernel_rfl)))
noncomputable def N21 : Env := N20.put 26 (borrowX E2 26)
theorem N21_ok : EnvOk Try.prog N21 := Env.put_ok N20_ok (borrowX_ok E2_ok (callable Try.func26 (by kernel_rfl)))
end Go.Proofs.Ytnilimjkibimcaa

