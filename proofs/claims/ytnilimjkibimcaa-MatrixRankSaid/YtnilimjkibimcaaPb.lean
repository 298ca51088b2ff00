import Derived.Test.YtnilimjkibimcaaNk
import Derived.Test.YtnilimjkibimcaaPa

set_option linter.unusedSimpArgs false
set_option linter.unusedVariables false
namespace Go.Proofs.Ytnilimjkibimcaa
open Go.Zz
set_option maxRecDepth 100000
set_option maxHeartbeats 8000000
theorem herm_len {rows : List (List Int)} (hv : VM rows) (h6 : ∀ i, i < rows.length → (rw_ rows i).length = 6) : (hermR rows).length = rankF rows := by
  have hB := fwd_B hv h6
  have h1 := (LB.redI hB.abs.1 (addRows_LB hB.abs.1 hB.abs.2 hv.2.1 hB.j (Nat.le_refl _)) (Nat.le_refl _)).len
  have h2 := hB.len
  unfold hermR
  rw [if_pos hv]
  unfold hermF
  rw [List.length_map]
  exact h1.trans h2.symm
theorem kern_len {rows : List (List Int)} (hv : VM rows) (h6 : ∀ i, i < rows.length → (rw_ rows i).length = 6) : (kernR rows).length + rankF rows = 6 := by
  have hB := fwd_B hv h6
  have hB' := bwd_B hv h6
  have h1 := (kerX_LB hB' (bwdF rows).js.length).len
  have h2 := hB.len
  have h3 := frames_same (fwd_crm rows) hB (bwd_crm rows) hB'
  have h4 := free_all hB'.j
  have e : rankF rows = (fwdF rows).is.length := rfl
  unfold kernR
  rw [if_pos hv]
  unfold kerF
  rw [List.length_map, h1]
  omega
theorem div_len {rows : List (List Int)} (hv : VM rows) : (divR rows).length = rankF rows := by
  unfold divR divF
  rw [if_pos hv]
  simp
/-- MatrixRank -/
theorem run6 {l : AV} {rows : List (List Int)} (hl : RwL l rows) (hmax : rows.length < 9223372036854775807) : WF E41 (.func 6 [] []) [l] ⟨[], []⟩ fun y m' => y = .bool true := by
  have hll := hl.len
  have c24 := fun m => s24 (m := m)
  obtain ⟨x1, hx1, c27⟩ := x27 hl hmax
  obtain ⟨x2, hx2, c32⟩ := x32 hl hmax
  obtain ⟨x3, hx3, c30⟩ := x30 hl hmax
  have c27 := fun m => c27 m l (hl.byVal _)
  have c32 := fun m => c32 m l (hl.byVal _)
  have c30 := fun m => c30 m l (hl.byVal _)
  have c35 := fun m => x35 (m := m) (l' := l) hl hmax (hl.byVal _)
  have c25 := fun m => x25 (m := m) (l' := l) hl hmax (hl.byVal _)
  by_cases hv : VM rows
  · have h6 := fun i hi => hl.six (i := i) hi
    have l1 := hx1.len
    have l2 := hx2.len
    have l3 := hx3.len
    have h1 := herm_len hv h6
    have h2 := div_len hv
    have h3 := kern_len hv h6
    obtain ⟨h4, h5⟩ := rank_le (fwd_B hv h6)
    have ec : errC rows = 0 := if_pos hv
    rw [h1] at l1
    rw [h2] at l2
    rw [ec] at c27 c32 c30
    rw [if_pos hv, if_pos hv] at c35
    have e1 : ((rankF rows : Nat) : Int) ≥ 0 := by omega
    have e2 : ((rankF rows : Nat) : Int) ≤ 6 := by omega
    have e3 : ((rankF rows : Nat) : Int) ≤ ((rows.length : Nat) : Int) := by omega
    have e4 : (((kernR rows).length : Nat) : Int) = 6 - ((rankF rows : Nat) : Int) := by omega
    refine WF.fnE rfl (fn_of Try.func6 cir6) (by show 1 ≤ 106; decide) ?_
    unfold ir6
    simp only [padTo, List.replicate, List.nil_append, List.append_nil, List.cons_append]
    repeat' (first | (refine WO.yes rfl ?_) | (refine WO.opE (by intro; simp (disch := omega) only [go_sem, Zz.look, fillP, Option.bind_eq_bind, List.append_assoc, app_g0, app_g1, app_g2, app_g3, app_g4, app_s0, app_s1, app_s2, app_s3, app_s4, zeros, List.length_append, ov_one0, ov_one1, ov_one2, ov_one3, ov_all2, ov_all3, ov_all4, Nat.reduceAdd, Nat.reduceMul, Nat.reduceSub, Nat.reduceLeDiff, Nat.reduceEqDiff, Int.reduceNeg, Int.reduceAdd, Int.reduceToNat, reduceIte, reduceCtorEq, e1, e2, e3, e4, decide_true]; rfl) (by simp only [pt8, pt0, pt1, pt2, pt3, pt4, pt5, pt6, pt7]; rfl) ?_) | (refine WO.opE (by intro; exact ev_lenS (by simp only [go_sem]; first | rfl | assumption)) (by simp only [pt8, pt0, pt1, pt2, pt3, pt4, pt5, pt6, pt7]; rfl) ?_) | (refine WO.specE rfl rfl (c24 _) (by simp only [pt8, pt0, pt1, pt2, pt3, pt4, pt5, pt6, pt7]; rfl) ?_) | (refine WO.specE rfl rfl (c27 _) (by simp only [pt8, pt0, pt1, pt2, pt3, pt4, pt5, pt6, pt7]; rfl) ?_) | (refine WO.specE rfl rfl (c32 _) (by simp only [pt8, pt0, pt1, pt2, pt3, pt4, pt5, pt6, pt7]; rfl) ?_) | (refine WO.specE rfl rfl (c30 _) (by simp only [pt8, pt0, pt1, pt2, pt3, pt4, pt5, pt6, pt7]; rfl) ?_) | (refine WO.specE rfl rfl (c35 _) (by simp only [pt8, pt0, pt1, pt2, pt3, pt4, pt5, pt6, pt7]; rfl) ?_) | (refine WC.seq ?_) | (refine WC.region ?_) | (refine WO.nil ?_) | (simp only [fl1, fl2, fl3, fl4, fl5, fl6, fl7, fl8, fl9, fl10, Nat.reduceBEq]) | (refine WC.no rfl ?_) | (refine WC.skip ?_) | (refine WC.ret ?_))

    exact ⟨_, rfl, rfl⟩
  · have ec : errC rows = 1 := if_neg hv
    rw [ec] at c27 c32 c30
    rw [if_neg hv, if_neg hv] at c35
    rw [decide_eq_false hv] at c25
    refine WF.fnE rfl (fn_of Try.func6 cir6) (by show 1 ≤ 106; decide) ?_
    unfold ir6
    simp only [padTo, List.replicate, List.nil_append, List.append_nil, List.cons_append]
    repeat' (first | (refine WO.yes rfl ?_) | (refine WO.opE (by intro; simp (disch := omega) only [go_sem, Zz.look, fillP, Option.bind_eq_bind, List.append_assoc, app_g0, app_g1, app_g2, app_g3, app_g4, app_s0, app_s1, app_s2, app_s3, app_s4, zeros, List.length_append, ov_one0, ov_one1, ov_one2, ov_one3, ov_all2, ov_all3, ov_all4, Nat.reduceAdd, Nat.reduceMul, Nat.reduceSub, Nat.reduceLeDiff, Nat.reduceEqDiff, Int.reduceNeg, Int.reduceAdd, Int.reduceToNat, reduceIte, reduceCtorEq]; rfl) (by simp only [pt8, pt0, pt1, pt2, pt3, pt4, pt5, pt6, pt7]; rfl) ?_) | (refine WO.specE rfl rfl (c24 _) (by simp only [pt8, pt0, pt1, pt2, pt3, pt4, pt5, pt6, pt7]; rfl) ?_) | (refine WO.specE rfl rfl (c27 _) (by simp only [pt8, pt0, pt1, pt2, pt3, pt4, pt5, pt6, pt7]; rfl) ?_) | (refine WO.specE rfl rfl (c32 _) (by simp only [pt8, pt0, pt1, pt2, pt3, pt4, pt5, pt6, pt7]; rfl) ?_) | (refine WO.specE rfl rfl (c30 _) (by simp only [pt8, pt0, pt1, pt2, pt3, pt4, pt5, pt6, pt7]; rfl) ?_) | (refine WO.specE rfl rfl (c35 _) (by simp only [pt8, pt0, pt1, pt2, pt3, pt4, pt5, pt6, pt7]; rfl) ?_) | (refine WO.specE rfl rfl (c25 _) (by simp only [pt8, pt0, pt1, pt2, pt3, pt4, pt5, pt6, pt7]; rfl) ?_) | (refine WC.seq ?_) | (refine WC.region ?_) | (refine WO.nil ?_) | (simp only [fl1, fl2, fl3, fl4, fl5, fl6, fl7, fl8, fl9, fl10, Nat.reduceBEq]) | (refine WC.yes rfl ?_) | (refine WC.ret ?_))

    exact ⟨_, rfl, rfl⟩
end Go.Proofs.Ytnilimjkibimcaa

