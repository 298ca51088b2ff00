import Derived.Test.YtndaljjljmmlcaaIr16n10
import Derived.Test.YtndaljjljmmlcaaL16ya
set_option linter.unusedSimpArgs false
set_option linter.unusedVariables false
namespace Go.Proofs.Ytndaljjljmmlcaa
open Go.Zz
set_option maxRecDepth 100000
set_option maxHeartbeats 16000000
theorem run10 {n : Int} {rs : List Rg} {l : AV} {i k a b : Int} (hl : RdL l rs) (hmax : rs.length < 9223372036854775808) : WF E21 (.func 10 [] []) [.int .i64 n, l, .int .i64 i, .int .i64 k, .int .i64 a, .int .i64 b] ⟨[], []⟩ fun y m' => y = .bool true := by
  have hlen := hl.len
  by_cases hv : VL n rs
  · by_cases hr : 0 ≤ i ∧ i < rs.length ∧ 0 ≤ k ∧ k < rs.length
    · obtain ⟨i0, hi, k0, hk⟩ := hr
      obtain ⟨i, rfl⟩ := Int.eq_ofNat_of_zero_le i0
      obtain ⟨k, rfl⟩ := Int.eq_ofNat_of_zero_le k0
      have hi' : i < rs.length := by omega
      have hk' : k < rs.length := by omega
      have hl2 := hv.2.2.1
      have hv' := vl_swapped hv hi' hk'
      have hs1 := sub_swapped1 hi' hk'
      have hs2 := sub_swapped2 hi' hk'
      have hal := alike_of hs1 hs2
      have hsol := hsol_of hv hl
      obtain ⟨o1, o2, o3, o4, o5, o6, o7, o8⟩ := hv.at hi'
      have g0 : GS 4 ([some ⟨0, []⟩] : Hp) (.sref 0 0 0 4 0 (some 0)) 0 [] := .inr (.inl ⟨0, rfl, rfl, rfl⟩)
      have hsc := SL.scells hl ([some ⟨0, []⟩] : Hp)
      obtain ⟨v7, q7, H7, e7, a7, b7, c7, d7⟩ := g0.appendX (L := []) (bytes := 32) hsc hlen (rcells_len rs) (by decide) ⟨by simp; omega, by simp; omega⟩
      rw [List.nil_append] at a7
      obtain ⟨g, m7, rfl, d1, d2, d3⟩ := a7.ref (by intro e; have := rcells_len rs; rw [rcells, e] at this; simp at this; omega)
      obtain rfl : rs.length = m7 := by have := rcells_len rs; rw [rcells] at this; omega
      have hF := fam_of rcells (g := g) d3
      have eH : H7 = (fun x : List Rg => H7.set q7 (some ⟨g, rcells x⟩)) rs ++ [] := by
        rw [List.append_nil]
        exact (set_same d2).symm
      have hw : RdL (.sval false (swapped rs i k).length (rcells (swapped rs i k))) (swapped rs i k) := rdl_mk _ _
      have hm' : (swapped rs i k).length < 9223372036854775808 := by rw [swapped_len]; exact hmax
      obtain ⟨z, out, h14⟩ := s14 (n := n) hl hmax
      obtain ⟨z', out', j1⟩ := s14 (n := n) hw hm'
      obtain ⟨t, bo, h3⟩ := s19 (n := n) (a := a) (b := b) hl hmax
      obtain ⟨t', bo', h4⟩ := s19 (n := n) (a := a) (b := b) hw hm'
      obtain rfl := bound_same hv hv' hal (fun p hp => hs1.pot hp) hsol bo bo'
      obtain ⟨q1, q2, q3, rfl⟩ := bound_shape bo
      have eS : (rs.set i (nth rs k)).set k ⟨(nth rs i).b, (nth rs i).a, 0 - (nth rs i).hi, 0 - (nth rs i).lo⟩ = swapped rs i k := rfl
      have eN : (⟨(nth rs k).a, (nth rs k).b, (nth rs k).lo, (nth rs k).hi⟩ : Rg) = nth rs k := rfl
      generalize hA : (fun x : List Rg => H7.set q7 (some ⟨g, rcells x⟩)) = A at *
      generalize hN : H7.length = N at *
      have hby : ∀ R : Hp, byVal (A (swapped rs i k) ++ R) (.sref q7 g 0 4 rs.length none) = some (.sval false (swapped rs i k).length (rcells (swapped rs i k))) := fun R => by
        have h1 := hF.look (swapped rs i k) R
        have e : cut (rcells (swapped rs i k)) 0 (rs.length * 4) = some (rcells (swapped rs i k)) := by
          unfold cut
          rw [if_pos (by rw [rcells_len, swapped_len]; omega), List.drop_zero, List.take_of_length_le (by rw [rcells_len, swapped_len]; omega)]
        simp only [byVal, byC, h1, e, rcells_flat, if_true, swapped_len]
        rfl
      by_cases hp : ∃ p, Pot rs p
      · obtain ⟨p, hp⟩ := hp
        obtain ⟨ys, hs, rfl⟩ := solve_ok hv hp out
        obtain ⟨ys', hs', rfl⟩ := solve_ok hv' (hal.pot p hp) out'
        obtain rfl := (hal.sized hv (hsol p hp) hs).unique hs'
        have hym : ys.length < 9223372036854775808 := by rw [hs.1]; have := hv.2.1; omega
        have hys : IntS (.sval true ys.length (ys.map (.int .i64))) ys := IntS.mk ys true
        generalize (AV.sval true ys.length (ys.map (.int .i64))) = ysv at *
        refine WF.fnE rfl (fn_of Try.func10 cir10) (by show 6 ≤ 138; decide) ?_
        unfold ir10
        simp only [padTo, List.replicate, List.nil_append, List.append_nil, List.cons_append]
        repeat' (first
          | (refine WO.yes rfl ?_)
          | (refine WO.noE rfl (by simp only [pt8, pt0, pt1, pt2, pt3, pt4, pt5, pt6, pt7]; rfl) ?_)
          | (refine WO.opE (by intro; simp (disch := omega) only [go_sem, Zz.look, Zz.over, Zz.cut, Nat.reduceAdd, Nat.reduceMul, Nat.reduceSub, Nat.reduceLeDiff, Nat.reduceEqDiff, Int.reduceNeg, Int.reduceAdd, Int.reduceToNat, reduceIte, reduceCtorEq, Nat.mul_one, ia_sref, lk0, lk1, st0, st1, hl.at, bb1, bb2, cellsEq, cellEq, eq_self, and_self, Int.reduceEq, Bool.and_true, Bool.true_and, Bool.and_self, cut2, cut4, hF.len, hF.look, hF.set, rcells_over, List.length_set]; rfl) (by simp only [pt8, pt0, pt1, pt2, pt3, pt4, pt5, pt6, pt7]; rfl) ?_)
          | (refine WO.opN (by intro; simp (disch := omega) only [go_sem, Zz.look, Zz.over, Zz.cut, Nat.reduceAdd, Nat.reduceMul, Nat.reduceSub, Nat.reduceLeDiff, Nat.reduceEqDiff, Int.reduceNeg, Int.reduceAdd, Int.reduceToNat, reduceIte, reduceCtorEq, Nat.mul_one, ia_sref, lk0, lk1, st0, st1, hl.at, bb1, bb2, cellsEq, cellEq, eq_self, and_self, Int.reduceEq, Bool.and_true, Bool.true_and, Bool.and_self, cut2, cut4, hF.len, hF.look, hF.set, rcells_over, List.length_set]; rfl) ?_)
          | (refine WO.opE (by intro; exact ev_lenS (by simp only [go_sem]; first | rfl | assumption)) (by simp only [pt8, pt0, pt1, pt2, pt3, pt4, pt5, pt6, pt7]; rfl) ?_)
          | (refine WO.specE rfl rfl (s11) (by simp only [pt8, pt0, pt1, pt2, pt3, pt4, pt5, pt6, pt7]; rfl) ?_)
          | (refine WO.specE rfl rfl (s12 hl hmax) (by simp only [pt8, pt0, pt1, pt2, pt3, pt4, pt5, pt6, pt7]; rfl) ?_)
          | (refine WO.opE (by intro; exact ev_lenS (by simp only [go_sem]; exact hlen)) (by simp only [pt8, pt0, pt1, pt2, pt3, pt4, pt5, pt6, pt7]; rfl) ?_)
          | (refine WC.seq ?_)
          | (refine WC.region ?_)
          | (refine WO.nil ?_)
          | (simp only [fl1, fl2, fl3, fl4, fl5, fl6, fl7, fl8, fl9, fl10, Nat.reduceBEq])
          | (refine WC.calm rfl ?_)
          | (refine WC.drawT ?_)
          | (refine WT.nil ?_)
          | (refine WT.yes rfl ?_)
          | (refine WT.no rfl (by simp only [pt8, pt0, pt1, pt2, pt3, pt4, pt5, pt6, pt7]; rfl) ?_)
          | (refine WT.free rfl (by intro; simp (disch := omega) only [go_sem, Zz.look, Zz.over, Zz.cut, Nat.reduceAdd, Nat.reduceMul, Nat.reduceSub, Nat.reduceLeDiff, Nat.reduceEqDiff, Int.reduceNeg, Int.reduceAdd, Int.reduceToNat, reduceIte, reduceCtorEq, Nat.mul_one, ia_sref, lk0, lk1, st0, st1, hl.at, bb1, bb2, cellsEq, cellEq, eq_self, and_self, Int.reduceEq, Bool.and_true, Bool.true_and, Bool.and_self, cut2, cut4, hF.len, hF.look, hF.set, rcells_over, List.length_set]; rfl) rfl (by simp only [pt8, pt0, pt1, pt2, pt3, pt4, pt5, pt6, pt7]; rfl) ?_)
          | (refine WT.big rfl rfl (by intro; simp (disch := omega) only [go_sem, Zz.look, Zz.over, Zz.cut, Nat.reduceAdd, Nat.reduceMul, Nat.reduceSub, Nat.reduceLeDiff, Nat.reduceEqDiff, Int.reduceNeg, Int.reduceAdd, Int.reduceToNat, reduceIte, reduceCtorEq, Nat.mul_one, ia_sref, lk0, lk1, st0, st1, hl.at, bb1, bb2, cellsEq, cellEq, eq_self, and_self, Int.reduceEq, Bool.and_true, Bool.true_and, Bool.and_self, cut2, cut4, hF.len, hF.look, hF.set, rcells_over, List.length_set]; rfl) (by simp (disch := omega) only [go_sem, Zz.look, Zz.over, Zz.cut, Nat.reduceAdd, Nat.reduceMul, Nat.reduceSub, Nat.reduceLeDiff, Nat.reduceEqDiff, Int.reduceNeg, Int.reduceAdd, Int.reduceToNat, reduceIte, reduceCtorEq, Nat.mul_one, ia_sref, lk0, lk1, st0, st1, hl.at, bb1, bb2, cellsEq, cellEq, eq_self, and_self, Int.reduceEq, Bool.and_true, Bool.true_and, Bool.and_self, cut2, cut4, hF.len, hF.look, hF.set, rcells_over, List.length_set, touch]; rfl) (by first | exact .inl rfl | exact .inr (apart_nil _) | (right; apply apart_mk; simp only [apartL, List.nil_append, List.cons_append, List.getElem?_cons_succ, List.getElem?_cons_zero, Tch.free, and_true, true_and]; first | done | omega)) (by simp only [pt8, pt0, pt1, pt2, pt3, pt4, pt5, pt6, pt7]; rfl) ?_)
          | (refine WT.bigN rfl rfl (by intro; simp (disch := omega) only [go_sem, Zz.look, Zz.over, Zz.cut, Nat.reduceAdd, Nat.reduceMul, Nat.reduceSub, Nat.reduceLeDiff, Nat.reduceEqDiff, Int.reduceNeg, Int.reduceAdd, Int.reduceToNat, reduceIte, reduceCtorEq, Nat.mul_one, ia_sref, lk0, lk1, st0, st1, hl.at, bb1, bb2, cellsEq, cellEq, eq_self, and_self, Int.reduceEq, Bool.and_true, Bool.true_and, Bool.and_self, cut2, cut4, hF.len, hF.look, hF.set, rcells_over, List.length_set]; rfl) (by simp (disch := omega) only [go_sem, Zz.look, Zz.over, Zz.cut, Nat.reduceAdd, Nat.reduceMul, Nat.reduceSub, Nat.reduceLeDiff, Nat.reduceEqDiff, Int.reduceNeg, Int.reduceAdd, Int.reduceToNat, reduceIte, reduceCtorEq, Nat.mul_one, ia_sref, lk0, lk1, st0, st1, hl.at, bb1, bb2, cellsEq, cellEq, eq_self, and_self, Int.reduceEq, Bool.and_true, Bool.true_and, Bool.and_self, cut2, cut4, hF.len, hF.look, hF.set, rcells_over, List.length_set, touch]; rfl) (by first | exact .inl rfl | exact .inr (apart_nil _) | (right; apply apart_mk; simp only [apartL, List.nil_append, List.cons_append, List.getElem?_cons_succ, List.getElem?_cons_zero, Tch.free, and_true, true_and]; first | done | omega)) ?_)
          | (refine WC.yes rfl ?_)
          | (refine WC.no rfl ?_)
          | (refine WC.skip ?_)
          | (refine WC.exit ?_)
          | (refine WC.ret ?_)
          | (refine WC.block ?_)
          | (refine WT.em2 rfl (by intro hp; simp only [hp, decide_true]; rfl) (by intro hp; simp only [hp, decide_false]; rfl) (fun hp => ?_) (fun hp => ?_) <;> try (exfalso; first | omega | contradiction))
          | (refine WO.em2 rfl (by intro hp; simp only [hp, decide_true]; rfl) (by intro hp; simp only [hp, decide_false]; rfl) (fun hp => ?_) (fun hp => ?_) <;> try (exfalso; first | omega | contradiction))
          | (refine WC.em2 rfl (fun hp => ?_) (fun hp => ?_) <;> try (exfalso; first | omega | contradiction)))
        refine WO.opE (by intro; rw [ev_append]; exact e7) (by simp only [pt8, pt0, pt1, pt2, pt3, pt4, pt5, pt6, pt7]; rfl) ?_
        rw [eH]
        repeat' (first
          | (refine WO.yes rfl ?_)
          | (refine WO.noE rfl (by simp only [pt8, pt0, pt1, pt2, pt3, pt4, pt5, pt6, pt7]; rfl) ?_)
          | (refine WO.opE (by intro; simp (disch := first | omega | (simp only [hF.len]) | (simp only [List.length_set]; omega)) only [go_sem, zeros, Zz.cut, List.append_assoc, List.length_append, Nat.reduceAdd, Nat.reduceMul, Nat.reduceSub, Nat.reduceLeDiff, Nat.reduceEqDiff, Int.reduceNeg, Int.reduceAdd, Int.reduceToNat, reduceIte, reduceCtorEq, Nat.mul_one, ia_sref, lk0, lk1, st0, st1, hl.at, bb1, bb2, cellsEq, cellEq, eq_self, and_self, Int.reduceEq, Bool.and_true, Bool.true_and, Bool.and_self, cut2, cut4, hF.len, hF.look, hF.set, rcells_over, List.length_set, eN, eS]; rfl) (by simp only [pt8, pt0, pt1, pt2, pt3, pt4, pt5, pt6, pt7]; rfl) ?_)
          | (refine WO.opN (by intro; simp (disch := first | omega | (simp only [hF.len]) | (simp only [List.length_set]; omega)) only [go_sem, zeros, Zz.cut, List.append_assoc, List.length_append, Nat.reduceAdd, Nat.reduceMul, Nat.reduceSub, Nat.reduceLeDiff, Nat.reduceEqDiff, Int.reduceNeg, Int.reduceAdd, Int.reduceToNat, reduceIte, reduceCtorEq, Nat.mul_one, ia_sref, lk0, lk1, st0, st1, hl.at, bb1, bb2, cellsEq, cellEq, eq_self, and_self, Int.reduceEq, Bool.and_true, Bool.true_and, Bool.and_self, cut2, cut4, hF.len, hF.look, hF.set, rcells_over, List.length_set, eN, eS]; rfl) ?_)
          | (refine WO.opE (by intro; exact ev_lenS (by simp only [go_sem]; first | rfl | assumption)) (by simp only [pt8, pt0, pt1, pt2, pt3, pt4, pt5, pt6, pt7]; rfl) ?_)
          | (refine WO.specE rfl rfl (s11) (by simp only [pt8, pt0, pt1, pt2, pt3, pt4, pt5, pt6, pt7]; rfl) ?_)
          | (refine WO.specE rfl rfl (s12 hl hmax) (by simp only [pt8, pt0, pt1, pt2, pt3, pt4, pt5, pt6, pt7]; rfl) ?_)
          | (refine WO.opE (by intro; exact ev_lenS (by simp only [go_sem]; exact hlen)) (by simp only [pt8, pt0, pt1, pt2, pt3, pt4, pt5, pt6, pt7]; rfl) ?_)
          | (refine WO.specE rfl rfl (h14 _ _ (hl.byVal _)) (by simp only [pt8, pt0, pt1, pt2, pt3, pt4, pt5, pt6, pt7]; rfl) ?_)
          | (refine WO.specE rfl rfl (j1 _ _ (hby _)) (by simp only [pt8, pt0, pt1, pt2, pt3, pt4, pt5, pt6, pt7]; rfl) ?_)
          | (refine WO.specE rfl rfl (s16 hys hys hym hym (hys.byVal _) (hys.byVal _)) (by simp only [pt8, pt0, pt1, pt2, pt3, pt4, pt5, pt6, pt7]; rfl) ?_)
          | (refine WO.specE rfl rfl (h3 _ _ (hl.byVal _)) (by simp only [pt8, pt0, pt1, pt2, pt3, pt4, pt5, pt6, pt7]; rfl) ?_)
          | (refine WO.specE rfl rfl (h4 _ _ (hby _)) (by simp only [pt8, pt0, pt1, pt2, pt3, pt4, pt5, pt6, pt7]; rfl) ?_)
          | (refine WC.seq ?_)
          | (refine WC.region ?_)
          | (refine WO.nil ?_)
          | (simp only [fl1, fl2, fl3, fl4, fl5, fl6, fl7, fl8, fl9, fl10, Nat.reduceBEq])
          | (refine WC.calm rfl ?_)
          | (refine WC.drawT ?_)
          | (refine WT.nil ?_)
          | (refine WT.yes rfl ?_)
          | (refine WT.no rfl (by simp only [pt8, pt0, pt1, pt2, pt3, pt4, pt5, pt6, pt7]; rfl) ?_)
          | (refine WT.free rfl (by intro; simp (disch := first | omega | (simp only [hF.len]) | (simp only [List.length_set]; omega)) only [go_sem, zeros, Zz.cut, List.append_assoc, List.length_append, Nat.reduceAdd, Nat.reduceMul, Nat.reduceSub, Nat.reduceLeDiff, Nat.reduceEqDiff, Int.reduceNeg, Int.reduceAdd, Int.reduceToNat, reduceIte, reduceCtorEq, Nat.mul_one, ia_sref, lk0, lk1, st0, st1, hl.at, bb1, bb2, cellsEq, cellEq, eq_self, and_self, Int.reduceEq, Bool.and_true, Bool.true_and, Bool.and_self, cut2, cut4, hF.len, hF.look, hF.set, rcells_over, List.length_set, eN, eS]; rfl) rfl (by simp only [pt8, pt0, pt1, pt2, pt3, pt4, pt5, pt6, pt7]; rfl) ?_)
          | (refine WT.big rfl rfl (by intro; simp (disch := first | omega | (simp only [hF.len]) | (simp only [List.length_set]; omega)) only [go_sem, zeros, Zz.cut, List.append_assoc, List.length_append, Nat.reduceAdd, Nat.reduceMul, Nat.reduceSub, Nat.reduceLeDiff, Nat.reduceEqDiff, Int.reduceNeg, Int.reduceAdd, Int.reduceToNat, reduceIte, reduceCtorEq, Nat.mul_one, ia_sref, lk0, lk1, st0, st1, hl.at, bb1, bb2, cellsEq, cellEq, eq_self, and_self, Int.reduceEq, Bool.and_true, Bool.true_and, Bool.and_self, cut2, cut4, hF.len, hF.look, hF.set, rcells_over, List.length_set, eN, eS]; rfl) (by simp (disch := first | omega | (simp only [hF.len]) | (simp only [List.length_set]; omega)) only [go_sem, zeros, Zz.cut, List.append_assoc, List.length_append, Nat.reduceAdd, Nat.reduceMul, Nat.reduceSub, Nat.reduceLeDiff, Nat.reduceEqDiff, Int.reduceNeg, Int.reduceAdd, Int.reduceToNat, reduceIte, reduceCtorEq, Nat.mul_one, ia_sref, lk0, lk1, st0, st1, hl.at, bb1, bb2, cellsEq, cellEq, eq_self, and_self, Int.reduceEq, Bool.and_true, Bool.true_and, Bool.and_self, cut2, cut4, hF.len, hF.look, hF.set, rcells_over, List.length_set, eN, eS, touch]; rfl) (by first | exact .inl rfl | exact .inr (apart_nil _) | (right; apply apart_mk; simp only [apartL, List.nil_append, List.cons_append, List.getElem?_cons_succ, List.getElem?_cons_zero, Tch.free, and_true, true_and]; first | done | omega)) (by simp only [pt8, pt0, pt1, pt2, pt3, pt4, pt5, pt6, pt7]; rfl) ?_)
          | (refine WT.bigN rfl rfl (by intro; simp (disch := first | omega | (simp only [hF.len]) | (simp only [List.length_set]; omega)) only [go_sem, zeros, Zz.cut, List.append_assoc, List.length_append, Nat.reduceAdd, Nat.reduceMul, Nat.reduceSub, Nat.reduceLeDiff, Nat.reduceEqDiff, Int.reduceNeg, Int.reduceAdd, Int.reduceToNat, reduceIte, reduceCtorEq, Nat.mul_one, ia_sref, lk0, lk1, st0, st1, hl.at, bb1, bb2, cellsEq, cellEq, eq_self, and_self, Int.reduceEq, Bool.and_true, Bool.true_and, Bool.and_self, cut2, cut4, hF.len, hF.look, hF.set, rcells_over, List.length_set, eN, eS]; rfl) (by simp (disch := first | omega | (simp only [hF.len]) | (simp only [List.length_set]; omega)) only [go_sem, zeros, Zz.cut, List.append_assoc, List.length_append, Nat.reduceAdd, Nat.reduceMul, Nat.reduceSub, Nat.reduceLeDiff, Nat.reduceEqDiff, Int.reduceNeg, Int.reduceAdd, Int.reduceToNat, reduceIte, reduceCtorEq, Nat.mul_one, ia_sref, lk0, lk1, st0, st1, hl.at, bb1, bb2, cellsEq, cellEq, eq_self, and_self, Int.reduceEq, Bool.and_true, Bool.true_and, Bool.and_self, cut2, cut4, hF.len, hF.look, hF.set, rcells_over, List.length_set, eN, eS, touch]; rfl) (by first | exact .inl rfl | exact .inr (apart_nil _) | (right; apply apart_mk; simp only [apartL, List.nil_append, List.cons_append, List.getElem?_cons_succ, List.getElem?_cons_zero, Tch.free, and_true, true_and]; first | done | omega)) ?_)
          | (refine WC.yes rfl ?_)
          | (refine WC.no rfl ?_)
          | (refine WC.skip ?_)
          | (refine WC.exit ?_)
          | (refine WC.ret ?_)
          | (refine WC.block ?_)
          | (refine WT.em2 rfl (by intro hp; simp only [hp, decide_true]; rfl) (by intro hp; simp only [hp, decide_false]; rfl) (fun hp => ?_) (fun hp => ?_) <;> try (exfalso; first | omega | contradiction))
          | (refine WO.em2 rfl (by intro hp; simp only [hp, decide_true]; rfl) (by intro hp; simp only [hp, decide_false]; rfl) (fun hp => ?_) (fun hp => ?_) <;> try (exfalso; first | omega | contradiction))
          | (refine WC.em2 rfl (fun hp => ?_) (fun hp => ?_) <;> try (exfalso; first | omega | contradiction)))
        exact ⟨_, rfl, rfl⟩
      · have hp' : ∀ p, ¬ Pot rs p := fun p h => hp ⟨p, h⟩
        obtain ⟨x, rfl⟩ := solve_lie hv hp' out
        obtain ⟨x', rfl⟩ := solve_lie hv' (fun p h => hp' p (hs1.pot h)) out'
        refine WF.fnE rfl (fn_of Try.func10 cir10) (by show 6 ≤ 138; decide) ?_
        unfold ir10
        simp only [padTo, List.replicate, List.nil_append, List.append_nil, List.cons_append]
        repeat' (first
          | (refine WO.yes rfl ?_)
          | (refine WO.noE rfl (by simp only [pt8, pt0, pt1, pt2, pt3, pt4, pt5, pt6, pt7]; rfl) ?_)
          | (refine WO.opE (by intro; simp (disch := omega) only [go_sem, Zz.look, Zz.over, Zz.cut, Nat.reduceAdd, Nat.reduceMul, Nat.reduceSub, Nat.reduceLeDiff, Nat.reduceEqDiff, Int.reduceNeg, Int.reduceAdd, Int.reduceToNat, reduceIte, reduceCtorEq, Nat.mul_one, ia_sref, lk0, lk1, st0, st1, hl.at, bb1, bb2, cellsEq, cellEq, eq_self, and_self, Int.reduceEq, Bool.and_true, Bool.true_and, Bool.and_self, cut2, cut4, hF.len, hF.look, hF.set, rcells_over, List.length_set]; rfl) (by simp only [pt8, pt0, pt1, pt2, pt3, pt4, pt5, pt6, pt7]; rfl) ?_)
          | (refine WO.opN (by intro; simp (disch := omega) only [go_sem, Zz.look, Zz.over, Zz.cut, Nat.reduceAdd, Nat.reduceMul, Nat.reduceSub, Nat.reduceLeDiff, Nat.reduceEqDiff, Int.reduceNeg, Int.reduceAdd, Int.reduceToNat, reduceIte, reduceCtorEq, Nat.mul_one, ia_sref, lk0, lk1, st0, st1, hl.at, bb1, bb2, cellsEq, cellEq, eq_self, and_self, Int.reduceEq, Bool.and_true, Bool.true_and, Bool.and_self, cut2, cut4, hF.len, hF.look, hF.set, rcells_over, List.length_set]; rfl) ?_)
          | (refine WO.opE (by intro; exact ev_lenS (by simp only [go_sem]; first | rfl | assumption)) (by simp only [pt8, pt0, pt1, pt2, pt3, pt4, pt5, pt6, pt7]; rfl) ?_)
          | (refine WO.specE rfl rfl (s11) (by simp only [pt8, pt0, pt1, pt2, pt3, pt4, pt5, pt6, pt7]; rfl) ?_)
          | (refine WO.specE rfl rfl (s12 hl hmax) (by simp only [pt8, pt0, pt1, pt2, pt3, pt4, pt5, pt6, pt7]; rfl) ?_)
          | (refine WO.opE (by intro; exact ev_lenS (by simp only [go_sem]; exact hlen)) (by simp only [pt8, pt0, pt1, pt2, pt3, pt4, pt5, pt6, pt7]; rfl) ?_)
          | (refine WC.seq ?_)
          | (refine WC.region ?_)
          | (refine WO.nil ?_)
          | (simp only [fl1, fl2, fl3, fl4, fl5, fl6, fl7, fl8, fl9, fl10, Nat.reduceBEq])
          | (refine WC.calm rfl ?_)
          | (refine WC.drawT ?_)
          | (refine WT.nil ?_)
          | (refine WT.yes rfl ?_)
          | (refine WT.no rfl (by simp only [pt8, pt0, pt1, pt2, pt3, pt4, pt5, pt6, pt7]; rfl) ?_)
          | (refine WT.free rfl (by intro; simp (disch := omega) only [go_sem, Zz.look, Zz.over, Zz.cut, Nat.reduceAdd, Nat.reduceMul, Nat.reduceSub, Nat.reduceLeDiff, Nat.reduceEqDiff, Int.reduceNeg, Int.reduceAdd, Int.reduceToNat, reduceIte, reduceCtorEq, Nat.mul_one, ia_sref, lk0, lk1, st0, st1, hl.at, bb1, bb2, cellsEq, cellEq, eq_self, and_self, Int.reduceEq, Bool.and_true, Bool.true_and, Bool.and_self, cut2, cut4, hF.len, hF.look, hF.set, rcells_over, List.length_set]; rfl) rfl (by simp only [pt8, pt0, pt1, pt2, pt3, pt4, pt5, pt6, pt7]; rfl) ?_)
          | (refine WT.big rfl rfl (by intro; simp (disch := omega) only [go_sem, Zz.look, Zz.over, Zz.cut, Nat.reduceAdd, Nat.reduceMul, Nat.reduceSub, Nat.reduceLeDiff, Nat.reduceEqDiff, Int.reduceNeg, Int.reduceAdd, Int.reduceToNat, reduceIte, reduceCtorEq, Nat.mul_one, ia_sref, lk0, lk1, st0, st1, hl.at, bb1, bb2, cellsEq, cellEq, eq_self, and_self, Int.reduceEq, Bool.and_true, Bool.true_and, Bool.and_self, cut2, cut4, hF.len, hF.look, hF.set, rcells_over, List.length_set]; rfl) (by simp (disch := omega) only [go_sem, Zz.look, Zz.over, Zz.cut, Nat.reduceAdd, Nat.reduceMul, Nat.reduceSub, Nat.reduceLeDiff, Nat.reduceEqDiff, Int.reduceNeg, Int.reduceAdd, Int.reduceToNat, reduceIte, reduceCtorEq, Nat.mul_one, ia_sref, lk0, lk1, st0, st1, hl.at, bb1, bb2, cellsEq, cellEq, eq_self, and_self, Int.reduceEq, Bool.and_true, Bool.true_and, Bool.and_self, cut2, cut4, hF.len, hF.look, hF.set, rcells_over, List.length_set, touch]; rfl) (by first | exact .inl rfl | exact .inr (apart_nil _) | (right; apply apart_mk; simp only [apartL, List.nil_append, List.cons_append, List.getElem?_cons_succ, List.getElem?_cons_zero, Tch.free, and_true, true_and]; first | done | omega)) (by simp only [pt8, pt0, pt1, pt2, pt3, pt4, pt5, pt6, pt7]; rfl) ?_)
          | (refine WT.bigN rfl rfl (by intro; simp (disch := omega) only [go_sem, Zz.look, Zz.over, Zz.cut, Nat.reduceAdd, Nat.reduceMul, Nat.reduceSub, Nat.reduceLeDiff, Nat.reduceEqDiff, Int.reduceNeg, Int.reduceAdd, Int.reduceToNat, reduceIte, reduceCtorEq, Nat.mul_one, ia_sref, lk0, lk1, st0, st1, hl.at, bb1, bb2, cellsEq, cellEq, eq_self, and_self, Int.reduceEq, Bool.and_true, Bool.true_and, Bool.and_self, cut2, cut4, hF.len, hF.look, hF.set, rcells_over, List.length_set]; rfl) (by simp (disch := omega) only [go_sem, Zz.look, Zz.over, Zz.cut, Nat.reduceAdd, Nat.reduceMul, Nat.reduceSub, Nat.reduceLeDiff, Nat.reduceEqDiff, Int.reduceNeg, Int.reduceAdd, Int.reduceToNat, reduceIte, reduceCtorEq, Nat.mul_one, ia_sref, lk0, lk1, st0, st1, hl.at, bb1, bb2, cellsEq, cellEq, eq_self, and_self, Int.reduceEq, Bool.and_true, Bool.true_and, Bool.and_self, cut2, cut4, hF.len, hF.look, hF.set, rcells_over, List.length_set, touch]; rfl) (by first | exact .inl rfl | exact .inr (apart_nil _) | (right; apply apart_mk; simp only [apartL, List.nil_append, List.cons_append, List.getElem?_cons_succ, List.getElem?_cons_zero, Tch.free, and_true, true_and]; first | done | omega)) ?_)
          | (refine WC.yes rfl ?_)
          | (refine WC.no rfl ?_)
          | (refine WC.skip ?_)
          | (refine WC.exit ?_)
          | (refine WC.ret ?_)
          | (refine WC.block ?_)
          | (refine WT.em2 rfl (by intro hp; simp only [hp, decide_true]; rfl) (by intro hp; simp only [hp, decide_false]; rfl) (fun hp => ?_) (fun hp => ?_) <;> try (exfalso; first | omega | contradiction))
          | (refine WO.em2 rfl (by intro hp; simp only [hp, decide_true]; rfl) (by intro hp; simp only [hp, decide_false]; rfl) (fun hp => ?_) (fun hp => ?_) <;> try (exfalso; first | omega | contradiction))
          | (refine WC.em2 rfl (fun hp => ?_) (fun hp => ?_) <;> try (exfalso; first | omega | contradiction)))
        refine WO.opE (by intro; rw [ev_append]; exact e7) (by simp only [pt8, pt0, pt1, pt2, pt3, pt4, pt5, pt6, pt7]; rfl) ?_
        rw [eH]
        repeat' (first
          | (refine WO.yes rfl ?_)
          | (refine WO.noE rfl (by simp only [pt8, pt0, pt1, pt2, pt3, pt4, pt5, pt6, pt7]; rfl) ?_)
          | (refine WO.opE (by intro; simp (disch := first | omega | (simp only [hF.len]) | (simp only [List.length_set]; omega)) only [go_sem, zeros, Zz.cut, List.append_assoc, List.length_append, Nat.reduceAdd, Nat.reduceMul, Nat.reduceSub, Nat.reduceLeDiff, Nat.reduceEqDiff, Int.reduceNeg, Int.reduceAdd, Int.reduceToNat, reduceIte, reduceCtorEq, Nat.mul_one, ia_sref, lk0, lk1, st0, st1, hl.at, bb1, bb2, cellsEq, cellEq, eq_self, and_self, Int.reduceEq, Bool.and_true, Bool.true_and, Bool.and_self, cut2, cut4, hF.len, hF.look, hF.set, rcells_over, List.length_set, eN, eS]; rfl) (by simp only [pt8, pt0, pt1, pt2, pt3, pt4, pt5, pt6, pt7]; rfl) ?_)
          | (refine WO.opN (by intro; simp (disch := first | omega | (simp only [hF.len]) | (simp only [List.length_set]; omega)) only [go_sem, zeros, Zz.cut, List.append_assoc, List.length_append, Nat.reduceAdd, Nat.reduceMul, Nat.reduceSub, Nat.reduceLeDiff, Nat.reduceEqDiff, Int.reduceNeg, Int.reduceAdd, Int.reduceToNat, reduceIte, reduceCtorEq, Nat.mul_one, ia_sref, lk0, lk1, st0, st1, hl.at, bb1, bb2, cellsEq, cellEq, eq_self, and_self, Int.reduceEq, Bool.and_true, Bool.true_and, Bool.and_self, cut2, cut4, hF.len, hF.look, hF.set, rcells_over, List.length_set, eN, eS]; rfl) ?_)
          | (refine WO.opE (by intro; exact ev_lenS (by simp only [go_sem]; first | rfl | assumption)) (by simp only [pt8, pt0, pt1, pt2, pt3, pt4, pt5, pt6, pt7]; rfl) ?_)
          | (refine WO.specE rfl rfl (s11) (by simp only [pt8, pt0, pt1, pt2, pt3, pt4, pt5, pt6, pt7]; rfl) ?_)
          | (refine WO.specE rfl rfl (s12 hl hmax) (by simp only [pt8, pt0, pt1, pt2, pt3, pt4, pt5, pt6, pt7]; rfl) ?_)
          | (refine WO.opE (by intro; exact ev_lenS (by simp only [go_sem]; exact hlen)) (by simp only [pt8, pt0, pt1, pt2, pt3, pt4, pt5, pt6, pt7]; rfl) ?_)
          | (refine WO.specE rfl rfl (h14 _ _ (hl.byVal _)) (by simp only [pt8, pt0, pt1, pt2, pt3, pt4, pt5, pt6, pt7]; rfl) ?_)
          | (refine WO.specE rfl rfl (j1 _ _ (hby _)) (by simp only [pt8, pt0, pt1, pt2, pt3, pt4, pt5, pt6, pt7]; rfl) ?_)
          | (refine WO.specE rfl rfl (s16 IntS.nil IntS.nil (by decide) (by decide) rfl rfl) (by simp only [pt8, pt0, pt1, pt2, pt3, pt4, pt5, pt6, pt7]; rfl) ?_)
          | (refine WO.specE rfl rfl (h3 _ _ (hl.byVal _)) (by simp only [pt8, pt0, pt1, pt2, pt3, pt4, pt5, pt6, pt7]; rfl) ?_)
          | (refine WO.specE rfl rfl (h4 _ _ (hby _)) (by simp only [pt8, pt0, pt1, pt2, pt3, pt4, pt5, pt6, pt7]; rfl) ?_)
          | (refine WC.seq ?_)
          | (refine WC.region ?_)
          | (refine WO.nil ?_)
          | (simp only [fl1, fl2, fl3, fl4, fl5, fl6, fl7, fl8, fl9, fl10, Nat.reduceBEq])
          | (refine WC.calm rfl ?_)
          | (refine WC.drawT ?_)
          | (refine WT.nil ?_)
          | (refine WT.yes rfl ?_)
          | (refine WT.no rfl (by simp only [pt8, pt0, pt1, pt2, pt3, pt4, pt5, pt6, pt7]; rfl) ?_)
          | (refine WT.free rfl (by intro; simp (disch := first | omega | (simp only [hF.len]) | (simp only [List.length_set]; omega)) only [go_sem, zeros, Zz.cut, List.append_assoc, List.length_append, Nat.reduceAdd, Nat.reduceMul, Nat.reduceSub, Nat.reduceLeDiff, Nat.reduceEqDiff, Int.reduceNeg, Int.reduceAdd, Int.reduceToNat, reduceIte, reduceCtorEq, Nat.mul_one, ia_sref, lk0, lk1, st0, st1, hl.at, bb1, bb2, cellsEq, cellEq, eq_self, and_self, Int.reduceEq, Bool.and_true, Bool.true_and, Bool.and_self, cut2, cut4, hF.len, hF.look, hF.set, rcells_over, List.length_set, eN, eS]; rfl) rfl (by simp only [pt8, pt0, pt1, pt2, pt3, pt4, pt5, pt6, pt7]; rfl) ?_)
          | (refine WT.big rfl rfl (by intro; simp (disch := first | omega | (simp only [hF.len]) | (simp only [List.length_set]; omega)) only [go_sem, zeros, Zz.cut, List.append_assoc, List.length_append, Nat.reduceAdd, Nat.reduceMul, Nat.reduceSub, Nat.reduceLeDiff, Nat.reduceEqDiff, Int.reduceNeg, Int.reduceAdd, Int.reduceToNat, reduceIte, reduceCtorEq, Nat.mul_one, ia_sref, lk0, lk1, st0, st1, hl.at, bb1, bb2, cellsEq, cellEq, eq_self, and_self, Int.reduceEq, Bool.and_true, Bool.true_and, Bool.and_self, cut2, cut4, hF.len, hF.look, hF.set, rcells_over, List.length_set, eN, eS]; rfl) (by simp (disch := first | omega | (simp only [hF.len]) | (simp only [List.length_set]; omega)) only [go_sem, zeros, Zz.cut, List.append_assoc, List.length_append, Nat.reduceAdd, Nat.reduceMul, Nat.reduceSub, Nat.reduceLeDiff, Nat.reduceEqDiff, Int.reduceNeg, Int.reduceAdd, Int.reduceToNat, reduceIte, reduceCtorEq, Nat.mul_one, ia_sref, lk0, lk1, st0, st1, hl.at, bb1, bb2, cellsEq, cellEq, eq_self, and_self, Int.reduceEq, Bool.and_true, Bool.true_and, Bool.and_self, cut2, cut4, hF.len, hF.look, hF.set, rcells_over, List.length_set, eN, eS, touch]; rfl) (by first | exact .inl rfl | exact .inr (apart_nil _) | (right; apply apart_mk; simp only [apartL, List.nil_append, List.cons_append, List.getElem?_cons_succ, List.getElem?_cons_zero, Tch.free, and_true, true_and]; first | done | omega)) (by simp only [pt8, pt0, pt1, pt2, pt3, pt4, pt5, pt6, pt7]; rfl) ?_)
          | (refine WT.bigN rfl rfl (by intro; simp (disch := first | omega | (simp only [hF.len]) | (simp only [List.length_set]; omega)) only [go_sem, zeros, Zz.cut, List.append_assoc, List.length_append, Nat.reduceAdd, Nat.reduceMul, Nat.reduceSub, Nat.reduceLeDiff, Nat.reduceEqDiff, Int.reduceNeg, Int.reduceAdd, Int.reduceToNat, reduceIte, reduceCtorEq, Nat.mul_one, ia_sref, lk0, lk1, st0, st1, hl.at, bb1, bb2, cellsEq, cellEq, eq_self, and_self, Int.reduceEq, Bool.and_true, Bool.true_and, Bool.and_self, cut2, cut4, hF.len, hF.look, hF.set, rcells_over, List.length_set, eN, eS]; rfl) (by simp (disch := first | omega | (simp only [hF.len]) | (simp only [List.length_set]; omega)) only [go_sem, zeros, Zz.cut, List.append_assoc, List.length_append, Nat.reduceAdd, Nat.reduceMul, Nat.reduceSub, Nat.reduceLeDiff, Nat.reduceEqDiff, Int.reduceNeg, Int.reduceAdd, Int.reduceToNat, reduceIte, reduceCtorEq, Nat.mul_one, ia_sref, lk0, lk1, st0, st1, hl.at, bb1, bb2, cellsEq, cellEq, eq_self, and_self, Int.reduceEq, Bool.and_true, Bool.true_and, Bool.and_self, cut2, cut4, hF.len, hF.look, hF.set, rcells_over, List.length_set, eN, eS, touch]; rfl) (by first | exact .inl rfl | exact .inr (apart_nil _) | (right; apply apart_mk; simp only [apartL, List.nil_append, List.cons_append, List.getElem?_cons_succ, List.getElem?_cons_zero, Tch.free, and_true, true_and]; first | done | omega)) ?_)
          | (refine WC.yes rfl ?_)
          | (refine WC.no rfl ?_)
          | (refine WC.skip ?_)
          | (refine WC.exit ?_)
          | (refine WC.ret ?_)
          | (refine WC.block ?_)
          | (refine WT.em2 rfl (by intro hp; simp only [hp, decide_true]; rfl) (by intro hp; simp only [hp, decide_false]; rfl) (fun hp => ?_) (fun hp => ?_) <;> try (exfalso; first | omega | contradiction))
          | (refine WO.em2 rfl (by intro hp; simp only [hp, decide_true]; rfl) (by intro hp; simp only [hp, decide_false]; rfl) (fun hp => ?_) (fun hp => ?_) <;> try (exfalso; first | omega | contradiction))
          | (refine WC.em2 rfl (fun hp => ?_) (fun hp => ?_) <;> try (exfalso; first | omega | contradiction)))
        exact ⟨_, rfl, rfl⟩
    · have e0 := hr
      refine WF.fnE rfl (fn_of Try.func10 cir10) (by show 6 ≤ 138; decide) ?_
      unfold ir10
      simp only [padTo, List.replicate, List.nil_append, List.append_nil, List.cons_append]
      repeat' (first
        | (refine WO.yes rfl ?_)
        | (refine WO.noE rfl (by simp only [pt8, pt0, pt1, pt2, pt3, pt4, pt5, pt6, pt7]; rfl) ?_)
        | (refine WO.opE (by intro; simp (disch := omega) only [go_sem, Zz.look, Zz.over, Zz.cut, Nat.reduceAdd, Nat.reduceMul, Nat.reduceSub, Nat.reduceLeDiff, Nat.reduceEqDiff, Int.reduceNeg, Int.reduceAdd, Int.reduceToNat, reduceIte, reduceCtorEq, Nat.mul_one, ia_sref, lk0, lk1, st0, st1, hl.at, bb1, bb2, cellsEq, cellEq, eq_self, and_self, Int.reduceEq, Bool.and_true, Bool.true_and, Bool.and_self, cut2, cut4, rcells_over, List.length_set]; rfl) (by simp only [pt8, pt0, pt1, pt2, pt3, pt4, pt5, pt6, pt7]; rfl) ?_)
        | (refine WO.opN (by intro; simp (disch := omega) only [go_sem, Zz.look, Zz.over, Zz.cut, Nat.reduceAdd, Nat.reduceMul, Nat.reduceSub, Nat.reduceLeDiff, Nat.reduceEqDiff, Int.reduceNeg, Int.reduceAdd, Int.reduceToNat, reduceIte, reduceCtorEq, Nat.mul_one, ia_sref, lk0, lk1, st0, st1, hl.at, bb1, bb2, cellsEq, cellEq, eq_self, and_self, Int.reduceEq, Bool.and_true, Bool.true_and, Bool.and_self, cut2, cut4, rcells_over, List.length_set]; rfl) ?_)
        | (refine WO.opE (by intro; exact ev_lenS (by simp only [go_sem]; first | rfl | assumption)) (by simp only [pt8, pt0, pt1, pt2, pt3, pt4, pt5, pt6, pt7]; rfl) ?_)
        | (refine WO.specE rfl rfl (s11) (by simp only [pt8, pt0, pt1, pt2, pt3, pt4, pt5, pt6, pt7]; rfl) ?_)
        | (refine WO.specE rfl rfl (s12 hl hmax) (by simp only [pt8, pt0, pt1, pt2, pt3, pt4, pt5, pt6, pt7]; rfl) ?_)
        | (refine WO.opE (by intro; exact ev_lenS (by simp only [go_sem]; exact hlen)) (by simp only [pt8, pt0, pt1, pt2, pt3, pt4, pt5, pt6, pt7]; rfl) ?_)
        | (refine WC.seq ?_)
        | (refine WC.region ?_)
        | (refine WO.nil ?_)
        | (simp only [fl1, fl2, fl3, fl4, fl5, fl6, fl7, fl8, fl9, fl10, Nat.reduceBEq])
        | (refine WC.calm rfl ?_)
        | (refine WC.drawT ?_)
        | (refine WT.nil ?_)
        | (refine WT.yes rfl ?_)
        | (refine WT.no rfl (by simp only [pt8, pt0, pt1, pt2, pt3, pt4, pt5, pt6, pt7]; rfl) ?_)
        | (refine WT.free rfl (by intro; simp (disch := omega) only [go_sem, Zz.look, Zz.over, Zz.cut, Nat.reduceAdd, Nat.reduceMul, Nat.reduceSub, Nat.reduceLeDiff, Nat.reduceEqDiff, Int.reduceNeg, Int.reduceAdd, Int.reduceToNat, reduceIte, reduceCtorEq, Nat.mul_one, ia_sref, lk0, lk1, st0, st1, hl.at, bb1, bb2, cellsEq, cellEq, eq_self, and_self, Int.reduceEq, Bool.and_true, Bool.true_and, Bool.and_self, cut2, cut4, rcells_over, List.length_set]; rfl) rfl (by simp only [pt8, pt0, pt1, pt2, pt3, pt4, pt5, pt6, pt7]; rfl) ?_)
        | (refine WT.big rfl rfl (by intro; simp (disch := omega) only [go_sem, Zz.look, Zz.over, Zz.cut, Nat.reduceAdd, Nat.reduceMul, Nat.reduceSub, Nat.reduceLeDiff, Nat.reduceEqDiff, Int.reduceNeg, Int.reduceAdd, Int.reduceToNat, reduceIte, reduceCtorEq, Nat.mul_one, ia_sref, lk0, lk1, st0, st1, hl.at, bb1, bb2, cellsEq, cellEq, eq_self, and_self, Int.reduceEq, Bool.and_true, Bool.true_and, Bool.and_self, cut2, cut4, rcells_over, List.length_set]; rfl) (by simp (disch := omega) only [go_sem, Zz.look, Zz.over, Zz.cut, Nat.reduceAdd, Nat.reduceMul, Nat.reduceSub, Nat.reduceLeDiff, Nat.reduceEqDiff, Int.reduceNeg, Int.reduceAdd, Int.reduceToNat, reduceIte, reduceCtorEq, Nat.mul_one, ia_sref, lk0, lk1, st0, st1, hl.at, bb1, bb2, cellsEq, cellEq, eq_self, and_self, Int.reduceEq, Bool.and_true, Bool.true_and, Bool.and_self, cut2, cut4, rcells_over, List.length_set, touch]; rfl) (by first | exact .inl rfl | exact .inr (apart_nil _) | (right; apply apart_mk; simp only [apartL, List.nil_append, List.cons_append, List.getElem?_cons_succ, List.getElem?_cons_zero, Tch.free, and_true, true_and]; first | done | omega)) (by simp only [pt8, pt0, pt1, pt2, pt3, pt4, pt5, pt6, pt7]; rfl) ?_)
        | (refine WT.bigN rfl rfl (by intro; simp (disch := omega) only [go_sem, Zz.look, Zz.over, Zz.cut, Nat.reduceAdd, Nat.reduceMul, Nat.reduceSub, Nat.reduceLeDiff, Nat.reduceEqDiff, Int.reduceNeg, Int.reduceAdd, Int.reduceToNat, reduceIte, reduceCtorEq, Nat.mul_one, ia_sref, lk0, lk1, st0, st1, hl.at, bb1, bb2, cellsEq, cellEq, eq_self, and_self, Int.reduceEq, Bool.and_true, Bool.true_and, Bool.and_self, cut2, cut4, rcells_over, List.length_set]; rfl) (by simp (disch := omega) only [go_sem, Zz.look, Zz.over, Zz.cut, Nat.reduceAdd, Nat.reduceMul, Nat.reduceSub, Nat.reduceLeDiff, Nat.reduceEqDiff, Int.reduceNeg, Int.reduceAdd, Int.reduceToNat, reduceIte, reduceCtorEq, Nat.mul_one, ia_sref, lk0, lk1, st0, st1, hl.at, bb1, bb2, cellsEq, cellEq, eq_self, and_self, Int.reduceEq, Bool.and_true, Bool.true_and, Bool.and_self, cut2, cut4, rcells_over, List.length_set, touch]; rfl) (by first | exact .inl rfl | exact .inr (apart_nil _) | (right; apply apart_mk; simp only [apartL, List.nil_append, List.cons_append, List.getElem?_cons_succ, List.getElem?_cons_zero, Tch.free, and_true, true_and]; first | done | omega)) ?_)
        | (refine WC.yes rfl ?_)
        | (refine WC.no rfl ?_)
        | (refine WC.skip ?_)
        | (refine WC.exit ?_)
        | (refine WC.ret ?_)
        | (refine WC.block ?_)
        | (refine WT.em2 rfl (by intro hp; simp only [hp, decide_true]; rfl) (by intro hp; simp only [hp, decide_false]; rfl) (fun hp => ?_) (fun hp => ?_) <;> try (exfalso; first | omega | contradiction))
        | (refine WO.em2 rfl (by intro hp; simp only [hp, decide_true]; rfl) (by intro hp; simp only [hp, decide_false]; rfl) (fun hp => ?_) (fun hp => ?_) <;> try (exfalso; first | omega | contradiction))
        | (refine WC.em2 rfl (fun hp => ?_) (fun hp => ?_) <;> try (exfalso; first | omega | contradiction)))
      all_goals exact ⟨_, rfl, rfl⟩
  · have e0 := hv
    refine WF.fnE rfl (fn_of Try.func10 cir10) (by show 6 ≤ 138; decide) ?_
    unfold ir10
    simp only [padTo, List.replicate, List.nil_append, List.append_nil, List.cons_append]
    repeat' (first
      | (refine WO.yes rfl ?_)
      | (refine WO.noE rfl (by simp only [pt8, pt0, pt1, pt2, pt3, pt4, pt5, pt6, pt7]; rfl) ?_)
      | (refine WO.opE (by intro; simp (disch := omega) only [go_sem, Zz.look, Zz.over, Zz.cut, Nat.reduceAdd, Nat.reduceMul, Nat.reduceSub, Nat.reduceLeDiff, Nat.reduceEqDiff, Int.reduceNeg, Int.reduceAdd, Int.reduceToNat, reduceIte, reduceCtorEq, Nat.mul_one, ia_sref, lk0, lk1, st0, st1, hl.at, bb1, bb2, cellsEq, cellEq, eq_self, and_self, Int.reduceEq, Bool.and_true, Bool.true_and, Bool.and_self, cut2, cut4, rcells_over, List.length_set]; rfl) (by simp only [pt8, pt0, pt1, pt2, pt3, pt4, pt5, pt6, pt7]; rfl) ?_)
      | (refine WO.opN (by intro; simp (disch := omega) only [go_sem, Zz.look, Zz.over, Zz.cut, Nat.reduceAdd, Nat.reduceMul, Nat.reduceSub, Nat.reduceLeDiff, Nat.reduceEqDiff, Int.reduceNeg, Int.reduceAdd, Int.reduceToNat, reduceIte, reduceCtorEq, Nat.mul_one, ia_sref, lk0, lk1, st0, st1, hl.at, bb1, bb2, cellsEq, cellEq, eq_self, and_self, Int.reduceEq, Bool.and_true, Bool.true_and, Bool.and_self, cut2, cut4, rcells_over, List.length_set]; rfl) ?_)
      | (refine WO.opE (by intro; exact ev_lenS (by simp only [go_sem]; first | rfl | assumption)) (by simp only [pt8, pt0, pt1, pt2, pt3, pt4, pt5, pt6, pt7]; rfl) ?_)
      | (refine WO.specE rfl rfl (s11) (by simp only [pt8, pt0, pt1, pt2, pt3, pt4, pt5, pt6, pt7]; rfl) ?_)
      | (refine WO.specE rfl rfl (s12 hl hmax) (by simp only [pt8, pt0, pt1, pt2, pt3, pt4, pt5, pt6, pt7]; rfl) ?_)
      | (refine WO.opE (by intro; exact ev_lenS (by simp only [go_sem]; exact hlen)) (by simp only [pt8, pt0, pt1, pt2, pt3, pt4, pt5, pt6, pt7]; rfl) ?_)
      | (refine WC.seq ?_)
      | (refine WC.region ?_)
      | (refine WO.nil ?_)
      | (simp only [fl1, fl2, fl3, fl4, fl5, fl6, fl7, fl8, fl9, fl10, Nat.reduceBEq])
      | (refine WC.calm rfl ?_)
      | (refine WC.drawT ?_)
      | (refine WT.nil ?_)
      | (refine WT.yes rfl ?_)
      | (refine WT.no rfl (by simp only [pt8, pt0, pt1, pt2, pt3, pt4, pt5, pt6, pt7]; rfl) ?_)
      | (refine WT.free rfl (by intro; simp (disch := omega) only [go_sem, Zz.look, Zz.over, Zz.cut, Nat.reduceAdd, Nat.reduceMul, Nat.reduceSub, Nat.reduceLeDiff, Nat.reduceEqDiff, Int.reduceNeg, Int.reduceAdd, Int.reduceToNat, reduceIte, reduceCtorEq, Nat.mul_one, ia_sref, lk0, lk1, st0, st1, hl.at, bb1, bb2, cellsEq, cellEq, eq_self, and_self, Int.reduceEq, Bool.and_true, Bool.true_and, Bool.and_self, cut2, cut4, rcells_over, List.length_set]; rfl) rfl (by simp only [pt8, pt0, pt1, pt2, pt3, pt4, pt5, pt6, pt7]; rfl) ?_)
      | (refine WT.big rfl rfl (by intro; simp (disch := omega) only [go_sem, Zz.look, Zz.over, Zz.cut, Nat.reduceAdd, Nat.reduceMul, Nat.reduceSub, Nat.reduceLeDiff, Nat.reduceEqDiff, Int.reduceNeg, Int.reduceAdd, Int.reduceToNat, reduceIte, reduceCtorEq, Nat.mul_one, ia_sref, lk0, lk1, st0, st1, hl.at, bb1, bb2, cellsEq, cellEq, eq_self, and_self, Int.reduceEq, Bool.and_true, Bool.true_and, Bool.and_self, cut2, cut4, rcells_over, List.length_set]; rfl) (by simp (disch := omega) only [go_sem, Zz.look, Zz.over, Zz.cut, Nat.reduceAdd, Nat.reduceMul, Nat.reduceSub, Nat.reduceLeDiff, Nat.reduceEqDiff, Int.reduceNeg, Int.reduceAdd, Int.reduceToNat, reduceIte, reduceCtorEq, Nat.mul_one, ia_sref, lk0, lk1, st0, st1, hl.at, bb1, bb2, cellsEq, cellEq, eq_self, and_self, Int.reduceEq, Bool.and_true, Bool.true_and, Bool.and_self, cut2, cut4, rcells_over, List.length_set, touch]; rfl) (by first | exact .inl rfl | exact .inr (apart_nil _) | (right; apply apart_mk; simp only [apartL, List.nil_append, List.cons_append, List.getElem?_cons_succ, List.getElem?_cons_zero, Tch.free, and_true, true_and]; first | done | omega)) (by simp only [pt8, pt0, pt1, pt2, pt3, pt4, pt5, pt6, pt7]; rfl) ?_)
      | (refine WT.bigN rfl rfl (by intro; simp (disch := omega) only [go_sem, Zz.look, Zz.over, Zz.cut, Nat.reduceAdd, Nat.reduceMul, Nat.reduceSub, Nat.reduceLeDiff, Nat.reduceEqDiff, Int.reduceNeg, Int.reduceAdd, Int.reduceToNat, reduceIte, reduceCtorEq, Nat.mul_one, ia_sref, lk0, lk1, st0, st1, hl.at, bb1, bb2, cellsEq, cellEq, eq_self, and_self, Int.reduceEq, Bool.and_true, Bool.true_and, Bool.and_self, cut2, cut4, rcells_over, List.length_set]; rfl) (by simp (disch := omega) only [go_sem, Zz.look, Zz.over, Zz.cut, Nat.reduceAdd, Nat.reduceMul, Nat.reduceSub, Nat.reduceLeDiff, Nat.reduceEqDiff, Int.reduceNeg, Int.reduceAdd, Int.reduceToNat, reduceIte, reduceCtorEq, Nat.mul_one, ia_sref, lk0, lk1, st0, st1, hl.at, bb1, bb2, cellsEq, cellEq, eq_self, and_self, Int.reduceEq, Bool.and_true, Bool.true_and, Bool.and_self, cut2, cut4, rcells_over, List.length_set, touch]; rfl) (by first | exact .inl rfl | exact .inr (apart_nil _) | (right; apply apart_mk; simp only [apartL, List.nil_append, List.cons_append, List.getElem?_cons_succ, List.getElem?_cons_zero, Tch.free, and_true, true_and]; first | done | omega)) ?_)
      | (refine WC.yes rfl ?_)
      | (refine WC.no rfl ?_)
      | (refine WC.skip ?_)
      | (refine WC.exit ?_)
      | (refine WC.ret ?_)
      | (refine WC.block ?_)
      | (refine WT.em2 rfl (by intro hp; simp only [hp, decide_true]; rfl) (by intro hp; simp only [hp, decide_false]; rfl) (fun hp => ?_) (fun hp => ?_) <;> try (exfalso; first | omega | contradiction))
      | (refine WO.em2 rfl (by intro hp; simp only [hp, decide_true]; rfl) (by intro hp; simp only [hp, decide_false]; rfl) (fun hp => ?_) (fun hp => ?_) <;> try (exfalso; first | omega | contradiction))
      | (refine WC.em2 rfl (fun hp => ?_) (fun hp => ?_) <;> try (exfalso; first | omega | contradiction)))
    exact ⟨_, rfl, rfl⟩
end Go.Proofs.Ytndaljjljmmlcaa

