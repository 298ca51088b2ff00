import Derived.Test.YtndaljjljmmlcaaIr16n9
import Derived.Test.YtndaljjljmmlcaaL16ya
set_option linter.unusedSimpArgs false
set_option linter.unusedVariables false
namespace Go.Proofs.Ytndaljjljmmlcaa
open Go.Zz
set_option maxRecDepth 100000
set_option maxHeartbeats 16000000
theorem run9 {n : Int} {rs : List Rg} {l : AV} {a b c d : Int} (hl : RdL l rs) (hmax : rs.length < 9223372036854775808) : WF E21 (.func 9 [] []) [.int .i64 n, l, .int .i64 a, .int .i64 b, .int .i64 c, .int .i64 d] ⟨[], []⟩ fun y m' => y = .bool true := by
  have hlen := hl.len
  rcases bound_not (n := n) (a := a) (b := b) hl hmax with ⟨e, he, h1, _⟩ | ⟨a, b, rfl, rfl, hv, ha, hb, ⟨p, hp⟩, X, Y, hX, hY, k1, o1, h1⟩
  · have e0 := he
    refine WF.fnE rfl (fn_of Try.func9 cir9) (by show 6 ≤ 111; decide) ?_
    unfold ir9
    simp only [padTo, List.replicate, List.nil_append, List.append_nil, List.cons_append]
    repeat' (first
      | (refine WO.yes rfl ?_)
      | (refine WO.noE rfl (by simp only [pt8, pt0, pt1, pt2, pt3, pt4, pt5, pt6, pt7]; rfl) ?_)
      | (refine WO.opE (by intro; simp (disch := omega) only [go_sem, Zz.look, Zz.over, Zz.cut, Nat.reduceAdd, Nat.reduceMul, Nat.reduceSub, Nat.reduceLeDiff, Nat.reduceEqDiff, Int.reduceNeg, Int.reduceAdd, Int.reduceToNat, reduceIte, reduceCtorEq, Nat.mul_one, ia_sref, lk0, lk1, st0, st1, hl.at, bb1, bb2, cellsEq, cellEq, eq_self, and_self, Int.reduceEq, Bool.and_true, Bool.true_and, Bool.and_self, cut2]; rfl) (by simp only [pt8, pt0, pt1, pt2, pt3, pt4, pt5, pt6, pt7]; rfl) ?_)
      | (refine WO.opN (by intro; simp (disch := omega) only [go_sem, Zz.look, Zz.over, Zz.cut, Nat.reduceAdd, Nat.reduceMul, Nat.reduceSub, Nat.reduceLeDiff, Nat.reduceEqDiff, Int.reduceNeg, Int.reduceAdd, Int.reduceToNat, reduceIte, reduceCtorEq, Nat.mul_one, ia_sref, lk0, lk1, st0, st1, hl.at, bb1, bb2, cellsEq, cellEq, eq_self, and_self, Int.reduceEq, Bool.and_true, Bool.true_and, Bool.and_self, cut2]; rfl) ?_)
      | (refine WO.opE (by intro; exact ev_lenS (by simp only [go_sem]; first | rfl | assumption)) (by simp only [pt8, pt0, pt1, pt2, pt3, pt4, pt5, pt6, pt7]; rfl) ?_)
      | (refine WO.specE rfl rfl (s11) (by simp only [pt8, pt0, pt1, pt2, pt3, pt4, pt5, pt6, pt7]; rfl) ?_)
      | (refine WO.specE rfl rfl (h1 _ _ (hl.byVal _)) (by simp only [pt8, pt0, pt1, pt2, pt3, pt4, pt5, pt6, pt7]; rfl) ?_)
      | (refine WO.opE (by intro; exact ev_lenS (by simp only [go_sem]; exact hlen)) (by simp only [pt8, pt0, pt1, pt2, pt3, pt4, pt5, pt6, pt7]; rfl) ?_)
      | (refine WC.seq ?_)
      | (refine WC.region ?_)
      | (refine WO.nil ?_)
      | (simp only [fl1, fl2, fl3, fl4, fl5, fl6, fl7, fl8, fl9, fl10, Nat.reduceBEq])
      | (refine WC.calm rfl ?_)
      | (refine WC.drawT ?_)
      | (refine WT.nil ?_)
      | (refine WT.yes rfl ?_)
      | (refine WT.no rfl (by simp only [pt8, pt0, pt1, pt2, pt3, pt4, pt5, pt6, pt7]; rfl) ?_)
      | (refine WT.free rfl (by intro; simp (disch := omega) only [go_sem, Zz.look, Zz.over, Zz.cut, Nat.reduceAdd, Nat.reduceMul, Nat.reduceSub, Nat.reduceLeDiff, Nat.reduceEqDiff, Int.reduceNeg, Int.reduceAdd, Int.reduceToNat, reduceIte, reduceCtorEq, Nat.mul_one, ia_sref, lk0, lk1, st0, st1, hl.at, bb1, bb2, cellsEq, cellEq, eq_self, and_self, Int.reduceEq, Bool.and_true, Bool.true_and, Bool.and_self, cut2]; rfl) rfl (by simp only [pt8, pt0, pt1, pt2, pt3, pt4, pt5, pt6, pt7]; rfl) ?_)
      | (refine WT.big rfl rfl (by intro; simp (disch := omega) only [go_sem, Zz.look, Zz.over, Zz.cut, Nat.reduceAdd, Nat.reduceMul, Nat.reduceSub, Nat.reduceLeDiff, Nat.reduceEqDiff, Int.reduceNeg, Int.reduceAdd, Int.reduceToNat, reduceIte, reduceCtorEq, Nat.mul_one, ia_sref, lk0, lk1, st0, st1, hl.at, bb1, bb2, cellsEq, cellEq, eq_self, and_self, Int.reduceEq, Bool.and_true, Bool.true_and, Bool.and_self, cut2]; rfl) (by simp (disch := omega) only [go_sem, Zz.look, Zz.over, Zz.cut, Nat.reduceAdd, Nat.reduceMul, Nat.reduceSub, Nat.reduceLeDiff, Nat.reduceEqDiff, Int.reduceNeg, Int.reduceAdd, Int.reduceToNat, reduceIte, reduceCtorEq, Nat.mul_one, ia_sref, lk0, lk1, st0, st1, hl.at, bb1, bb2, cellsEq, cellEq, eq_self, and_self, Int.reduceEq, Bool.and_true, Bool.true_and, Bool.and_self, cut2, touch]; rfl) (by first | exact .inl rfl | exact .inr (apart_nil _) | (right; apply apart_mk; simp only [apartL, List.nil_append, List.cons_append, List.getElem?_cons_succ, List.getElem?_cons_zero, Tch.free, and_true, true_and]; first | done | omega)) (by simp only [pt8, pt0, pt1, pt2, pt3, pt4, pt5, pt6, pt7]; rfl) ?_)
      | (refine WT.bigN rfl rfl (by intro; simp (disch := omega) only [go_sem, Zz.look, Zz.over, Zz.cut, Nat.reduceAdd, Nat.reduceMul, Nat.reduceSub, Nat.reduceLeDiff, Nat.reduceEqDiff, Int.reduceNeg, Int.reduceAdd, Int.reduceToNat, reduceIte, reduceCtorEq, Nat.mul_one, ia_sref, lk0, lk1, st0, st1, hl.at, bb1, bb2, cellsEq, cellEq, eq_self, and_self, Int.reduceEq, Bool.and_true, Bool.true_and, Bool.and_self, cut2]; rfl) (by simp (disch := omega) only [go_sem, Zz.look, Zz.over, Zz.cut, Nat.reduceAdd, Nat.reduceMul, Nat.reduceSub, Nat.reduceLeDiff, Nat.reduceEqDiff, Int.reduceNeg, Int.reduceAdd, Int.reduceToNat, reduceIte, reduceCtorEq, Nat.mul_one, ia_sref, lk0, lk1, st0, st1, hl.at, bb1, bb2, cellsEq, cellEq, eq_self, and_self, Int.reduceEq, Bool.and_true, Bool.true_and, Bool.and_self, cut2, touch]; rfl) (by first | exact .inl rfl | exact .inr (apart_nil _) | (right; apply apart_mk; simp only [apartL, List.nil_append, List.cons_append, List.getElem?_cons_succ, List.getElem?_cons_zero, Tch.free, and_true, true_and]; first | done | omega)) ?_)
      | (refine WC.yes rfl ?_)
      | (refine WC.no rfl ?_)
      | (refine WC.skip ?_)
      | (refine WC.exit ?_)
      | (refine WC.ret ?_)
      | (refine WC.block ?_)
      | (refine WT.em2 rfl (by intro hp; simp only [hp, decide_true]; rfl) (by intro hp; simp only [hp, decide_false]; rfl) (fun hp => ?_) (fun hp => ?_) <;> try (exfalso; first | omega | contradiction))
      | (refine WO.em2 rfl (by intro hp; simp only [hp, decide_true]; rfl) (by intro hp; simp only [hp, decide_false]; rfl) (fun hp => ?_) (fun hp => ?_) <;> try (exfalso; first | omega | contradiction))
      | (refine WC.em2 rfl (fun hp => ?_) (fun hp => ?_) <;> try (exfalso; first | omega | contradiction)))
    exact ⟨_, rfl, rfl⟩
  · by_cases hab : a = b
    · subst hab
      refine WF.fnE rfl (fn_of Try.func9 cir9) (by show 6 ≤ 111; decide) ?_
      unfold ir9
      simp only [padTo, List.replicate, List.nil_append, List.append_nil, List.cons_append]
      repeat' (first
        | (refine WO.yes rfl ?_)
        | (refine WO.noE rfl (by simp only [pt8, pt0, pt1, pt2, pt3, pt4, pt5, pt6, pt7]; rfl) ?_)
        | (refine WO.opE (by intro; simp (disch := omega) only [go_sem, Zz.look, Zz.over, Zz.cut, Nat.reduceAdd, Nat.reduceMul, Nat.reduceSub, Nat.reduceLeDiff, Nat.reduceEqDiff, Int.reduceNeg, Int.reduceAdd, Int.reduceToNat, reduceIte, reduceCtorEq, Nat.mul_one, ia_sref, lk0, lk1, st0, st1, hl.at, bb1, bb2, cellsEq, cellEq, eq_self, and_self, Int.reduceEq, Bool.and_true, Bool.true_and, Bool.and_self, cut2]; rfl) (by simp only [pt8, pt0, pt1, pt2, pt3, pt4, pt5, pt6, pt7]; rfl) ?_)
        | (refine WO.opN (by intro; simp (disch := omega) only [go_sem, Zz.look, Zz.over, Zz.cut, Nat.reduceAdd, Nat.reduceMul, Nat.reduceSub, Nat.reduceLeDiff, Nat.reduceEqDiff, Int.reduceNeg, Int.reduceAdd, Int.reduceToNat, reduceIte, reduceCtorEq, Nat.mul_one, ia_sref, lk0, lk1, st0, st1, hl.at, bb1, bb2, cellsEq, cellEq, eq_self, and_self, Int.reduceEq, Bool.and_true, Bool.true_and, Bool.and_self, cut2]; rfl) ?_)
        | (refine WO.opE (by intro; exact ev_lenS (by simp only [go_sem]; first | rfl | assumption)) (by simp only [pt8, pt0, pt1, pt2, pt3, pt4, pt5, pt6, pt7]; rfl) ?_)
        | (refine WO.specE rfl rfl (s11) (by simp only [pt8, pt0, pt1, pt2, pt3, pt4, pt5, pt6, pt7]; rfl) ?_)
        | (refine WO.specE rfl rfl (h1 _ _ (hl.byVal _)) (by simp only [pt8, pt0, pt1, pt2, pt3, pt4, pt5, pt6, pt7]; rfl) ?_)
        | (refine WO.opE (by intro; exact ev_lenS (by simp only [go_sem]; exact hlen)) (by simp only [pt8, pt0, pt1, pt2, pt3, pt4, pt5, pt6, pt7]; rfl) ?_)
        | (refine WC.seq ?_)
        | (refine WC.region ?_)
        | (refine WO.nil ?_)
        | (simp only [fl1, fl2, fl3, fl4, fl5, fl6, fl7, fl8, fl9, fl10, Nat.reduceBEq])
        | (refine WC.calm rfl ?_)
        | (refine WC.drawT ?_)
        | (refine WT.nil ?_)
        | (refine WT.yes rfl ?_)
        | (refine WT.no rfl (by simp only [pt8, pt0, pt1, pt2, pt3, pt4, pt5, pt6, pt7]; rfl) ?_)
        | (refine WT.free rfl (by intro; simp (disch := omega) only [go_sem, Zz.look, Zz.over, Zz.cut, Nat.reduceAdd, Nat.reduceMul, Nat.reduceSub, Nat.reduceLeDiff, Nat.reduceEqDiff, Int.reduceNeg, Int.reduceAdd, Int.reduceToNat, reduceIte, reduceCtorEq, Nat.mul_one, ia_sref, lk0, lk1, st0, st1, hl.at, bb1, bb2, cellsEq, cellEq, eq_self, and_self, Int.reduceEq, Bool.and_true, Bool.true_and, Bool.and_self, cut2]; rfl) rfl (by simp only [pt8, pt0, pt1, pt2, pt3, pt4, pt5, pt6, pt7]; rfl) ?_)
        | (refine WT.big rfl rfl (by intro; simp (disch := omega) only [go_sem, Zz.look, Zz.over, Zz.cut, Nat.reduceAdd, Nat.reduceMul, Nat.reduceSub, Nat.reduceLeDiff, Nat.reduceEqDiff, Int.reduceNeg, Int.reduceAdd, Int.reduceToNat, reduceIte, reduceCtorEq, Nat.mul_one, ia_sref, lk0, lk1, st0, st1, hl.at, bb1, bb2, cellsEq, cellEq, eq_self, and_self, Int.reduceEq, Bool.and_true, Bool.true_and, Bool.and_self, cut2]; rfl) (by simp (disch := omega) only [go_sem, Zz.look, Zz.over, Zz.cut, Nat.reduceAdd, Nat.reduceMul, Nat.reduceSub, Nat.reduceLeDiff, Nat.reduceEqDiff, Int.reduceNeg, Int.reduceAdd, Int.reduceToNat, reduceIte, reduceCtorEq, Nat.mul_one, ia_sref, lk0, lk1, st0, st1, hl.at, bb1, bb2, cellsEq, cellEq, eq_self, and_self, Int.reduceEq, Bool.and_true, Bool.true_and, Bool.and_self, cut2, touch]; rfl) (by first | exact .inl rfl | exact .inr (apart_nil _) | (right; apply apart_mk; simp only [apartL, List.nil_append, List.cons_append, List.getElem?_cons_succ, List.getElem?_cons_zero, Tch.free, and_true, true_and]; first | done | omega)) (by simp only [pt8, pt0, pt1, pt2, pt3, pt4, pt5, pt6, pt7]; rfl) ?_)
        | (refine WT.bigN rfl rfl (by intro; simp (disch := omega) only [go_sem, Zz.look, Zz.over, Zz.cut, Nat.reduceAdd, Nat.reduceMul, Nat.reduceSub, Nat.reduceLeDiff, Nat.reduceEqDiff, Int.reduceNeg, Int.reduceAdd, Int.reduceToNat, reduceIte, reduceCtorEq, Nat.mul_one, ia_sref, lk0, lk1, st0, st1, hl.at, bb1, bb2, cellsEq, cellEq, eq_self, and_self, Int.reduceEq, Bool.and_true, Bool.true_and, Bool.and_self, cut2]; rfl) (by simp (disch := omega) only [go_sem, Zz.look, Zz.over, Zz.cut, Nat.reduceAdd, Nat.reduceMul, Nat.reduceSub, Nat.reduceLeDiff, Nat.reduceEqDiff, Int.reduceNeg, Int.reduceAdd, Int.reduceToNat, reduceIte, reduceCtorEq, Nat.mul_one, ia_sref, lk0, lk1, st0, st1, hl.at, bb1, bb2, cellsEq, cellEq, eq_self, and_self, Int.reduceEq, Bool.and_true, Bool.true_and, Bool.and_self, cut2, touch]; rfl) (by first | exact .inl rfl | exact .inr (apart_nil _) | (right; apply apart_mk; simp only [apartL, List.nil_append, List.cons_append, List.getElem?_cons_succ, List.getElem?_cons_zero, Tch.free, and_true, true_and]; first | done | omega)) ?_)
        | (refine WC.yes rfl ?_)
        | (refine WC.no rfl ?_)
        | (refine WC.skip ?_)
        | (refine WC.exit ?_)
        | (refine WC.ret ?_)
        | (refine WC.block ?_)
        | (refine WT.em2 rfl (by intro hp; simp only [hp, decide_true]; rfl) (by intro hp; simp only [hp, decide_false]; rfl) (fun hp => ?_) (fun hp => ?_) <;> try (exfalso; first | omega | contradiction))
        | (refine WO.em2 rfl (by intro hp; simp only [hp, decide_true]; rfl) (by intro hp; simp only [hp, decide_false]; rfl) (fun hp => ?_) (fun hp => ?_) <;> try (exfalso; first | omega | contradiction))
        | (refine WC.em2 rfl (fun hp => ?_) (fun hp => ?_) <;> try (exfalso; first | omega | contradiction)))
      exact ⟨_, rfl, rfl⟩
    · have hab' : ¬ (a : Int) = b := by omega
      by_cases h199 : rs.length ≤ 199
      · obtain ⟨o2, o3, o4⟩ := o1
        obtain ⟨v1, w1, i1⟩ := with_some hl (by omega) ⟨a, b, 0 - Y.far a, X.far b⟩
        have hok : okR n ⟨a, b, 0 - Y.far a, X.far b⟩ := ⟨by simp only; omega, ha, by simp only; omega, hb, by simp only; omega, o2, o3, o4⟩
        have hv' := vl_app.2 ⟨hv, h199, hok⟩
        have hm' : (rs ++ [(⟨a, b, 0 - Y.far a, X.far b⟩ : Rg)]).length < 9223372036854775808 := by simp; omega
        have hal := alike_follows hX hY k1
        have hsol := hsol_of hv hl
        obtain ⟨z, out, h14⟩ := s14 (n := n) hl hmax
        obtain ⟨z', out', j1⟩ := s14 (n := n) w1 hm'
        obtain ⟨ys, hs, rfl⟩ := solve_ok hv hp out
        obtain ⟨ys', hs', rfl⟩ := solve_ok hv' (hal.pot p hp) out'
        obtain rfl := (hal.sized hv (hsol p hp) hs).unique hs'
        obtain ⟨t, bo, h3⟩ := s19 (n := n) (a := c) (b := d) hl hmax
        obtain ⟨t', bo', h4⟩ := s19 (n := n) (a := c) (b := d) w1 hm'
        obtain rfl := bound_same hv hv' hal (fun p hp => (sub_app rs _).pot hp) hsol bo bo'
        obtain ⟨q1, q2, q3, rfl⟩ := bound_shape bo
        have hym : ys.length < 9223372036854775808 := by rw [hs.1]; have := hv.2.1; omega
        have hys : IntS (.sval true ys.length (ys.map (.int .i64))) ys := IntS.mk ys true
        generalize (AV.sval true ys.length (ys.map (.int .i64))) = ysv at *
        simp only [Rg.cells] at i1
        refine WF.fnE rfl (fn_of Try.func9 cir9) (by show 6 ≤ 111; decide) ?_
        unfold ir9
        simp only [padTo, List.replicate, List.nil_append, List.append_nil, List.cons_append]
        repeat' (first
          | (refine WO.yes rfl ?_)
          | (refine WO.noE rfl (by simp only [pt8, pt0, pt1, pt2, pt3, pt4, pt5, pt6, pt7]; rfl) ?_)
          | (refine WO.opE (by intro; simp (disch := omega) only [go_sem, Zz.look, Zz.over, Zz.cut, Nat.reduceAdd, Nat.reduceMul, Nat.reduceSub, Nat.reduceLeDiff, Nat.reduceEqDiff, Int.reduceNeg, Int.reduceAdd, Int.reduceToNat, reduceIte, reduceCtorEq, Nat.mul_one, ia_sref, lk0, lk1, st0, st1, hl.at, bb1, bb2, cellsEq, cellEq, eq_self, and_self, Int.reduceEq, Bool.and_true, Bool.true_and, Bool.and_self, cut2]; rfl) (by simp only [pt8, pt0, pt1, pt2, pt3, pt4, pt5, pt6, pt7]; rfl) ?_)
          | (refine WO.opN (by intro; simp (disch := omega) only [go_sem, Zz.look, Zz.over, Zz.cut, Nat.reduceAdd, Nat.reduceMul, Nat.reduceSub, Nat.reduceLeDiff, Nat.reduceEqDiff, Int.reduceNeg, Int.reduceAdd, Int.reduceToNat, reduceIte, reduceCtorEq, Nat.mul_one, ia_sref, lk0, lk1, st0, st1, hl.at, bb1, bb2, cellsEq, cellEq, eq_self, and_self, Int.reduceEq, Bool.and_true, Bool.true_and, Bool.and_self, cut2]; rfl) ?_)
          | (refine WO.opE (by intro; exact ev_lenS (by simp only [go_sem]; first | rfl | assumption)) (by simp only [pt8, pt0, pt1, pt2, pt3, pt4, pt5, pt6, pt7]; rfl) ?_)
          | (refine WO.specE rfl rfl (s11) (by simp only [pt8, pt0, pt1, pt2, pt3, pt4, pt5, pt6, pt7]; rfl) ?_)
          | (refine WO.specE rfl rfl (h1 _ _ (hl.byVal _)) (by simp only [pt8, pt0, pt1, pt2, pt3, pt4, pt5, pt6, pt7]; rfl) ?_)
          | (refine WO.opE (by intro; exact ev_lenS (by simp only [go_sem]; exact hlen)) (by simp only [pt8, pt0, pt1, pt2, pt3, pt4, pt5, pt6, pt7]; rfl) ?_)
          | (refine WO.specE rfl rfl (i1 _) (by simp only [pt8, pt0, pt1, pt2, pt3, pt4, pt5, pt6, pt7]; rfl) ?_)
          | (refine WO.specE rfl rfl (h14 _ _ (hl.byVal _)) (by simp only [pt8, pt0, pt1, pt2, pt3, pt4, pt5, pt6, pt7]; rfl) ?_)
          | (refine WO.specE rfl rfl (j1 _ _ (w1.byVal _)) (by simp only [pt8, pt0, pt1, pt2, pt3, pt4, pt5, pt6, pt7]; rfl) ?_)
          | (refine WO.specE rfl rfl (s16 hys hys hym hym (hys.byVal _) (hys.byVal _)) (by simp only [pt8, pt0, pt1, pt2, pt3, pt4, pt5, pt6, pt7]; rfl) ?_)
          | (refine WO.specE rfl rfl (h3 _ _ (hl.byVal _)) (by simp only [pt8, pt0, pt1, pt2, pt3, pt4, pt5, pt6, pt7]; rfl) ?_)
          | (refine WO.specE rfl rfl (h4 _ _ (w1.byVal _)) (by simp only [pt8, pt0, pt1, pt2, pt3, pt4, pt5, pt6, pt7]; rfl) ?_)
          | (refine WC.seq ?_)
          | (refine WC.region ?_)
          | (refine WO.nil ?_)
          | (simp only [fl1, fl2, fl3, fl4, fl5, fl6, fl7, fl8, fl9, fl10, Nat.reduceBEq])
          | (refine WC.calm rfl ?_)
          | (refine WC.drawT ?_)
          | (refine WT.nil ?_)
          | (refine WT.yes rfl ?_)
          | (refine WT.no rfl (by simp only [pt8, pt0, pt1, pt2, pt3, pt4, pt5, pt6, pt7]; rfl) ?_)
          | (refine WT.free rfl (by intro; simp (disch := omega) only [go_sem, Zz.look, Zz.over, Zz.cut, Nat.reduceAdd, Nat.reduceMul, Nat.reduceSub, Nat.reduceLeDiff, Nat.reduceEqDiff, Int.reduceNeg, Int.reduceAdd, Int.reduceToNat, reduceIte, reduceCtorEq, Nat.mul_one, ia_sref, lk0, lk1, st0, st1, hl.at, bb1, bb2, cellsEq, cellEq, eq_self, and_self, Int.reduceEq, Bool.and_true, Bool.true_and, Bool.and_self, cut2]; rfl) rfl (by simp only [pt8, pt0, pt1, pt2, pt3, pt4, pt5, pt6, pt7]; rfl) ?_)
          | (refine WT.big rfl rfl (by intro; simp (disch := omega) only [go_sem, Zz.look, Zz.over, Zz.cut, Nat.reduceAdd, Nat.reduceMul, Nat.reduceSub, Nat.reduceLeDiff, Nat.reduceEqDiff, Int.reduceNeg, Int.reduceAdd, Int.reduceToNat, reduceIte, reduceCtorEq, Nat.mul_one, ia_sref, lk0, lk1, st0, st1, hl.at, bb1, bb2, cellsEq, cellEq, eq_self, and_self, Int.reduceEq, Bool.and_true, Bool.true_and, Bool.and_self, cut2]; rfl) (by simp (disch := omega) only [go_sem, Zz.look, Zz.over, Zz.cut, Nat.reduceAdd, Nat.reduceMul, Nat.reduceSub, Nat.reduceLeDiff, Nat.reduceEqDiff, Int.reduceNeg, Int.reduceAdd, Int.reduceToNat, reduceIte, reduceCtorEq, Nat.mul_one, ia_sref, lk0, lk1, st0, st1, hl.at, bb1, bb2, cellsEq, cellEq, eq_self, and_self, Int.reduceEq, Bool.and_true, Bool.true_and, Bool.and_self, cut2, touch]; rfl) (by first | exact .inl rfl | exact .inr (apart_nil _) | (right; apply apart_mk; simp only [apartL, List.nil_append, List.cons_append, List.getElem?_cons_succ, List.getElem?_cons_zero, Tch.free, and_true, true_and]; first | done | omega)) (by simp only [pt8, pt0, pt1, pt2, pt3, pt4, pt5, pt6, pt7]; rfl) ?_)
          | (refine WT.bigN rfl rfl (by intro; simp (disch := omega) only [go_sem, Zz.look, Zz.over, Zz.cut, Nat.reduceAdd, Nat.reduceMul, Nat.reduceSub, Nat.reduceLeDiff, Nat.reduceEqDiff, Int.reduceNeg, Int.reduceAdd, Int.reduceToNat, reduceIte, reduceCtorEq, Nat.mul_one, ia_sref, lk0, lk1, st0, st1, hl.at, bb1, bb2, cellsEq, cellEq, eq_self, and_self, Int.reduceEq, Bool.and_true, Bool.true_and, Bool.and_self, cut2]; rfl) (by simp (disch := omega) only [go_sem, Zz.look, Zz.over, Zz.cut, Nat.reduceAdd, Nat.reduceMul, Nat.reduceSub, Nat.reduceLeDiff, Nat.reduceEqDiff, Int.reduceNeg, Int.reduceAdd, Int.reduceToNat, reduceIte, reduceCtorEq, Nat.mul_one, ia_sref, lk0, lk1, st0, st1, hl.at, bb1, bb2, cellsEq, cellEq, eq_self, and_self, Int.reduceEq, Bool.and_true, Bool.true_and, Bool.and_self, cut2, touch]; rfl) (by first | exact .inl rfl | exact .inr (apart_nil _) | (right; apply apart_mk; simp only [apartL, List.nil_append, List.cons_append, List.getElem?_cons_succ, List.getElem?_cons_zero, Tch.free, and_true, true_and]; first | done | omega)) ?_)
          | (refine WC.yes rfl ?_)
          | (refine WC.no rfl ?_)
          | (refine WC.skip ?_)
          | (refine WC.exit ?_)
          | (refine WC.ret ?_)
          | (refine WC.block ?_)
          | (refine WT.em2 rfl (by intro hp; simp only [hp, decide_true]; rfl) (by intro hp; simp only [hp, decide_false]; rfl) (fun hp => ?_) (fun hp => ?_) <;> try (exfalso; first | omega | contradiction))
          | (refine WO.em2 rfl (by intro hp; simp only [hp, decide_true]; rfl) (by intro hp; simp only [hp, decide_false]; rfl) (fun hp => ?_) (fun hp => ?_) <;> try (exfalso; first | omega | contradiction))
          | (refine WC.em2 rfl (fun hp => ?_) (fun hp => ?_) <;> try (exfalso; first | omega | contradiction)))
        all_goals exact ⟨_, rfl, rfl⟩
      · have e0 := h199
        refine WF.fnE rfl (fn_of Try.func9 cir9) (by show 6 ≤ 111; decide) ?_
        unfold ir9
        simp only [padTo, List.replicate, List.nil_append, List.append_nil, List.cons_append]
        repeat' (first
          | (refine WO.yes rfl ?_)
          | (refine WO.noE rfl (by simp only [pt8, pt0, pt1, pt2, pt3, pt4, pt5, pt6, pt7]; rfl) ?_)
          | (refine WO.opE (by intro; simp (disch := omega) only [go_sem, Zz.look, Zz.over, Zz.cut, Nat.reduceAdd, Nat.reduceMul, Nat.reduceSub, Nat.reduceLeDiff, Nat.reduceEqDiff, Int.reduceNeg, Int.reduceAdd, Int.reduceToNat, reduceIte, reduceCtorEq, Nat.mul_one, ia_sref, lk0, lk1, st0, st1, hl.at, bb1, bb2, cellsEq, cellEq, eq_self, and_self, Int.reduceEq, Bool.and_true, Bool.true_and, Bool.and_self, cut2]; rfl) (by simp only [pt8, pt0, pt1, pt2, pt3, pt4, pt5, pt6, pt7]; rfl) ?_)
          | (refine WO.opN (by intro; simp (disch := omega) only [go_sem, Zz.look, Zz.over, Zz.cut, Nat.reduceAdd, Nat.reduceMul, Nat.reduceSub, Nat.reduceLeDiff, Nat.reduceEqDiff, Int.reduceNeg, Int.reduceAdd, Int.reduceToNat, reduceIte, reduceCtorEq, Nat.mul_one, ia_sref, lk0, lk1, st0, st1, hl.at, bb1, bb2, cellsEq, cellEq, eq_self, and_self, Int.reduceEq, Bool.and_true, Bool.true_and, Bool.and_self, cut2]; rfl) ?_)
          | (refine WO.opE (by intro; exact ev_lenS (by simp only [go_sem]; first | rfl | assumption)) (by simp only [pt8, pt0, pt1, pt2, pt3, pt4, pt5, pt6, pt7]; rfl) ?_)
          | (refine WO.specE rfl rfl (s11) (by simp only [pt8, pt0, pt1, pt2, pt3, pt4, pt5, pt6, pt7]; rfl) ?_)
          | (refine WO.specE rfl rfl (h1 _ _ (hl.byVal _)) (by simp only [pt8, pt0, pt1, pt2, pt3, pt4, pt5, pt6, pt7]; rfl) ?_)
          | (refine WO.opE (by intro; exact ev_lenS (by simp only [go_sem]; exact hlen)) (by simp only [pt8, pt0, pt1, pt2, pt3, pt4, pt5, pt6, pt7]; rfl) ?_)
          | (refine WC.seq ?_)
          | (refine WC.region ?_)
          | (refine WO.nil ?_)
          | (simp only [fl1, fl2, fl3, fl4, fl5, fl6, fl7, fl8, fl9, fl10, Nat.reduceBEq])
          | (refine WC.calm rfl ?_)
          | (refine WC.drawT ?_)
          | (refine WT.nil ?_)
          | (refine WT.yes rfl ?_)
          | (refine WT.no rfl (by simp only [pt8, pt0, pt1, pt2, pt3, pt4, pt5, pt6, pt7]; rfl) ?_)
          | (refine WT.free rfl (by intro; simp (disch := omega) only [go_sem, Zz.look, Zz.over, Zz.cut, Nat.reduceAdd, Nat.reduceMul, Nat.reduceSub, Nat.reduceLeDiff, Nat.reduceEqDiff, Int.reduceNeg, Int.reduceAdd, Int.reduceToNat, reduceIte, reduceCtorEq, Nat.mul_one, ia_sref, lk0, lk1, st0, st1, hl.at, bb1, bb2, cellsEq, cellEq, eq_self, and_self, Int.reduceEq, Bool.and_true, Bool.true_and, Bool.and_self, cut2]; rfl) rfl (by simp only [pt8, pt0, pt1, pt2, pt3, pt4, pt5, pt6, pt7]; rfl) ?_)
          | (refine WT.big rfl rfl (by intro; simp (disch := omega) only [go_sem, Zz.look, Zz.over, Zz.cut, Nat.reduceAdd, Nat.reduceMul, Nat.reduceSub, Nat.reduceLeDiff, Nat.reduceEqDiff, Int.reduceNeg, Int.reduceAdd, Int.reduceToNat, reduceIte, reduceCtorEq, Nat.mul_one, ia_sref, lk0, lk1, st0, st1, hl.at, bb1, bb2, cellsEq, cellEq, eq_self, and_self, Int.reduceEq, Bool.and_true, Bool.true_and, Bool.and_self, cut2]; rfl) (by simp (disch := omega) only [go_sem, Zz.look, Zz.over, Zz.cut, Nat.reduceAdd, Nat.reduceMul, Nat.reduceSub, Nat.reduceLeDiff, Nat.reduceEqDiff, Int.reduceNeg, Int.reduceAdd, Int.reduceToNat, reduceIte, reduceCtorEq, Nat.mul_one, ia_sref, lk0, lk1, st0, st1, hl.at, bb1, bb2, cellsEq, cellEq, eq_self, and_self, Int.reduceEq, Bool.and_true, Bool.true_and, Bool.and_self, cut2, touch]; rfl) (by first | exact .inl rfl | exact .inr (apart_nil _) | (right; apply apart_mk; simp only [apartL, List.nil_append, List.cons_append, List.getElem?_cons_succ, List.getElem?_cons_zero, Tch.free, and_true, true_and]; first | done | omega)) (by simp only [pt8, pt0, pt1, pt2, pt3, pt4, pt5, pt6, pt7]; rfl) ?_)
          | (refine WT.bigN rfl rfl (by intro; simp (disch := omega) only [go_sem, Zz.look, Zz.over, Zz.cut, Nat.reduceAdd, Nat.reduceMul, Nat.reduceSub, Nat.reduceLeDiff, Nat.reduceEqDiff, Int.reduceNeg, Int.reduceAdd, Int.reduceToNat, reduceIte, reduceCtorEq, Nat.mul_one, ia_sref, lk0, lk1, st0, st1, hl.at, bb1, bb2, cellsEq, cellEq, eq_self, and_self, Int.reduceEq, Bool.and_true, Bool.true_and, Bool.and_self, cut2]; rfl) (by simp (disch := omega) only [go_sem, Zz.look, Zz.over, Zz.cut, Nat.reduceAdd, Nat.reduceMul, Nat.reduceSub, Nat.reduceLeDiff, Nat.reduceEqDiff, Int.reduceNeg, Int.reduceAdd, Int.reduceToNat, reduceIte, reduceCtorEq, Nat.mul_one, ia_sref, lk0, lk1, st0, st1, hl.at, bb1, bb2, cellsEq, cellEq, eq_self, and_self, Int.reduceEq, Bool.and_true, Bool.true_and, Bool.and_self, cut2, touch]; rfl) (by first | exact .inl rfl | exact .inr (apart_nil _) | (right; apply apart_mk; simp only [apartL, List.nil_append, List.cons_append, List.getElem?_cons_succ, List.getElem?_cons_zero, Tch.free, and_true, true_and]; first | done | omega)) ?_)
          | (refine WC.yes rfl ?_)
          | (refine WC.no rfl ?_)
          | (refine WC.skip ?_)
          | (refine WC.exit ?_)
          | (refine WC.ret ?_)
          | (refine WC.block ?_)
          | (refine WT.em2 rfl (by intro hp; simp only [hp, decide_true]; rfl) (by intro hp; simp only [hp, decide_false]; rfl) (fun hp => ?_) (fun hp => ?_) <;> try (exfalso; first | omega | contradiction))
          | (refine WO.em2 rfl (by intro hp; simp only [hp, decide_true]; rfl) (by intro hp; simp only [hp, decide_false]; rfl) (fun hp => ?_) (fun hp => ?_) <;> try (exfalso; first | omega | contradiction))
          | (refine WC.em2 rfl (fun hp => ?_) (fun hp => ?_) <;> try (exfalso; first | omega | contradiction)))
        exact ⟨_, rfl, rfl⟩
end Go.Proofs.Ytndaljjljmmlcaa

