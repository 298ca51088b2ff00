import Derived.Test.YtndaljjljmmlcaaL16y
set_option linter.unusedSimpArgs false
set_option linter.unusedVariables false
namespace Go.Proofs.Ytndaljjljmmlcaa
open Go.Zz
set_option maxRecDepth 100000
set_option maxHeartbeats 4000000
theorem run5 {n : Int} {rs : List Rg} {l c x : AV} {cs xs : List Int} (hl : RdL l rs) (hmax : rs.length < 9223372036854775808) (hc : IntS c cs) (hcm : cs.length < 9223372036854775808) (hx : IntS x xs) (hxm : xs.length < 9223372036854775808) : WF E21 (.func 5 [] []) [.int .i64 n, l, c, x] ⟨[], []⟩ fun y m' => y = .bool true := by
  have hlen := hl.len
  by_cases hv : VL n rs
  · obtain ⟨v, hout, h14⟩ := s14 (n := n) hl hmax
    obtain ⟨b, hb, h21⟩ := s21 hv hl hx hxm
    obtain ⟨b1, hb1, h18⟩ := (s18 (n := n) hl hmax hc hcm).2 hv
    obtain ⟨b2, hb2, h23⟩ := s23 hv hl hc hcm
    obtain rfl : b2 = b1 := by
      cases b1 with
      | true => exact hb2.2 (hb1.1 rfl)
      | false =>
        cases b2 with
        | false => rfl
        | true => exact absurd (hb1.2 (hb2.1 rfl)) (by decide)
    rcases hout with ⟨h, _⟩ | ⟨_, ch, hch, rfl⟩ | ⟨_, ⟨p, hp⟩, ys, hs, rfl⟩
    · exact absurd hv h
    · obtain rfl : b = false := by
        cases b with
        | false => rfl
        | true => exact (hch.no hv ((hb.1 rfl).pot hv)).elim
      have hchS : IntS (.sval false ch.length (ch.map (.int .i64))) ch := IntS.mk ch false
      have hchm : ch.length < 9223372036854775808 := by have := hch.len; omega
      obtain ⟨b3, hb3, h18c⟩ := (s18 (n := n) hl hmax hchS hchm).2 hv
      obtain rfl : b3 = true := hb3.2 hch
      obtain ⟨b4, hb4, h23c⟩ := s23 hv hl hchS hchm
      obtain rfl : b4 = true := hb4.2 hch
      cases b2 with
      | false =>
        refine WF.fnE rfl (fn_of Try.func5 cir5) (by show 4 ≤ 89; decide) ?_
        unfold ir5
        simp only [padTo, List.replicate, List.nil_append, List.append_nil, List.cons_append]
        repeat' (first
          | (refine WO.yes rfl ?_)
          | (refine WO.noE rfl (by simp only [pt8, pt0, pt1, pt2, pt3, pt4, pt5, pt6, pt7]; rfl) ?_)
          | (refine WO.opE (by intro; simp (disch := omega) only [go_sem, Zz.look, Zz.over, Zz.cut, Nat.reduceAdd, Nat.reduceMul, Nat.reduceSub, Nat.reduceLeDiff, Nat.reduceEqDiff, Int.reduceNeg, Int.reduceAdd, Int.reduceToNat, reduceIte, reduceCtorEq, Nat.mul_one, ia_sref, lk0, lk1, st0, st1, hl.at, bb1, bb2]; rfl) (by simp only [pt8, pt0, pt1, pt2, pt3, pt4, pt5, pt6, pt7]; rfl) ?_)
          | (refine WO.opN (by intro; simp (disch := omega) only [go_sem, Zz.look, Zz.over, Zz.cut, Nat.reduceAdd, Nat.reduceMul, Nat.reduceSub, Nat.reduceLeDiff, Nat.reduceEqDiff, Int.reduceNeg, Int.reduceAdd, Int.reduceToNat, reduceIte, reduceCtorEq, Nat.mul_one, ia_sref, lk0, lk1, st0, st1, hl.at, bb1, bb2]; rfl) ?_)
          | (refine WO.opE (by intro; exact ev_lenS (by simp only [go_sem]; first | rfl | assumption)) (by simp only [pt8, pt0, pt1, pt2, pt3, pt4, pt5, pt6, pt7]; rfl) ?_)
          | (refine WO.specE rfl rfl (s11) (by simp only [pt8, pt0, pt1, pt2, pt3, pt4, pt5, pt6, pt7]; rfl) ?_)
          | (refine WO.specE rfl rfl (s12 hl hmax) (by simp only [pt8, pt0, pt1, pt2, pt3, pt4, pt5, pt6, pt7]; rfl) ?_)
          | (refine WO.specE rfl rfl (h14 _ _ (hl.byVal _)) (by simp only [pt8, pt0, pt1, pt2, pt3, pt4, pt5, pt6, pt7]; rfl) ?_)
          | (refine WO.specE rfl rfl (h18 _ _ _ (hl.byVal _) (hc.byVal _)) (by simp only [pt8, pt0, pt1, pt2, pt3, pt4, pt5, pt6, pt7]; rfl) ?_)
          | (refine WO.specE rfl rfl (h23 _) (by simp only [pt8, pt0, pt1, pt2, pt3, pt4, pt5, pt6, pt7]; rfl) ?_)
          | (refine WO.specE rfl rfl (h18c _ _ _ (hl.byVal _) (hchS.byVal _)) (by simp only [pt8, pt0, pt1, pt2, pt3, pt4, pt5, pt6, pt7]; rfl) ?_)
          | (refine WO.specE rfl rfl (h23c _) (by simp only [pt8, pt0, pt1, pt2, pt3, pt4, pt5, pt6, pt7]; rfl) ?_)
          | (refine WO.specE rfl rfl (h21 _) (by simp only [pt8, pt0, pt1, pt2, pt3, pt4, pt5, pt6, pt7]; rfl) ?_)
          | (refine WC.seq ?_)
          | (refine WC.region ?_)
          | (refine WO.nil ?_)
          | (simp only [fl1, fl2, fl3, fl4, fl5, fl6, fl7, fl8, fl9, fl10, Nat.reduceBEq])
          | (refine WC.calm rfl ?_)
          | (refine WC.drawT ?_)
          | (refine WT.nil ?_)
          | (refine WT.yes rfl ?_)
          | (refine WT.no rfl (by simp only [pt8, pt0, pt1, pt2, pt3, pt4, pt5, pt6, pt7]; rfl) ?_)
          | (refine WT.free rfl (by intro; simp (disch := omega) only [go_sem, Zz.look, Zz.over, Zz.cut, Nat.reduceAdd, Nat.reduceMul, Nat.reduceSub, Nat.reduceLeDiff, Nat.reduceEqDiff, Int.reduceNeg, Int.reduceAdd, Int.reduceToNat, reduceIte, reduceCtorEq, Nat.mul_one, ia_sref, lk0, lk1, st0, st1, hl.at, bb1, bb2]; rfl) rfl (by simp only [pt8, pt0, pt1, pt2, pt3, pt4, pt5, pt6, pt7]; rfl) ?_)
          | (refine WT.big rfl rfl (by intro; simp (disch := omega) only [go_sem, Zz.look, Zz.over, Zz.cut, Nat.reduceAdd, Nat.reduceMul, Nat.reduceSub, Nat.reduceLeDiff, Nat.reduceEqDiff, Int.reduceNeg, Int.reduceAdd, Int.reduceToNat, reduceIte, reduceCtorEq, Nat.mul_one, ia_sref, lk0, lk1, st0, st1, hl.at, bb1, bb2]; rfl) (by simp (disch := omega) only [go_sem, Zz.look, Zz.over, Zz.cut, Nat.reduceAdd, Nat.reduceMul, Nat.reduceSub, Nat.reduceLeDiff, Nat.reduceEqDiff, Int.reduceNeg, Int.reduceAdd, Int.reduceToNat, reduceIte, reduceCtorEq, Nat.mul_one, ia_sref, lk0, lk1, st0, st1, hl.at, bb1, bb2, touch]; rfl) (by first | exact .inl rfl | exact .inr (apart_nil _) | (right; apply apart_mk; simp only [apartL, List.nil_append, List.cons_append, List.getElem?_cons_succ, List.getElem?_cons_zero, Tch.free, and_true, true_and]; first | done | omega)) (by simp only [pt8, pt0, pt1, pt2, pt3, pt4, pt5, pt6, pt7]; rfl) ?_)
          | (refine WT.bigN rfl rfl (by intro; simp (disch := omega) only [go_sem, Zz.look, Zz.over, Zz.cut, Nat.reduceAdd, Nat.reduceMul, Nat.reduceSub, Nat.reduceLeDiff, Nat.reduceEqDiff, Int.reduceNeg, Int.reduceAdd, Int.reduceToNat, reduceIte, reduceCtorEq, Nat.mul_one, ia_sref, lk0, lk1, st0, st1, hl.at, bb1, bb2]; rfl) (by simp (disch := omega) only [go_sem, Zz.look, Zz.over, Zz.cut, Nat.reduceAdd, Nat.reduceMul, Nat.reduceSub, Nat.reduceLeDiff, Nat.reduceEqDiff, Int.reduceNeg, Int.reduceAdd, Int.reduceToNat, reduceIte, reduceCtorEq, Nat.mul_one, ia_sref, lk0, lk1, st0, st1, hl.at, bb1, bb2, touch]; rfl) (by first | exact .inl rfl | exact .inr (apart_nil _) | (right; apply apart_mk; simp only [apartL, List.nil_append, List.cons_append, List.getElem?_cons_succ, List.getElem?_cons_zero, Tch.free, and_true, true_and]; first | done | omega)) ?_)
          | (refine WC.yes rfl ?_)
          | (refine WC.no rfl ?_)
          | (refine WC.skip ?_)
          | (refine WC.exit ?_)
          | (refine WC.ret ?_)
          | (refine WC.block ?_)
          | (refine WT.em2 rfl (by intro hp; simp only [hp, decide_true]; rfl) (by intro hp; simp only [hp, decide_false]; rfl) (fun hp => ?_) (fun hp => ?_) <;> try (exfalso; first | omega | contradiction))
          | (refine WO.em2 rfl (by intro hp; simp only [hp, decide_true]; rfl) (by intro hp; simp only [hp, decide_false]; rfl) (fun hp => ?_) (fun hp => ?_) <;> try (exfalso; first | omega | contradiction))
          | (refine WC.em2 rfl (fun hp => ?_) (fun hp => ?_) <;> try (exfalso; first | omega | contradiction)))
        exact ⟨_, rfl, rfl⟩
      | true =>
        refine WF.fnE rfl (fn_of Try.func5 cir5) (by show 4 ≤ 89; decide) ?_
        unfold ir5
        simp only [padTo, List.replicate, List.nil_append, List.append_nil, List.cons_append]
        repeat' (first
          | (refine WO.yes rfl ?_)
          | (refine WO.noE rfl (by simp only [pt8, pt0, pt1, pt2, pt3, pt4, pt5, pt6, pt7]; rfl) ?_)
          | (refine WO.opE (by intro; simp (disch := omega) only [go_sem, Zz.look, Zz.over, Zz.cut, Nat.reduceAdd, Nat.reduceMul, Nat.reduceSub, Nat.reduceLeDiff, Nat.reduceEqDiff, Int.reduceNeg, Int.reduceAdd, Int.reduceToNat, reduceIte, reduceCtorEq, Nat.mul_one, ia_sref, lk0, lk1, st0, st1, hl.at, bb1, bb2]; rfl) (by simp only [pt8, pt0, pt1, pt2, pt3, pt4, pt5, pt6, pt7]; rfl) ?_)
          | (refine WO.opN (by intro; simp (disch := omega) only [go_sem, Zz.look, Zz.over, Zz.cut, Nat.reduceAdd, Nat.reduceMul, Nat.reduceSub, Nat.reduceLeDiff, Nat.reduceEqDiff, Int.reduceNeg, Int.reduceAdd, Int.reduceToNat, reduceIte, reduceCtorEq, Nat.mul_one, ia_sref, lk0, lk1, st0, st1, hl.at, bb1, bb2]; rfl) ?_)
          | (refine WO.opE (by intro; exact ev_lenS (by simp only [go_sem]; first | rfl | assumption)) (by simp only [pt8, pt0, pt1, pt2, pt3, pt4, pt5, pt6, pt7]; rfl) ?_)
          | (refine WO.specE rfl rfl (s11) (by simp only [pt8, pt0, pt1, pt2, pt3, pt4, pt5, pt6, pt7]; rfl) ?_)
          | (refine WO.specE rfl rfl (s12 hl hmax) (by simp only [pt8, pt0, pt1, pt2, pt3, pt4, pt5, pt6, pt7]; rfl) ?_)
          | (refine WO.specE rfl rfl (h14 _ _ (hl.byVal _)) (by simp only [pt8, pt0, pt1, pt2, pt3, pt4, pt5, pt6, pt7]; rfl) ?_)
          | (refine WO.specE rfl rfl (h18 _ _ _ (hl.byVal _) (hc.byVal _)) (by simp only [pt8, pt0, pt1, pt2, pt3, pt4, pt5, pt6, pt7]; rfl) ?_)
          | (refine WO.specE rfl rfl (h23 _) (by simp only [pt8, pt0, pt1, pt2, pt3, pt4, pt5, pt6, pt7]; rfl) ?_)
          | (refine WO.specE rfl rfl (h18c _ _ _ (hl.byVal _) (hchS.byVal _)) (by simp only [pt8, pt0, pt1, pt2, pt3, pt4, pt5, pt6, pt7]; rfl) ?_)
          | (refine WO.specE rfl rfl (h23c _) (by simp only [pt8, pt0, pt1, pt2, pt3, pt4, pt5, pt6, pt7]; rfl) ?_)
          | (refine WO.specE rfl rfl (h21 _) (by simp only [pt8, pt0, pt1, pt2, pt3, pt4, pt5, pt6, pt7]; rfl) ?_)
          | (refine WC.seq ?_)
          | (refine WC.region ?_)
          | (refine WO.nil ?_)
          | (simp only [fl1, fl2, fl3, fl4, fl5, fl6, fl7, fl8, fl9, fl10, Nat.reduceBEq])
          | (refine WC.calm rfl ?_)
          | (refine WC.drawT ?_)
          | (refine WT.nil ?_)
          | (refine WT.yes rfl ?_)
          | (refine WT.no rfl (by simp only [pt8, pt0, pt1, pt2, pt3, pt4, pt5, pt6, pt7]; rfl) ?_)
          | (refine WT.free rfl (by intro; simp (disch := omega) only [go_sem, Zz.look, Zz.over, Zz.cut, Nat.reduceAdd, Nat.reduceMul, Nat.reduceSub, Nat.reduceLeDiff, Nat.reduceEqDiff, Int.reduceNeg, Int.reduceAdd, Int.reduceToNat, reduceIte, reduceCtorEq, Nat.mul_one, ia_sref, lk0, lk1, st0, st1, hl.at, bb1, bb2]; rfl) rfl (by simp only [pt8, pt0, pt1, pt2, pt3, pt4, pt5, pt6, pt7]; rfl) ?_)
          | (refine WT.big rfl rfl (by intro; simp (disch := omega) only [go_sem, Zz.look, Zz.over, Zz.cut, Nat.reduceAdd, Nat.reduceMul, Nat.reduceSub, Nat.reduceLeDiff, Nat.reduceEqDiff, Int.reduceNeg, Int.reduceAdd, Int.reduceToNat, reduceIte, reduceCtorEq, Nat.mul_one, ia_sref, lk0, lk1, st0, st1, hl.at, bb1, bb2]; rfl) (by simp (disch := omega) only [go_sem, Zz.look, Zz.over, Zz.cut, Nat.reduceAdd, Nat.reduceMul, Nat.reduceSub, Nat.reduceLeDiff, Nat.reduceEqDiff, Int.reduceNeg, Int.reduceAdd, Int.reduceToNat, reduceIte, reduceCtorEq, Nat.mul_one, ia_sref, lk0, lk1, st0, st1, hl.at, bb1, bb2, touch]; rfl) (by first | exact .inl rfl | exact .inr (apart_nil _) | (right; apply apart_mk; simp only [apartL, List.nil_append, List.cons_append, List.getElem?_cons_succ, List.getElem?_cons_zero, Tch.free, and_true, true_and]; first | done | omega)) (by simp only [pt8, pt0, pt1, pt2, pt3, pt4, pt5, pt6, pt7]; rfl) ?_)
          | (refine WT.bigN rfl rfl (by intro; simp (disch := omega) only [go_sem, Zz.look, Zz.over, Zz.cut, Nat.reduceAdd, Nat.reduceMul, Nat.reduceSub, Nat.reduceLeDiff, Nat.reduceEqDiff, Int.reduceNeg, Int.reduceAdd, Int.reduceToNat, reduceIte, reduceCtorEq, Nat.mul_one, ia_sref, lk0, lk1, st0, st1, hl.at, bb1, bb2]; rfl) (by simp (disch := omega) only [go_sem, Zz.look, Zz.over, Zz.cut, Nat.reduceAdd, Nat.reduceMul, Nat.reduceSub, Nat.reduceLeDiff, Nat.reduceEqDiff, Int.reduceNeg, Int.reduceAdd, Int.reduceToNat, reduceIte, reduceCtorEq, Nat.mul_one, ia_sref, lk0, lk1, st0, st1, hl.at, bb1, bb2, touch]; rfl) (by first | exact .inl rfl | exact .inr (apart_nil _) | (right; apply apart_mk; simp only [apartL, List.nil_append, List.cons_append, List.getElem?_cons_succ, List.getElem?_cons_zero, Tch.free, and_true, true_and]; first | done | omega)) ?_)
          | (refine WC.yes rfl ?_)
          | (refine WC.no rfl ?_)
          | (refine WC.skip ?_)
          | (refine WC.exit ?_)
          | (refine WC.ret ?_)
          | (refine WC.block ?_)
          | (refine WT.em2 rfl (by intro hp; simp only [hp, decide_true]; rfl) (by intro hp; simp only [hp, decide_false]; rfl) (fun hp => ?_) (fun hp => ?_) <;> try (exfalso; first | omega | contradiction))
          | (refine WO.em2 rfl (by intro hp; simp only [hp, decide_true]; rfl) (by intro hp; simp only [hp, decide_false]; rfl) (fun hp => ?_) (fun hp => ?_) <;> try (exfalso; first | omega | contradiction))
          | (refine WC.em2 rfl (fun hp => ?_) (fun hp => ?_) <;> try (exfalso; first | omega | contradiction)))
        exact ⟨_, rfl, rfl⟩
    · obtain rfl : b2 = false := by
        cases b2 with
        | false => rfl
        | true => exact ((hb1.1 rfl).no hv hp).elim
      refine WF.fnE rfl (fn_of Try.func5 cir5) (by show 4 ≤ 89; decide) ?_
      unfold ir5
      simp only [padTo, List.replicate, List.nil_append, List.append_nil, List.cons_append]
      repeat' (first
        | (refine WO.yes rfl ?_)
        | (refine WO.noE rfl (by simp only [pt8, pt0, pt1, pt2, pt3, pt4, pt5, pt6, pt7]; rfl) ?_)
        | (refine WO.opE (by intro; simp (disch := omega) only [go_sem, Zz.look, Zz.over, Zz.cut, Nat.reduceAdd, Nat.reduceMul, Nat.reduceSub, Nat.reduceLeDiff, Nat.reduceEqDiff, Int.reduceNeg, Int.reduceAdd, Int.reduceToNat, reduceIte, reduceCtorEq, Nat.mul_one, ia_sref, lk0, lk1, st0, st1, hl.at, bb1, bb2]; rfl) (by simp only [pt8, pt0, pt1, pt2, pt3, pt4, pt5, pt6, pt7]; rfl) ?_)
        | (refine WO.opN (by intro; simp (disch := omega) only [go_sem, Zz.look, Zz.over, Zz.cut, Nat.reduceAdd, Nat.reduceMul, Nat.reduceSub, Nat.reduceLeDiff, Nat.reduceEqDiff, Int.reduceNeg, Int.reduceAdd, Int.reduceToNat, reduceIte, reduceCtorEq, Nat.mul_one, ia_sref, lk0, lk1, st0, st1, hl.at, bb1, bb2]; rfl) ?_)
        | (refine WO.opE (by intro; exact ev_lenS (by simp only [go_sem]; first | rfl | assumption)) (by simp only [pt8, pt0, pt1, pt2, pt3, pt4, pt5, pt6, pt7]; rfl) ?_)
        | (refine WO.specE rfl rfl (s11) (by simp only [pt8, pt0, pt1, pt2, pt3, pt4, pt5, pt6, pt7]; rfl) ?_)
        | (refine WO.specE rfl rfl (s12 hl hmax) (by simp only [pt8, pt0, pt1, pt2, pt3, pt4, pt5, pt6, pt7]; rfl) ?_)
        | (refine WO.specE rfl rfl (h14 _ _ (hl.byVal _)) (by simp only [pt8, pt0, pt1, pt2, pt3, pt4, pt5, pt6, pt7]; rfl) ?_)
        | (refine WO.specE rfl rfl (h18 _ _ _ (hl.byVal _) (hc.byVal _)) (by simp only [pt8, pt0, pt1, pt2, pt3, pt4, pt5, pt6, pt7]; rfl) ?_)
        | (refine WO.specE rfl rfl (h23 _) (by simp only [pt8, pt0, pt1, pt2, pt3, pt4, pt5, pt6, pt7]; rfl) ?_)
        | (refine WO.specE rfl rfl (h21 _) (by simp only [pt8, pt0, pt1, pt2, pt3, pt4, pt5, pt6, pt7]; rfl) ?_)
        | (refine WC.seq ?_)
        | (refine WC.region ?_)
        | (refine WO.nil ?_)
        | (simp only [fl1, fl2, fl3, fl4, fl5, fl6, fl7, fl8, fl9, fl10, Nat.reduceBEq])
        | (refine WC.calm rfl ?_)
        | (refine WC.drawT ?_)
        | (refine WT.nil ?_)
        | (refine WT.yes rfl ?_)
        | (refine WT.no rfl (by simp only [pt8, pt0, pt1, pt2, pt3, pt4, pt5, pt6, pt7]; rfl) ?_)
        | (refine WT.free rfl (by intro; simp (disch := omega) only [go_sem, Zz.look, Zz.over, Zz.cut, Nat.reduceAdd, Nat.reduceMul, Nat.reduceSub, Nat.reduceLeDiff, Nat.reduceEqDiff, Int.reduceNeg, Int.reduceAdd, Int.reduceToNat, reduceIte, reduceCtorEq, Nat.mul_one, ia_sref, lk0, lk1, st0, st1, hl.at, bb1, bb2]; rfl) rfl (by simp only [pt8, pt0, pt1, pt2, pt3, pt4, pt5, pt6, pt7]; rfl) ?_)
        | (refine WT.big rfl rfl (by intro; simp (disch := omega) only [go_sem, Zz.look, Zz.over, Zz.cut, Nat.reduceAdd, Nat.reduceMul, Nat.reduceSub, Nat.reduceLeDiff, Nat.reduceEqDiff, Int.reduceNeg, Int.reduceAdd, Int.reduceToNat, reduceIte, reduceCtorEq, Nat.mul_one, ia_sref, lk0, lk1, st0, st1, hl.at, bb1, bb2]; rfl) (by simp (disch := omega) only [go_sem, Zz.look, Zz.over, Zz.cut, Nat.reduceAdd, Nat.reduceMul, Nat.reduceSub, Nat.reduceLeDiff, Nat.reduceEqDiff, Int.reduceNeg, Int.reduceAdd, Int.reduceToNat, reduceIte, reduceCtorEq, Nat.mul_one, ia_sref, lk0, lk1, st0, st1, hl.at, bb1, bb2, touch]; rfl) (by first | exact .inl rfl | exact .inr (apart_nil _) | (right; apply apart_mk; simp only [apartL, List.nil_append, List.cons_append, List.getElem?_cons_succ, List.getElem?_cons_zero, Tch.free, and_true, true_and]; first | done | omega)) (by simp only [pt8, pt0, pt1, pt2, pt3, pt4, pt5, pt6, pt7]; rfl) ?_)
        | (refine WT.bigN rfl rfl (by intro; simp (disch := omega) only [go_sem, Zz.look, Zz.over, Zz.cut, Nat.reduceAdd, Nat.reduceMul, Nat.reduceSub, Nat.reduceLeDiff, Nat.reduceEqDiff, Int.reduceNeg, Int.reduceAdd, Int.reduceToNat, reduceIte, reduceCtorEq, Nat.mul_one, ia_sref, lk0, lk1, st0, st1, hl.at, bb1, bb2]; rfl) (by simp (disch := omega) only [go_sem, Zz.look, Zz.over, Zz.cut, Nat.reduceAdd, Nat.reduceMul, Nat.reduceSub, Nat.reduceLeDiff, Nat.reduceEqDiff, Int.reduceNeg, Int.reduceAdd, Int.reduceToNat, reduceIte, reduceCtorEq, Nat.mul_one, ia_sref, lk0, lk1, st0, st1, hl.at, bb1, bb2, touch]; rfl) (by first | exact .inl rfl | exact .inr (apart_nil _) | (right; apply apart_mk; simp only [apartL, List.nil_append, List.cons_append, List.getElem?_cons_succ, List.getElem?_cons_zero, Tch.free, and_true, true_and]; first | done | omega)) ?_)
        | (refine WC.yes rfl ?_)
        | (refine WC.no rfl ?_)
        | (refine WC.skip ?_)
        | (refine WC.exit ?_)
        | (refine WC.ret ?_)
        | (refine WC.block ?_)
        | (refine WT.em2 rfl (by intro hp; simp only [hp, decide_true]; rfl) (by intro hp; simp only [hp, decide_false]; rfl) (fun hp => ?_) (fun hp => ?_) <;> try (exfalso; first | omega | contradiction))
        | (refine WO.em2 rfl (by intro hp; simp only [hp, decide_true]; rfl) (by intro hp; simp only [hp, decide_false]; rfl) (fun hp => ?_) (fun hp => ?_) <;> try (exfalso; first | omega | contradiction))
        | (refine WC.em2 rfl (fun hp => ?_) (fun hp => ?_) <;> try (exfalso; first | omega | contradiction)))
      exact ⟨_, rfl, rfl⟩
  · have e := hv
    refine WF.fnE rfl (fn_of Try.func5 cir5) (by show 4 ≤ 89; decide) ?_
    unfold ir5
    simp only [padTo, List.replicate, List.nil_append, List.append_nil, List.cons_append]
    repeat' (first
      | (refine WO.yes rfl ?_)
      | (refine WO.noE rfl (by simp only [pt8, pt0, pt1, pt2, pt3, pt4, pt5, pt6, pt7]; rfl) ?_)
      | (refine WO.opE (by intro; simp (disch := omega) only [go_sem, Zz.look, Zz.over, Zz.cut, Nat.reduceAdd, Nat.reduceMul, Nat.reduceSub, Nat.reduceLeDiff, Nat.reduceEqDiff, Int.reduceNeg, Int.reduceAdd, Int.reduceToNat, reduceIte, reduceCtorEq, Nat.mul_one, ia_sref, lk0, lk1, st0, st1, hl.at, bb1, bb2]; rfl) (by simp only [pt8, pt0, pt1, pt2, pt3, pt4, pt5, pt6, pt7]; rfl) ?_)
      | (refine WO.opN (by intro; simp (disch := omega) only [go_sem, Zz.look, Zz.over, Zz.cut, Nat.reduceAdd, Nat.reduceMul, Nat.reduceSub, Nat.reduceLeDiff, Nat.reduceEqDiff, Int.reduceNeg, Int.reduceAdd, Int.reduceToNat, reduceIte, reduceCtorEq, Nat.mul_one, ia_sref, lk0, lk1, st0, st1, hl.at, bb1, bb2]; rfl) ?_)
      | (refine WO.opE (by intro; exact ev_lenS (by simp only [go_sem]; first | rfl | assumption)) (by simp only [pt8, pt0, pt1, pt2, pt3, pt4, pt5, pt6, pt7]; rfl) ?_)
      | (refine WO.specE rfl rfl (s11) (by simp only [pt8, pt0, pt1, pt2, pt3, pt4, pt5, pt6, pt7]; rfl) ?_)
      | (refine WO.specE rfl rfl (s12 hl hmax) (by simp only [pt8, pt0, pt1, pt2, pt3, pt4, pt5, pt6, pt7]; rfl) ?_)
      | (refine WC.seq ?_)
      | (refine WC.region ?_)
      | (refine WO.nil ?_)
      | (simp only [fl1, fl2, fl3, fl4, fl5, fl6, fl7, fl8, fl9, fl10, Nat.reduceBEq])
      | (refine WC.calm rfl ?_)
      | (refine WC.drawT ?_)
      | (refine WT.nil ?_)
      | (refine WT.yes rfl ?_)
      | (refine WT.no rfl (by simp only [pt8, pt0, pt1, pt2, pt3, pt4, pt5, pt6, pt7]; rfl) ?_)
      | (refine WT.free rfl (by intro; simp (disch := omega) only [go_sem, Zz.look, Zz.over, Zz.cut, Nat.reduceAdd, Nat.reduceMul, Nat.reduceSub, Nat.reduceLeDiff, Nat.reduceEqDiff, Int.reduceNeg, Int.reduceAdd, Int.reduceToNat, reduceIte, reduceCtorEq, Nat.mul_one, ia_sref, lk0, lk1, st0, st1, hl.at, bb1, bb2]; rfl) rfl (by simp only [pt8, pt0, pt1, pt2, pt3, pt4, pt5, pt6, pt7]; rfl) ?_)
      | (refine WT.big rfl rfl (by intro; simp (disch := omega) only [go_sem, Zz.look, Zz.over, Zz.cut, Nat.reduceAdd, Nat.reduceMul, Nat.reduceSub, Nat.reduceLeDiff, Nat.reduceEqDiff, Int.reduceNeg, Int.reduceAdd, Int.reduceToNat, reduceIte, reduceCtorEq, Nat.mul_one, ia_sref, lk0, lk1, st0, st1, hl.at, bb1, bb2]; rfl) (by simp (disch := omega) only [go_sem, Zz.look, Zz.over, Zz.cut, Nat.reduceAdd, Nat.reduceMul, Nat.reduceSub, Nat.reduceLeDiff, Nat.reduceEqDiff, Int.reduceNeg, Int.reduceAdd, Int.reduceToNat, reduceIte, reduceCtorEq, Nat.mul_one, ia_sref, lk0, lk1, st0, st1, hl.at, bb1, bb2, touch]; rfl) (by first | exact .inl rfl | exact .inr (apart_nil _) | (right; apply apart_mk; simp only [apartL, List.nil_append, List.cons_append, List.getElem?_cons_succ, List.getElem?_cons_zero, Tch.free, and_true, true_and]; first | done | omega)) (by simp only [pt8, pt0, pt1, pt2, pt3, pt4, pt5, pt6, pt7]; rfl) ?_)
      | (refine WT.bigN rfl rfl (by intro; simp (disch := omega) only [go_sem, Zz.look, Zz.over, Zz.cut, Nat.reduceAdd, Nat.reduceMul, Nat.reduceSub, Nat.reduceLeDiff, Nat.reduceEqDiff, Int.reduceNeg, Int.reduceAdd, Int.reduceToNat, reduceIte, reduceCtorEq, Nat.mul_one, ia_sref, lk0, lk1, st0, st1, hl.at, bb1, bb2]; rfl) (by simp (disch := omega) only [go_sem, Zz.look, Zz.over, Zz.cut, Nat.reduceAdd, Nat.reduceMul, Nat.reduceSub, Nat.reduceLeDiff, Nat.reduceEqDiff, Int.reduceNeg, Int.reduceAdd, Int.reduceToNat, reduceIte, reduceCtorEq, Nat.mul_one, ia_sref, lk0, lk1, st0, st1, hl.at, bb1, bb2, touch]; rfl) (by first | exact .inl rfl | exact .inr (apart_nil _) | (right; apply apart_mk; simp only [apartL, List.nil_append, List.cons_append, List.getElem?_cons_succ, List.getElem?_cons_zero, Tch.free, and_true, true_and]; first | done | omega)) ?_)
      | (refine WC.yes rfl ?_)
      | (refine WC.no rfl ?_)
      | (refine WC.skip ?_)
      | (refine WC.exit ?_)
      | (refine WC.ret ?_)
      | (refine WC.block ?_)
      | (refine WT.em2 rfl (by intro hp; simp only [hp, decide_true]; rfl) (by intro hp; simp only [hp, decide_false]; rfl) (fun hp => ?_) (fun hp => ?_) <;> try (exfalso; first | omega | contradiction))
      | (refine WO.em2 rfl (by intro hp; simp only [hp, decide_true]; rfl) (by intro hp; simp only [hp, decide_false]; rfl) (fun hp => ?_) (fun hp => ?_) <;> try (exfalso; first | omega | contradiction))
      | (refine WC.em2 rfl (fun hp => ?_) (fun hp => ?_) <;> try (exfalso; first | omega | contradiction)))
    exact ⟨_, rfl, rfl⟩
end Go.Proofs.Ytndaljjljmmlcaa

