import Derived.Test.YtndaljjljmmlcaaL16y
set_option linter.unusedSimpArgs false
set_option linter.unusedVariables false
namespace Go.Proofs.Ytndaljjljmmlcaa
open Go.Zz
set_option maxRecDepth 100000
set_option maxHeartbeats 4000000
/-- The bound is not given. -/
theorem bound_not {n : Int} {rs : List Rg} {l : AV} (hl : RdL l rs) (hmax : rs.length < 9223372036854775808) {a b : Int} : (∃ e : Int, e ≠ 0 ∧ (∀ l' m, byVal m.heap l' = some l → borrowX E13 19 [.int .i64 n, l', .int .i64 a, .int .i64 b] m = some (bv 0 0 e, m)) ∧ (e = 1 ∨ e = 23 ∨ e = 4 ∨ e = 3)) ∨
    ∃ a' b' : Nat, a = a' ∧ b = b' ∧ VL n rs ∧ (a' : Int) < n ∧ (b' : Int) < n ∧ (∃ p, Pot rs p) ∧ ∃ X Y : Bf.S, Sol rs a' X.known X.far ∧ Sol rs b' Y.known Y.far ∧ X.known b' = true ∧ okB (0 - Y.far a') (X.far b') ∧
      ∀ l' m, byVal m.heap l' = some l → borrowX E13 19 [.int .i64 n, l', .int .i64 a, .int .i64 b] m = some (bv (0 - Y.far a') (X.far b') 0, m) := by
  obtain ⟨v, hout, h⟩ := s19 (n := n) (a := a) (b := b) hl hmax
  rcases hout with ⟨_, rfl⟩ | ⟨⟨hv, a0, a1, b0, b1⟩, hout⟩
  · exact .inl ⟨1, by decide, h, .inl rfl⟩
  · rcases hout with ⟨_, rfl⟩ | ⟨hp, X, Y, hX, hY, hq⟩
    · exact .inl ⟨23, by decide, h, .inr (.inl rfl)⟩
    · rcases hq with ⟨_, rfl⟩ | ⟨_, _, rfl⟩ | ⟨h1, h2, rfl⟩
      · exact .inl ⟨4, by decide, h, .inr (.inr (.inl rfl))⟩
      · exact .inl ⟨3, by decide, h, .inr (.inr (.inr rfl))⟩
      · exact .inr ⟨a.toNat, b.toNat, by omega, by omega, hv, by omega, by omega, hp, X, Y, hX, hY, h1, h2, h⟩

theorem run7 {n : Int} {rs : List Rg} {l : AV} {a b c : Int} (hl : RdL l rs) (hmax : rs.length < 9223372036854775808) : WF E21 (.func 7 [] []) [.int .i64 n, l, .int .i64 a, .int .i64 b, .int .i64 c] ⟨[], []⟩ fun y m' => y = .bool true := by
  rcases bound_not (n := n) (a := a) (b := b) hl hmax with ⟨e, he, h1, _⟩ | ⟨a, b, rfl, rfl, hv, ha, hb, ⟨p, hp⟩, X, Y, hX, hY, k1, o1, h1⟩
  · have e0 := he
    refine WF.fnE rfl (fn_of Try.func7 cir7) (by show 5 ≤ 124; decide) ?_
    unfold ir7
    simp only [padTo, List.replicate, List.nil_append, List.append_nil, List.cons_append]
    repeat' (first
      | (refine WO.yes rfl ?_)
      | (refine WO.noE rfl (by simp only [pt8, pt0, pt1, pt2, pt3, pt4, pt5, pt6, pt7]; rfl) ?_)
      | (refine WO.opE (by intro; simp (disch := omega) only [go_sem, Zz.look, Zz.over, Zz.cut, Nat.reduceAdd, Nat.reduceMul, Nat.reduceSub, Nat.reduceLeDiff, Nat.reduceEqDiff, Int.reduceNeg, Int.reduceAdd, Int.reduceToNat, reduceIte, reduceCtorEq, Nat.mul_one, ia_sref, lk0, lk1, st0, st1, hl.at, bb1, bb2, cellsEq, cellEq, eq_self, and_self, Int.reduceEq, Bool.and_true, Bool.true_and, Bool.and_self, cut2]; rfl) (by simp only [pt8, pt0, pt1, pt2, pt3, pt4, pt5, pt6, pt7]; rfl) ?_)
      | (refine WO.opN (by intro; simp (disch := omega) only [go_sem, Zz.look, Zz.over, Zz.cut, Nat.reduceAdd, Nat.reduceMul, Nat.reduceSub, Nat.reduceLeDiff, Nat.reduceEqDiff, Int.reduceNeg, Int.reduceAdd, Int.reduceToNat, reduceIte, reduceCtorEq, Nat.mul_one, ia_sref, lk0, lk1, st0, st1, hl.at, bb1, bb2, cellsEq, cellEq, eq_self, and_self, Int.reduceEq, Bool.and_true, Bool.true_and, Bool.and_self, cut2]; rfl) ?_)
      | (refine WO.opE (by intro; exact ev_lenS (by simp only [go_sem]; first | rfl | assumption)) (by simp only [pt8, pt0, pt1, pt2, pt3, pt4, pt5, pt6, pt7]; rfl) ?_)
      | (refine WO.specE rfl rfl (s11) (by simp only [pt8, pt0, pt1, pt2, pt3, pt4, pt5, pt6, pt7]; rfl) ?_)
      | (refine WO.specE rfl rfl (h1 _ _ (hl.byVal _)) (by simp only [pt8, pt0, pt1, pt2, pt3, pt4, pt5, pt6, pt7]; rfl) ?_)
      | (refine WC.seq ?_)
      | (refine WC.region ?_)
      | (refine WO.nil ?_)
      | (simp only [fl1, fl2, fl3, fl4, fl5, fl6, fl7, fl8, fl9, fl10, Nat.reduceBEq])
      | (refine WC.calm rfl ?_)
      | (refine WC.drawT ?_)
      | (refine WT.nil ?_)
      | (refine WT.yes rfl ?_)
      | (refine WT.no rfl (by simp only [pt8, pt0, pt1, pt2, pt3, pt4, pt5, pt6, pt7]; rfl) ?_)
      | (refine WT.free rfl (by intro; simp (disch := omega) only [go_sem, Zz.look, Zz.over, Zz.cut, Nat.reduceAdd, Nat.reduceMul, Nat.reduceSub, Nat.reduceLeDiff, Nat.reduceEqDiff, Int.reduceNeg, Int.reduceAdd, Int.reduceToNat, reduceIte, reduceCtorEq, Nat.mul_one, ia_sref, lk0, lk1, st0, st1, hl.at, bb1, bb2, cellsEq, cellEq, eq_self, and_self, Int.reduceEq, Bool.and_true, Bool.true_and, Bool.and_self, cut2]; rfl) rfl (by simp only [pt8, pt0, pt1, pt2, pt3, pt4, pt5, pt6, pt7]; rfl) ?_)
      | (refine WT.big rfl rfl (by intro; simp (disch := omega) only [go_sem, Zz.look, Zz.over, Zz.cut, Nat.reduceAdd, Nat.reduceMul, Nat.reduceSub, Nat.reduceLeDiff, Nat.reduceEqDiff, Int.reduceNeg, Int.reduceAdd, Int.reduceToNat, reduceIte, reduceCtorEq, Nat.mul_one, ia_sref, lk0, lk1, st0, st1, hl.at, bb1, bb2, cellsEq, cellEq, eq_self, and_self, Int.reduceEq, Bool.and_true, Bool.true_and, Bool.and_self, cut2]; rfl) (by simp (disch := omega) only [go_sem, Zz.look, Zz.over, Zz.cut, Nat.reduceAdd, Nat.reduceMul, Nat.reduceSub, Nat.reduceLeDiff, Nat.reduceEqDiff, Int.reduceNeg, Int.reduceAdd, Int.reduceToNat, reduceIte, reduceCtorEq, Nat.mul_one, ia_sref, lk0, lk1, st0, st1, hl.at, bb1, bb2, cellsEq, cellEq, eq_self, and_self, Int.reduceEq, Bool.and_true, Bool.true_and, Bool.and_self, cut2, touch]; rfl) (by first | exact .inl rfl | exact .inr (apart_nil _) | (right; apply apart_mk; simp only [apartL, List.nil_append, List.cons_append, List.getElem?_cons_succ, List.getElem?_cons_zero, Tch.free, and_true, true_and]; first | done | omega)) (by simp only [pt8, pt0, pt1, pt2, pt3, pt4, pt5, pt6, pt7]; rfl) ?_)
      | (refine WT.bigN rfl rfl (by intro; simp (disch := omega) only [go_sem, Zz.look, Zz.over, Zz.cut, Nat.reduceAdd, Nat.reduceMul, Nat.reduceSub, Nat.reduceLeDiff, Nat.reduceEqDiff, Int.reduceNeg, Int.reduceAdd, Int.reduceToNat, reduceIte, reduceCtorEq, Nat.mul_one, ia_sref, lk0, lk1, st0, st1, hl.at, bb1, bb2, cellsEq, cellEq, eq_self, and_self, Int.reduceEq, Bool.and_true, Bool.true_and, Bool.and_self, cut2]; rfl) (by simp (disch := omega) only [go_sem, Zz.look, Zz.over, Zz.cut, Nat.reduceAdd, Nat.reduceMul, Nat.reduceSub, Nat.reduceLeDiff, Nat.reduceEqDiff, Int.reduceNeg, Int.reduceAdd, Int.reduceToNat, reduceIte, reduceCtorEq, Nat.mul_one, ia_sref, lk0, lk1, st0, st1, hl.at, bb1, bb2, cellsEq, cellEq, eq_self, and_self, Int.reduceEq, Bool.and_true, Bool.true_and, Bool.and_self, cut2, touch]; rfl) (by first | exact .inl rfl | exact .inr (apart_nil _) | (right; apply apart_mk; simp only [apartL, List.nil_append, List.cons_append, List.getElem?_cons_succ, List.getElem?_cons_zero, Tch.free, and_true, true_and]; first | done | omega)) ?_)
      | (refine WC.yes rfl ?_)
      | (refine WC.no rfl ?_)
      | (refine WC.skip ?_)
      | (refine WC.exit ?_)
      | (refine WC.ret ?_)
      | (refine WC.block ?_)
      | (refine WT.em2 rfl (by intro hp; simp only [hp, decide_true]; rfl) (by intro hp; simp only [hp, decide_false]; rfl) (fun hp => ?_) (fun hp => ?_) <;> try (exfalso; first | omega | contradiction))
      | (refine WO.em2 rfl (by intro hp; simp only [hp, decide_true]; rfl) (by intro hp; simp only [hp, decide_false]; rfl) (fun hp => ?_) (fun hp => ?_) <;> try (exfalso; first | omega | contradiction))
      | (refine WC.em2 rfl (fun hp => ?_) (fun hp => ?_) <;> try (exfalso; first | omega | contradiction)))
    exact ⟨_, rfl, rfl⟩
  · obtain ⟨vb, hob, h2⟩ := s19 (n := n) (a := b) (b := a) hl hmax
    obtain rfl := bound_val hv hp hb ha hY hX hob
    obtain ⟨vo, hoo, h3⟩ := s19 (n := n) (a := a) (b := a) hl hmax
    obtain rfl := bound_val hv hp ha ha hX hX hoo
    have hza := hX.zero
    have ky : Y.known a = true := hX.symm k1 hY
    obtain ⟨o2, o3, o4⟩ := o1
    have e1 : bval (Y.known a) (0 - X.far b) (Y.far a) = bv (0 - X.far b) (Y.far a) 0 := by
      unfold bval
      rw [if_pos ky, if_pos ⟨by omega, by omega, by omega⟩]
    have e2 : bval (X.known a) (0 - X.far a) (X.far a) = bv 0 0 0 := by
      unfold bval
      rw [if_pos hX.self, hza]
      rfl
    rw [e1] at h2
    rw [e2] at h3
    have neg1 : 0 - (0 - Y.far a) = Y.far a := by omega
    rcases bound_not (n := n) (a := b) (b := c) hl hmax with ⟨e, he, h4, _⟩ | ⟨b', c, hbb, rfl, _, _, hc, _, Y', Z, hY', hZ, k2, o5, h4⟩
    · have e0 := he
      refine WF.fnE rfl (fn_of Try.func7 cir7) (by show 5 ≤ 124; decide) ?_
      unfold ir7
      simp only [padTo, List.replicate, List.nil_append, List.append_nil, List.cons_append]
      repeat' (first
        | (refine WO.yes rfl ?_)
        | (refine WO.noE rfl (by simp only [pt8, pt0, pt1, pt2, pt3, pt4, pt5, pt6, pt7]; rfl) ?_)
        | (refine WO.opE (by intro; simp (disch := omega) only [go_sem, Zz.look, Zz.over, Zz.cut, Nat.reduceAdd, Nat.reduceMul, Nat.reduceSub, Nat.reduceLeDiff, Nat.reduceEqDiff, Int.reduceNeg, Int.reduceAdd, Int.reduceToNat, reduceIte, reduceCtorEq, Nat.mul_one, ia_sref, lk0, lk1, st0, st1, hl.at, bb1, bb2, cellsEq, cellEq, eq_self, and_self, Int.reduceEq, Bool.and_true, Bool.true_and, Bool.and_self, cut2, neg1]; rfl) (by simp only [pt8, pt0, pt1, pt2, pt3, pt4, pt5, pt6, pt7]; rfl) ?_)
        | (refine WO.opN (by intro; simp (disch := omega) only [go_sem, Zz.look, Zz.over, Zz.cut, Nat.reduceAdd, Nat.reduceMul, Nat.reduceSub, Nat.reduceLeDiff, Nat.reduceEqDiff, Int.reduceNeg, Int.reduceAdd, Int.reduceToNat, reduceIte, reduceCtorEq, Nat.mul_one, ia_sref, lk0, lk1, st0, st1, hl.at, bb1, bb2, cellsEq, cellEq, eq_self, and_self, Int.reduceEq, Bool.and_true, Bool.true_and, Bool.and_self, cut2, neg1]; rfl) ?_)
        | (refine WO.opE (by intro; exact ev_lenS (by simp only [go_sem]; first | rfl | assumption)) (by simp only [pt8, pt0, pt1, pt2, pt3, pt4, pt5, pt6, pt7]; rfl) ?_)
        | (refine WO.specE rfl rfl (s11) (by simp only [pt8, pt0, pt1, pt2, pt3, pt4, pt5, pt6, pt7]; rfl) ?_)
        | (refine WO.specE rfl rfl (h1 _ _ (hl.byVal _)) (by simp only [pt8, pt0, pt1, pt2, pt3, pt4, pt5, pt6, pt7]; rfl) ?_)
        | (refine WO.specE rfl rfl (h2 _ _ (hl.byVal _)) (by simp only [pt8, pt0, pt1, pt2, pt3, pt4, pt5, pt6, pt7]; rfl) ?_)
        | (refine WO.specE rfl rfl (h3 _ _ (hl.byVal _)) (by simp only [pt8, pt0, pt1, pt2, pt3, pt4, pt5, pt6, pt7]; rfl) ?_)
        | (refine WO.specE rfl rfl (h4 _ _ (hl.byVal _)) (by simp only [pt8, pt0, pt1, pt2, pt3, pt4, pt5, pt6, pt7]; rfl) ?_)
        | (refine WC.seq ?_)
        | (refine WC.region ?_)
        | (refine WO.nil ?_)
        | (simp only [fl1, fl2, fl3, fl4, fl5, fl6, fl7, fl8, fl9, fl10, Nat.reduceBEq])
        | (refine WC.calm rfl ?_)
        | (refine WC.drawT ?_)
        | (refine WT.nil ?_)
        | (refine WT.yes rfl ?_)
        | (refine WT.no rfl (by simp only [pt8, pt0, pt1, pt2, pt3, pt4, pt5, pt6, pt7]; rfl) ?_)
        | (refine WT.free rfl (by intro; simp (disch := omega) only [go_sem, Zz.look, Zz.over, Zz.cut, Nat.reduceAdd, Nat.reduceMul, Nat.reduceSub, Nat.reduceLeDiff, Nat.reduceEqDiff, Int.reduceNeg, Int.reduceAdd, Int.reduceToNat, reduceIte, reduceCtorEq, Nat.mul_one, ia_sref, lk0, lk1, st0, st1, hl.at, bb1, bb2, cellsEq, cellEq, eq_self, and_self, Int.reduceEq, Bool.and_true, Bool.true_and, Bool.and_self, cut2, neg1]; rfl) rfl (by simp only [pt8, pt0, pt1, pt2, pt3, pt4, pt5, pt6, pt7]; rfl) ?_)
        | (refine WT.big rfl rfl (by intro; simp (disch := omega) only [go_sem, Zz.look, Zz.over, Zz.cut, Nat.reduceAdd, Nat.reduceMul, Nat.reduceSub, Nat.reduceLeDiff, Nat.reduceEqDiff, Int.reduceNeg, Int.reduceAdd, Int.reduceToNat, reduceIte, reduceCtorEq, Nat.mul_one, ia_sref, lk0, lk1, st0, st1, hl.at, bb1, bb2, cellsEq, cellEq, eq_self, and_self, Int.reduceEq, Bool.and_true, Bool.true_and, Bool.and_self, cut2, neg1]; rfl) (by simp (disch := omega) only [go_sem, Zz.look, Zz.over, Zz.cut, Nat.reduceAdd, Nat.reduceMul, Nat.reduceSub, Nat.reduceLeDiff, Nat.reduceEqDiff, Int.reduceNeg, Int.reduceAdd, Int.reduceToNat, reduceIte, reduceCtorEq, Nat.mul_one, ia_sref, lk0, lk1, st0, st1, hl.at, bb1, bb2, cellsEq, cellEq, eq_self, and_self, Int.reduceEq, Bool.and_true, Bool.true_and, Bool.and_self, cut2, neg1, touch]; rfl) (by first | exact .inl rfl | exact .inr (apart_nil _) | (right; apply apart_mk; simp only [apartL, List.nil_append, List.cons_append, List.getElem?_cons_succ, List.getElem?_cons_zero, Tch.free, and_true, true_and]; first | done | omega)) (by simp only [pt8, pt0, pt1, pt2, pt3, pt4, pt5, pt6, pt7]; rfl) ?_)
        | (refine WT.bigN rfl rfl (by intro; simp (disch := omega) only [go_sem, Zz.look, Zz.over, Zz.cut, Nat.reduceAdd, Nat.reduceMul, Nat.reduceSub, Nat.reduceLeDiff, Nat.reduceEqDiff, Int.reduceNeg, Int.reduceAdd, Int.reduceToNat, reduceIte, reduceCtorEq, Nat.mul_one, ia_sref, lk0, lk1, st0, st1, hl.at, bb1, bb2, cellsEq, cellEq, eq_self, and_self, Int.reduceEq, Bool.and_true, Bool.true_and, Bool.and_self, cut2, neg1]; rfl) (by simp (disch := omega) only [go_sem, Zz.look, Zz.over, Zz.cut, Nat.reduceAdd, Nat.reduceMul, Nat.reduceSub, Nat.reduceLeDiff, Nat.reduceEqDiff, Int.reduceNeg, Int.reduceAdd, Int.reduceToNat, reduceIte, reduceCtorEq, Nat.mul_one, ia_sref, lk0, lk1, st0, st1, hl.at, bb1, bb2, cellsEq, cellEq, eq_self, and_self, Int.reduceEq, Bool.and_true, Bool.true_and, Bool.and_self, cut2, neg1, touch]; rfl) (by first | exact .inl rfl | exact .inr (apart_nil _) | (right; apply apart_mk; simp only [apartL, List.nil_append, List.cons_append, List.getElem?_cons_succ, List.getElem?_cons_zero, Tch.free, and_true, true_and]; first | done | omega)) ?_)
        | (refine WC.yes rfl ?_)
        | (refine WC.no rfl ?_)
        | (refine WC.skip ?_)
        | (refine WC.exit ?_)
        | (refine WC.ret ?_)
        | (refine WC.block ?_)
        | (refine WT.em2 rfl (by intro hp; simp only [hp, decide_true]; rfl) (by intro hp; simp only [hp, decide_false]; rfl) (fun hp => ?_) (fun hp => ?_) <;> try (exfalso; first | omega | contradiction))
        | (refine WO.em2 rfl (by intro hp; simp only [hp, decide_true]; rfl) (by intro hp; simp only [hp, decide_false]; rfl) (fun hp => ?_) (fun hp => ?_) <;> try (exfalso; first | omega | contradiction))
        | (refine WC.em2 rfl (fun hp => ?_) (fun hp => ?_) <;> try (exfalso; first | omega | contradiction)))
      exact ⟨_, rfl, rfl⟩
    · obtain rfl : b = b' := by omega
      obtain ⟨va, hoa, h5⟩ := s19 (n := n) (a := a) (b := c) hl hmax
      obtain rfl := bound_val hv hp ha hc hX hZ hoa
      have ey : Y'.far c = Y.far c := ((hY'.eq hY c).2 k2)
      have k2' : Y.known c = true := by rw [← (hY'.eq hY c).1]; exact k2
      have tr1 := hX.trans k1 hY k2'
      have kz : Z.known b = true := hY.symm k2' hZ
      have tr2 := hZ.trans kz hY ky
      have eb : bval (X.known c) (0 - Z.far a) (X.far c) = if okB (0 - Z.far a) (X.far c) then bv (0 - Z.far a) (X.far c) 0 else bv 0 0 3 := by
        unfold bval
        rw [if_pos tr1.1]
      rw [eb] at h5
      rw [ey] at h4 o5
      obtain ⟨o6, o7, o8⟩ := o5
      by_cases ho : okB (0 - Z.far a) (X.far c)
      · rw [if_pos ho] at h5
        obtain ⟨o9, o10, o11⟩ := ho
        refine WF.fnE rfl (fn_of Try.func7 cir7) (by show 5 ≤ 124; decide) ?_
        unfold ir7
        simp only [padTo, List.replicate, List.nil_append, List.append_nil, List.cons_append]
        repeat' (first
          | (refine WO.yes rfl ?_)
          | (refine WO.noE rfl (by simp only [pt8, pt0, pt1, pt2, pt3, pt4, pt5, pt6, pt7]; rfl) ?_)
          | (refine WO.opE (by intro; simp (disch := omega) only [go_sem, Zz.look, Zz.over, Zz.cut, Nat.reduceAdd, Nat.reduceMul, Nat.reduceSub, Nat.reduceLeDiff, Nat.reduceEqDiff, Int.reduceNeg, Int.reduceAdd, Int.reduceToNat, reduceIte, reduceCtorEq, Nat.mul_one, ia_sref, lk0, lk1, st0, st1, hl.at, bb1, bb2, cellsEq, cellEq, eq_self, and_self, Int.reduceEq, Bool.and_true, Bool.true_and, Bool.and_self, cut2, neg1]; rfl) (by simp only [pt8, pt0, pt1, pt2, pt3, pt4, pt5, pt6, pt7]; rfl) ?_)
          | (refine WO.opN (by intro; simp (disch := omega) only [go_sem, Zz.look, Zz.over, Zz.cut, Nat.reduceAdd, Nat.reduceMul, Nat.reduceSub, Nat.reduceLeDiff, Nat.reduceEqDiff, Int.reduceNeg, Int.reduceAdd, Int.reduceToNat, reduceIte, reduceCtorEq, Nat.mul_one, ia_sref, lk0, lk1, st0, st1, hl.at, bb1, bb2, cellsEq, cellEq, eq_self, and_self, Int.reduceEq, Bool.and_true, Bool.true_and, Bool.and_self, cut2, neg1]; rfl) ?_)
          | (refine WO.opE (by intro; exact ev_lenS (by simp only [go_sem]; first | rfl | assumption)) (by simp only [pt8, pt0, pt1, pt2, pt3, pt4, pt5, pt6, pt7]; rfl) ?_)
          | (refine WO.specE rfl rfl (s11) (by simp only [pt8, pt0, pt1, pt2, pt3, pt4, pt5, pt6, pt7]; rfl) ?_)
          | (refine WO.specE rfl rfl (h1 _ _ (hl.byVal _)) (by simp only [pt8, pt0, pt1, pt2, pt3, pt4, pt5, pt6, pt7]; rfl) ?_)
          | (refine WO.specE rfl rfl (h2 _ _ (hl.byVal _)) (by simp only [pt8, pt0, pt1, pt2, pt3, pt4, pt5, pt6, pt7]; rfl) ?_)
          | (refine WO.specE rfl rfl (h3 _ _ (hl.byVal _)) (by simp only [pt8, pt0, pt1, pt2, pt3, pt4, pt5, pt6, pt7]; rfl) ?_)
          | (refine WO.specE rfl rfl (h4 _ _ (hl.byVal _)) (by simp only [pt8, pt0, pt1, pt2, pt3, pt4, pt5, pt6, pt7]; rfl) ?_)
          | (refine WO.specE rfl rfl (h5 _ _ (hl.byVal _)) (by simp only [pt8, pt0, pt1, pt2, pt3, pt4, pt5, pt6, pt7]; rfl) ?_)
          | (refine WC.seq ?_)
          | (refine WC.region ?_)
          | (refine WO.nil ?_)
          | (simp only [fl1, fl2, fl3, fl4, fl5, fl6, fl7, fl8, fl9, fl10, Nat.reduceBEq])
          | (refine WC.calm rfl ?_)
          | (refine WC.drawT ?_)
          | (refine WT.nil ?_)
          | (refine WT.yes rfl ?_)
          | (refine WT.no rfl (by simp only [pt8, pt0, pt1, pt2, pt3, pt4, pt5, pt6, pt7]; rfl) ?_)
          | (refine WT.free rfl (by intro; simp (disch := omega) only [go_sem, Zz.look, Zz.over, Zz.cut, Nat.reduceAdd, Nat.reduceMul, Nat.reduceSub, Nat.reduceLeDiff, Nat.reduceEqDiff, Int.reduceNeg, Int.reduceAdd, Int.reduceToNat, reduceIte, reduceCtorEq, Nat.mul_one, ia_sref, lk0, lk1, st0, st1, hl.at, bb1, bb2, cellsEq, cellEq, eq_self, and_self, Int.reduceEq, Bool.and_true, Bool.true_and, Bool.and_self, cut2, neg1]; rfl) rfl (by simp only [pt8, pt0, pt1, pt2, pt3, pt4, pt5, pt6, pt7]; rfl) ?_)
          | (refine WT.big rfl rfl (by intro; simp (disch := omega) only [go_sem, Zz.look, Zz.over, Zz.cut, Nat.reduceAdd, Nat.reduceMul, Nat.reduceSub, Nat.reduceLeDiff, Nat.reduceEqDiff, Int.reduceNeg, Int.reduceAdd, Int.reduceToNat, reduceIte, reduceCtorEq, Nat.mul_one, ia_sref, lk0, lk1, st0, st1, hl.at, bb1, bb2, cellsEq, cellEq, eq_self, and_self, Int.reduceEq, Bool.and_true, Bool.true_and, Bool.and_self, cut2, neg1]; rfl) (by simp (disch := omega) only [go_sem, Zz.look, Zz.over, Zz.cut, Nat.reduceAdd, Nat.reduceMul, Nat.reduceSub, Nat.reduceLeDiff, Nat.reduceEqDiff, Int.reduceNeg, Int.reduceAdd, Int.reduceToNat, reduceIte, reduceCtorEq, Nat.mul_one, ia_sref, lk0, lk1, st0, st1, hl.at, bb1, bb2, cellsEq, cellEq, eq_self, and_self, Int.reduceEq, Bool.and_true, Bool.true_and, Bool.and_self, cut2, neg1, touch]; rfl) (by first | exact .inl rfl | exact .inr (apart_nil _) | (right; apply apart_mk; simp only [apartL, List.nil_append, List.cons_append, List.getElem?_cons_succ, List.getElem?_cons_zero, Tch.free, and_true, true_and]; first | done | omega)) (by simp only [pt8, pt0, pt1, pt2, pt3, pt4, pt5, pt6, pt7]; rfl) ?_)
          | (refine WT.bigN rfl rfl (by intro; simp (disch := omega) only [go_sem, Zz.look, Zz.over, Zz.cut, Nat.reduceAdd, Nat.reduceMul, Nat.reduceSub, Nat.reduceLeDiff, Nat.reduceEqDiff, Int.reduceNeg, Int.reduceAdd, Int.reduceToNat, reduceIte, reduceCtorEq, Nat.mul_one, ia_sref, lk0, lk1, st0, st1, hl.at, bb1, bb2, cellsEq, cellEq, eq_self, and_self, Int.reduceEq, Bool.and_true, Bool.true_and, Bool.and_self, cut2, neg1]; rfl) (by simp (disch := omega) only [go_sem, Zz.look, Zz.over, Zz.cut, Nat.reduceAdd, Nat.reduceMul, Nat.reduceSub, Nat.reduceLeDiff, Nat.reduceEqDiff, Int.reduceNeg, Int.reduceAdd, Int.reduceToNat, reduceIte, reduceCtorEq, Nat.mul_one, ia_sref, lk0, lk1, st0, st1, hl.at, bb1, bb2, cellsEq, cellEq, eq_self, and_self, Int.reduceEq, Bool.and_true, Bool.true_and, Bool.and_self, cut2, neg1, touch]; rfl) (by first | exact .inl rfl | exact .inr (apart_nil _) | (right; apply apart_mk; simp only [apartL, List.nil_append, List.cons_append, List.getElem?_cons_succ, List.getElem?_cons_zero, Tch.free, and_true, true_and]; first | done | omega)) ?_)
          | (refine WC.yes rfl ?_)
          | (refine WC.no rfl ?_)
          | (refine WC.skip ?_)
          | (refine WC.exit ?_)
          | (refine WC.ret ?_)
          | (refine WC.block ?_)
          | (refine WT.em2 rfl (by intro hp; simp only [hp, decide_true]; rfl) (by intro hp; simp only [hp, decide_false]; rfl) (fun hp => ?_) (fun hp => ?_) <;> try (exfalso; first | omega | contradiction))
          | (refine WO.em2 rfl (by intro hp; simp only [hp, decide_true]; rfl) (by intro hp; simp only [hp, decide_false]; rfl) (fun hp => ?_) (fun hp => ?_) <;> try (exfalso; first | omega | contradiction))
          | (refine WC.em2 rfl (fun hp => ?_) (fun hp => ?_) <;> try (exfalso; first | omega | contradiction)))
        refine ⟨_, rfl, ?_⟩
        simp only [oneRes, gt8, gt0, gt1, gt2, gt3, gt4, gt5, gt6, gt7, AV.bool.injEq, decide_eq_true_eq]
        omega
      · rw [if_neg ho] at h5
        refine WF.fnE rfl (fn_of Try.func7 cir7) (by show 5 ≤ 124; decide) ?_
        unfold ir7
        simp only [padTo, List.replicate, List.nil_append, List.append_nil, List.cons_append]
        repeat' (first
          | (refine WO.yes rfl ?_)
          | (refine WO.noE rfl (by simp only [pt8, pt0, pt1, pt2, pt3, pt4, pt5, pt6, pt7]; rfl) ?_)
          | (refine WO.opE (by intro; simp (disch := omega) only [go_sem, Zz.look, Zz.over, Zz.cut, Nat.reduceAdd, Nat.reduceMul, Nat.reduceSub, Nat.reduceLeDiff, Nat.reduceEqDiff, Int.reduceNeg, Int.reduceAdd, Int.reduceToNat, reduceIte, reduceCtorEq, Nat.mul_one, ia_sref, lk0, lk1, st0, st1, hl.at, bb1, bb2, cellsEq, cellEq, eq_self, and_self, Int.reduceEq, Bool.and_true, Bool.true_and, Bool.and_self, cut2, neg1]; rfl) (by simp only [pt8, pt0, pt1, pt2, pt3, pt4, pt5, pt6, pt7]; rfl) ?_)
          | (refine WO.opN (by intro; simp (disch := omega) only [go_sem, Zz.look, Zz.over, Zz.cut, Nat.reduceAdd, Nat.reduceMul, Nat.reduceSub, Nat.reduceLeDiff, Nat.reduceEqDiff, Int.reduceNeg, Int.reduceAdd, Int.reduceToNat, reduceIte, reduceCtorEq, Nat.mul_one, ia_sref, lk0, lk1, st0, st1, hl.at, bb1, bb2, cellsEq, cellEq, eq_self, and_self, Int.reduceEq, Bool.and_true, Bool.true_and, Bool.and_self, cut2, neg1]; rfl) ?_)
          | (refine WO.opE (by intro; exact ev_lenS (by simp only [go_sem]; first | rfl | assumption)) (by simp only [pt8, pt0, pt1, pt2, pt3, pt4, pt5, pt6, pt7]; rfl) ?_)
          | (refine WO.specE rfl rfl (s11) (by simp only [pt8, pt0, pt1, pt2, pt3, pt4, pt5, pt6, pt7]; rfl) ?_)
          | (refine WO.specE rfl rfl (h1 _ _ (hl.byVal _)) (by simp only [pt8, pt0, pt1, pt2, pt3, pt4, pt5, pt6, pt7]; rfl) ?_)
          | (refine WO.specE rfl rfl (h2 _ _ (hl.byVal _)) (by simp only [pt8, pt0, pt1, pt2, pt3, pt4, pt5, pt6, pt7]; rfl) ?_)
          | (refine WO.specE rfl rfl (h3 _ _ (hl.byVal _)) (by simp only [pt8, pt0, pt1, pt2, pt3, pt4, pt5, pt6, pt7]; rfl) ?_)
          | (refine WO.specE rfl rfl (h4 _ _ (hl.byVal _)) (by simp only [pt8, pt0, pt1, pt2, pt3, pt4, pt5, pt6, pt7]; rfl) ?_)
          | (refine WO.specE rfl rfl (h5 _ _ (hl.byVal _)) (by simp only [pt8, pt0, pt1, pt2, pt3, pt4, pt5, pt6, pt7]; rfl) ?_)
          | (refine WC.seq ?_)
          | (refine WC.region ?_)
          | (refine WO.nil ?_)
          | (simp only [fl1, fl2, fl3, fl4, fl5, fl6, fl7, fl8, fl9, fl10, Nat.reduceBEq])
          | (refine WC.calm rfl ?_)
          | (refine WC.drawT ?_)
          | (refine WT.nil ?_)
          | (refine WT.yes rfl ?_)
          | (refine WT.no rfl (by simp only [pt8, pt0, pt1, pt2, pt3, pt4, pt5, pt6, pt7]; rfl) ?_)
          | (refine WT.free rfl (by intro; simp (disch := omega) only [go_sem, Zz.look, Zz.over, Zz.cut, Nat.reduceAdd, Nat.reduceMul, Nat.reduceSub, Nat.reduceLeDiff, Nat.reduceEqDiff, Int.reduceNeg, Int.reduceAdd, Int.reduceToNat, reduceIte, reduceCtorEq, Nat.mul_one, ia_sref, lk0, lk1, st0, st1, hl.at, bb1, bb2, cellsEq, cellEq, eq_self, and_self, Int.reduceEq, Bool.and_true, Bool.true_and, Bool.and_self, cut2, neg1]; rfl) rfl (by simp only [pt8, pt0, pt1, pt2, pt3, pt4, pt5, pt6, pt7]; rfl) ?_)
          | (refine WT.big rfl rfl (by intro; simp (disch := omega) only [go_sem, Zz.look, Zz.over, Zz.cut, Nat.reduceAdd, Nat.reduceMul, Nat.reduceSub, Nat.reduceLeDiff, Nat.reduceEqDiff, Int.reduceNeg, Int.reduceAdd, Int.reduceToNat, reduceIte, reduceCtorEq, Nat.mul_one, ia_sref, lk0, lk1, st0, st1, hl.at, bb1, bb2, cellsEq, cellEq, eq_self, and_self, Int.reduceEq, Bool.and_true, Bool.true_and, Bool.and_self, cut2, neg1]; rfl) (by simp (disch := omega) only [go_sem, Zz.look, Zz.over, Zz.cut, Nat.reduceAdd, Nat.reduceMul, Nat.reduceSub, Nat.reduceLeDiff, Nat.reduceEqDiff, Int.reduceNeg, Int.reduceAdd, Int.reduceToNat, reduceIte, reduceCtorEq, Nat.mul_one, ia_sref, lk0, lk1, st0, st1, hl.at, bb1, bb2, cellsEq, cellEq, eq_self, and_self, Int.reduceEq, Bool.and_true, Bool.true_and, Bool.and_self, cut2, neg1, touch]; rfl) (by first | exact .inl rfl | exact .inr (apart_nil _) | (right; apply apart_mk; simp only [apartL, List.nil_append, List.cons_append, List.getElem?_cons_succ, List.getElem?_cons_zero, Tch.free, and_true, true_and]; first | done | omega)) (by simp only [pt8, pt0, pt1, pt2, pt3, pt4, pt5, pt6, pt7]; rfl) ?_)
          | (refine WT.bigN rfl rfl (by intro; simp (disch := omega) only [go_sem, Zz.look, Zz.over, Zz.cut, Nat.reduceAdd, Nat.reduceMul, Nat.reduceSub, Nat.reduceLeDiff, Nat.reduceEqDiff, Int.reduceNeg, Int.reduceAdd, Int.reduceToNat, reduceIte, reduceCtorEq, Nat.mul_one, ia_sref, lk0, lk1, st0, st1, hl.at, bb1, bb2, cellsEq, cellEq, eq_self, and_self, Int.reduceEq, Bool.and_true, Bool.true_and, Bool.and_self, cut2, neg1]; rfl) (by simp (disch := omega) only [go_sem, Zz.look, Zz.over, Zz.cut, Nat.reduceAdd, Nat.reduceMul, Nat.reduceSub, Nat.reduceLeDiff, Nat.reduceEqDiff, Int.reduceNeg, Int.reduceAdd, Int.reduceToNat, reduceIte, reduceCtorEq, Nat.mul_one, ia_sref, lk0, lk1, st0, st1, hl.at, bb1, bb2, cellsEq, cellEq, eq_self, and_self, Int.reduceEq, Bool.and_true, Bool.true_and, Bool.and_self, cut2, neg1, touch]; rfl) (by first | exact .inl rfl | exact .inr (apart_nil _) | (right; apply apart_mk; simp only [apartL, List.nil_append, List.cons_append, List.getElem?_cons_succ, List.getElem?_cons_zero, Tch.free, and_true, true_and]; first | done | omega)) ?_)
          | (refine WC.yes rfl ?_)
          | (refine WC.no rfl ?_)
          | (refine WC.skip ?_)
          | (refine WC.exit ?_)
          | (refine WC.ret ?_)
          | (refine WC.block ?_)
          | (refine WT.em2 rfl (by intro hp; simp only [hp, decide_true]; rfl) (by intro hp; simp only [hp, decide_false]; rfl) (fun hp => ?_) (fun hp => ?_) <;> try (exfalso; first | omega | contradiction))
          | (refine WO.em2 rfl (by intro hp; simp only [hp, decide_true]; rfl) (by intro hp; simp only [hp, decide_false]; rfl) (fun hp => ?_) (fun hp => ?_) <;> try (exfalso; first | omega | contradiction))
          | (refine WC.em2 rfl (fun hp => ?_) (fun hp => ?_) <;> try (exfalso; first | omega | contradiction)))
        exact ⟨_, rfl, rfl⟩
end Go.Proofs.Ytndaljjljmmlcaa

