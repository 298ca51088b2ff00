import Derived.Test.YtndaljjljmmlcaaIr16n3
import Derived.Test.YtndaljjljmmlcaaL16re
import Derived.Test.YtndaljjljmmlcaaL16ya

set_option linter.unusedSimpArgs false
set_option linter.unusedVariables false
namespace Go.Proofs.Ytndaljjljmmlcaa
open Go.Zz
set_option maxRecDepth 100000
set_option maxHeartbeats 8000000
theorem alike_refl (rs : List Rg) : Alike rs rs := ⟨fun i K d h => h, fun p h => h⟩
theorem bound_uniq {n a b : Int} {rs : List Rg} {l : AV} (hl : RdL l rs) {v v' : AV} (h : BoundOut n rs a b v) (h' : BoundOut n rs a b v') : v = v' := by
  by_cases hv : VL n rs
  · exact bound_same hv hv (alike_refl rs) (fun p h => h) (hsol_of hv hl) h h'
  · rcases h with ⟨_, rfl⟩ | ⟨h, _⟩
    · rcases h' with ⟨_, rfl⟩ | ⟨h, _⟩
      · rfl
      · exact absurd h.1 hv
    · exact absurd h.1 hv
theorem run3 {n : Int} {rs : List Rg} {l c : AV} {cs : List Int} {a b : Int} (hl : RdL l rs) (hmax : rs.length < 9223372036854775808) (hc : IntS c cs) (hcm : cs.length < 9223372036854775808) : WF F5 (.func 3 [] []) [.int .i64 n, l, .int .i64 a, .int .i64 b, c] ⟨[], []⟩ fun y m' => y = .bool true := by
  obtain ⟨v, hout, h14⟩ := s14 (n := n) hl hmax
  obtain ⟨h15a, h15b, h15c⟩ := s15 (n := n) hl hmax
  obtain ⟨h18a, h18b⟩ := s18 (n := n) hl hmax hc hcm
  obtain ⟨h17a, h17b⟩ := s17 (n := n) hl hmax hc hcm
  obtain ⟨u, bo, h19⟩ := s19 (n := n) (a := a) (b := b) hl hmax
  obtain ⟨u', bo', h20⟩ := s20 (n := n) (a := a) (b := b) hl hmax
  obtain rfl := bound_uniq hl bo bo'
  obtain ⟨q1, q2, q3, rfl⟩ := bound_shape bo
  have c12 := fun m => s12 (n := n) (m := m) hl hmax
  have c13 := fun m => s13 (n := n) (m := m) hl hmax
  have hnn := fun m => s16 (m := m) (a' := .snil) (b' := .snil) IntS.nil IntS.nil (by decide) (by decide) rfl rfl
  rw [decide_eq_true rfl] at hnn
  clear bo bo'
  rcases hout with ⟨hv, rfl⟩ | ⟨hv, ch, hch, rfl⟩ | ⟨hv, hp, ys, hs, rfl⟩
  · have c15 := h15a hv
    have c18 := h18a hv
    have c17 := h17a hv
    rw [decide_eq_false hv] at c12 c13
    refine WF.fnE rfl (fn_of Try.func3 cir3) (by show 5 ≤ 134; decide) ?_
    unfold ir3
    simp only [padTo, List.replicate, List.nil_append, List.append_nil, List.cons_append]
    repeat' (first | (refine WO.yes rfl ?_) | (refine WO.noE rfl (by simp only [pt8, pt0, pt1, pt2, pt3, pt4, pt5, pt6, pt7]; rfl) ?_) | (refine WO.opE (by intro; simp (disch := omega) only [go_sem, Zz.look, Zz.over, Zz.cut, Nat.reduceAdd, Nat.reduceMul, Nat.reduceSub, Nat.reduceLeDiff, Nat.reduceEqDiff, Int.reduceNeg, Int.reduceAdd, Int.reduceToNat, reduceIte, reduceCtorEq, Nat.mul_one, lk0, lk1, st0, st1, cellsEq, cellEq, eq_self, and_self, decide_true, Int.reduceEq, Bool.and_true, Bool.true_and, Bool.and_self, cut2]; rfl) (by simp only [pt8, pt0, pt1, pt2, pt3, pt4, pt5, pt6, pt7]; rfl) ?_) | (refine WO.opN (by intro; simp (disch := omega) only [go_sem, Zz.look, Zz.over, Zz.cut, Nat.reduceAdd, Nat.reduceMul, Nat.reduceSub, Nat.reduceLeDiff, Nat.reduceEqDiff, Int.reduceNeg, Int.reduceAdd, Int.reduceToNat, reduceIte, reduceCtorEq, Nat.mul_one, lk0, lk1, st0, st1, cellsEq, cellEq, eq_self, and_self, decide_true, Int.reduceEq, Bool.and_true, Bool.true_and, Bool.and_self, cut2]; rfl) ?_) | (refine WO.opE (by intro; exact ev_lenS (by simp only [go_sem]; first | rfl | assumption)) (by simp only [pt8, pt0, pt1, pt2, pt3, pt4, pt5, pt6, pt7]; rfl) ?_) | (refine WO.specE rfl rfl (s11) (by simp only [pt8, pt0, pt1, pt2, pt3, pt4, pt5, pt6, pt7]; rfl) ?_) | (refine WO.specE rfl rfl (c12 _) (by simp only [pt8, pt0, pt1, pt2, pt3, pt4, pt5, pt6, pt7]; rfl) ?_) | (refine WO.specE rfl rfl (c13 _) (by simp only [pt8, pt0, pt1, pt2, pt3, pt4, pt5, pt6, pt7]; rfl) ?_) | (refine WO.specE rfl rfl (h14 _ _ (hl.byVal _)) (by simp only [pt8, pt0, pt1, pt2, pt3, pt4, pt5, pt6, pt7]; rfl) ?_) | (refine WO.specE rfl rfl (c15 _) (by simp only [pt8, pt0, pt1, pt2, pt3, pt4, pt5, pt6, pt7]; rfl) ?_) | (refine WO.specE rfl rfl (hnn _) (by simp only [pt8, pt0, pt1, pt2, pt3, pt4, pt5, pt6, pt7]; rfl) ?_) | (refine WO.specE rfl rfl (c18 _ _ _ (hl.byVal _) (hc.byVal _)) (by simp only [pt8, pt0, pt1, pt2, pt3, pt4, pt5, pt6, pt7]; rfl) ?_) | (refine WO.specE rfl rfl (c17 _) (by simp only [pt8, pt0, pt1, pt2, pt3, pt4, pt5, pt6, pt7]; rfl) ?_) | (refine WO.specE rfl rfl (h19 _ _ (hl.byVal _)) (by simp only [pt8, pt0, pt1, pt2, pt3, pt4, pt5, pt6, pt7]; rfl) ?_) | (refine WO.specE rfl rfl (h20 _) (by simp only [pt8, pt0, pt1, pt2, pt3, pt4, pt5, pt6, pt7]; rfl) ?_) | (refine WC.seq ?_) | (refine WC.region ?_) | (refine WO.nil ?_) | (simp only [fl1, fl2, fl3, fl4, fl5, fl6, fl7, fl8, fl9, fl10, Nat.reduceBEq]) | (refine WC.calm rfl ?_) | (refine WC.drawT ?_) | (refine WC.yes rfl ?_) | (refine WC.no rfl ?_) | (refine WC.skip ?_) | (refine WC.exit ?_) | (refine WC.ret ?_) | (refine WC.block ?_) | (refine WO.em2 rfl (by intro hp; simp only [hp, decide_true]; rfl) (by intro hp; simp only [hp, decide_false]; rfl) (fun hp => ?_) (fun hp => ?_) <;> try (exfalso; first | omega | contradiction)) | (refine WC.em2 rfl (fun hp => ?_) (fun hp => ?_) <;> try (exfalso; first | omega | contradiction)))
    all_goals exact ⟨_, rfl, rfl⟩
  · have c15 := h15b hv ⟨ch, hch⟩
    obtain ⟨b1, hb1, c18⟩ := h18b hv
    obtain ⟨b2, hb2, c17⟩ := h17b hv
    have hbb : b1 = b2 := by
      rw [Bool.eq_iff_iff, hb1, hb2]
    subst hbb
    have hchI : IntS (.sval false ch.length (ch.map (.int .i64))) ch := IntS.mk ch false
    have hchl : ch.length < 9223372036854775808 := by have := hch.len; omega
    obtain ⟨b3, hb3, c17c⟩ := (s17 (n := n) hl hmax hchI hchl).2 hv
    obtain rfl : b3 = true := hb3.2 hch
    rw [decide_eq_true hv] at c12 c13
    generalize (AV.sval false ch.length (ch.map (.int .i64))) = cv at *
    refine WF.fnE rfl (fn_of Try.func3 cir3) (by show 5 ≤ 134; decide) ?_
    unfold ir3
    simp only [padTo, List.replicate, List.nil_append, List.append_nil, List.cons_append]
    repeat' (first | (refine WO.yes rfl ?_) | (refine WO.noE rfl (by simp only [pt8, pt0, pt1, pt2, pt3, pt4, pt5, pt6, pt7]; rfl) ?_) | (refine WO.opE (by intro; simp (disch := omega) only [go_sem, Zz.look, Zz.over, Zz.cut, Nat.reduceAdd, Nat.reduceMul, Nat.reduceSub, Nat.reduceLeDiff, Nat.reduceEqDiff, Int.reduceNeg, Int.reduceAdd, Int.reduceToNat, reduceIte, reduceCtorEq, Nat.mul_one, lk0, lk1, st0, st1, cellsEq, cellEq, eq_self, and_self, decide_true, Int.reduceEq, Bool.and_true, Bool.true_and, Bool.and_self, cut2]; rfl) (by simp only [pt8, pt0, pt1, pt2, pt3, pt4, pt5, pt6, pt7]; rfl) ?_) | (refine WO.opN (by intro; simp (disch := omega) only [go_sem, Zz.look, Zz.over, Zz.cut, Nat.reduceAdd, Nat.reduceMul, Nat.reduceSub, Nat.reduceLeDiff, Nat.reduceEqDiff, Int.reduceNeg, Int.reduceAdd, Int.reduceToNat, reduceIte, reduceCtorEq, Nat.mul_one, lk0, lk1, st0, st1, cellsEq, cellEq, eq_self, and_self, decide_true, Int.reduceEq, Bool.and_true, Bool.true_and, Bool.and_self, cut2]; rfl) ?_) | (refine WO.opE (by intro; exact ev_lenS (by simp only [go_sem]; first | rfl | assumption)) (by simp only [pt8, pt0, pt1, pt2, pt3, pt4, pt5, pt6, pt7]; rfl) ?_) | (refine WO.specE rfl rfl (s11) (by simp only [pt8, pt0, pt1, pt2, pt3, pt4, pt5, pt6, pt7]; rfl) ?_) | (refine WO.specE rfl rfl (c12 _) (by simp only [pt8, pt0, pt1, pt2, pt3, pt4, pt5, pt6, pt7]; rfl) ?_) | (refine WO.specE rfl rfl (c13 _) (by simp only [pt8, pt0, pt1, pt2, pt3, pt4, pt5, pt6, pt7]; rfl) ?_) | (refine WO.specE rfl rfl (h14 _ _ (hl.byVal _)) (by simp only [pt8, pt0, pt1, pt2, pt3, pt4, pt5, pt6, pt7]; rfl) ?_) | (refine WO.specE rfl rfl (c15 _) (by simp only [pt8, pt0, pt1, pt2, pt3, pt4, pt5, pt6, pt7]; rfl) ?_) | (refine WO.specE rfl rfl (hnn _) (by simp only [pt8, pt0, pt1, pt2, pt3, pt4, pt5, pt6, pt7]; rfl) ?_) | (refine WO.specE rfl rfl (c17c _) (by simp only [pt8, pt0, pt1, pt2, pt3, pt4, pt5, pt6, pt7]; rfl) ?_) | (refine WO.specE rfl rfl (c18 _ _ _ (hl.byVal _) (hc.byVal _)) (by simp only [pt8, pt0, pt1, pt2, pt3, pt4, pt5, pt6, pt7]; rfl) ?_) | (refine WO.specE rfl rfl (c17 _) (by simp only [pt8, pt0, pt1, pt2, pt3, pt4, pt5, pt6, pt7]; rfl) ?_) | (refine WO.specE rfl rfl (h19 _ _ (hl.byVal _)) (by simp only [pt8, pt0, pt1, pt2, pt3, pt4, pt5, pt6, pt7]; rfl) ?_) | (refine WO.specE rfl rfl (h20 _) (by simp only [pt8, pt0, pt1, pt2, pt3, pt4, pt5, pt6, pt7]; rfl) ?_) | (refine WC.seq ?_) | (refine WC.region ?_) | (refine WO.nil ?_) | (simp only [fl1, fl2, fl3, fl4, fl5, fl6, fl7, fl8, fl9, fl10, Nat.reduceBEq]) | (refine WC.calm rfl ?_) | (refine WC.drawT ?_) | (refine WC.yes rfl ?_) | (refine WC.no rfl ?_) | (refine WC.skip ?_) | (refine WC.exit ?_) | (refine WC.ret ?_) | (refine WC.block ?_) | (refine WO.em2 rfl (by intro hp; simp only [hp, decide_true]; rfl) (by intro hp; simp only [hp, decide_false]; rfl) (fun hp => ?_) (fun hp => ?_) <;> try (exfalso; first | omega | contradiction)) | (refine WC.em2 rfl (fun hp => ?_) (fun hp => ?_) <;> try (exfalso; first | omega | contradiction)))
    all_goals exact ⟨_, rfl, rfl⟩
  · obtain ⟨ys', hs', c15⟩ := h15c hv hp
    obtain rfl := hs.unique hs'
    obtain ⟨b1, hb1, c18⟩ := h18b hv
    obtain ⟨b2, hb2, c17⟩ := h17b hv
    have hbb : b1 = b2 := by
      rw [Bool.eq_iff_iff, hb1, hb2]
    subst hbb
    have hyl : ys.length < 9223372036854775808 := by have := hs.1; have := hv.2.1; omega
    have hyI : IntS (.sval true ys.length (ys.map (.int .i64))) ys := IntS.mk ys true
    have h16 := fun m => s16 (m := m) hyI hyI hyl hyl (hyI.byVal _) (hyI.byVal _)
    rw [decide_eq_true rfl] at h16
    rw [decide_eq_true hv] at c12 c13
    generalize (AV.sval true ys.length (ys.map (.int .i64))) = yv at *
    refine WF.fnE rfl (fn_of Try.func3 cir3) (by show 5 ≤ 134; decide) ?_
    unfold ir3
    simp only [padTo, List.replicate, List.nil_append, List.append_nil, List.cons_append]
    repeat' (first | (refine WO.yes rfl ?_) | (refine WO.noE rfl (by simp only [pt8, pt0, pt1, pt2, pt3, pt4, pt5, pt6, pt7]; rfl) ?_) | (refine WO.opE (by intro; simp (disch := omega) only [go_sem, Zz.look, Zz.over, Zz.cut, Nat.reduceAdd, Nat.reduceMul, Nat.reduceSub, Nat.reduceLeDiff, Nat.reduceEqDiff, Int.reduceNeg, Int.reduceAdd, Int.reduceToNat, reduceIte, reduceCtorEq, Nat.mul_one, lk0, lk1, st0, st1, cellsEq, cellEq, eq_self, and_self, decide_true, Int.reduceEq, Bool.and_true, Bool.true_and, Bool.and_self, cut2]; rfl) (by simp only [pt8, pt0, pt1, pt2, pt3, pt4, pt5, pt6, pt7]; rfl) ?_) | (refine WO.opN (by intro; simp (disch := omega) only [go_sem, Zz.look, Zz.over, Zz.cut, Nat.reduceAdd, Nat.reduceMul, Nat.reduceSub, Nat.reduceLeDiff, Nat.reduceEqDiff, Int.reduceNeg, Int.reduceAdd, Int.reduceToNat, reduceIte, reduceCtorEq, Nat.mul_one, lk0, lk1, st0, st1, cellsEq, cellEq, eq_self, and_self, decide_true, Int.reduceEq, Bool.and_true, Bool.true_and, Bool.and_self, cut2]; rfl) ?_) | (refine WO.opE (by intro; exact ev_lenS (by simp only [go_sem]; first | rfl | assumption)) (by simp only [pt8, pt0, pt1, pt2, pt3, pt4, pt5, pt6, pt7]; rfl) ?_) | (refine WO.specE rfl rfl (s11) (by simp only [pt8, pt0, pt1, pt2, pt3, pt4, pt5, pt6, pt7]; rfl) ?_) | (refine WO.specE rfl rfl (c12 _) (by simp only [pt8, pt0, pt1, pt2, pt3, pt4, pt5, pt6, pt7]; rfl) ?_) | (refine WO.specE rfl rfl (c13 _) (by simp only [pt8, pt0, pt1, pt2, pt3, pt4, pt5, pt6, pt7]; rfl) ?_) | (refine WO.specE rfl rfl (h14 _ _ (hl.byVal _)) (by simp only [pt8, pt0, pt1, pt2, pt3, pt4, pt5, pt6, pt7]; rfl) ?_) | (refine WO.specE rfl rfl (c15 _) (by simp only [pt8, pt0, pt1, pt2, pt3, pt4, pt5, pt6, pt7]; rfl) ?_) | (refine WO.specE rfl rfl (h16 _) (by simp only [pt8, pt0, pt1, pt2, pt3, pt4, pt5, pt6, pt7]; rfl) ?_) | (refine WO.specE rfl rfl (c18 _ _ _ (hl.byVal _) (hc.byVal _)) (by simp only [pt8, pt0, pt1, pt2, pt3, pt4, pt5, pt6, pt7]; rfl) ?_) | (refine WO.specE rfl rfl (c17 _) (by simp only [pt8, pt0, pt1, pt2, pt3, pt4, pt5, pt6, pt7]; rfl) ?_) | (refine WO.specE rfl rfl (h19 _ _ (hl.byVal _)) (by simp only [pt8, pt0, pt1, pt2, pt3, pt4, pt5, pt6, pt7]; rfl) ?_) | (refine WO.specE rfl rfl (h20 _) (by simp only [pt8, pt0, pt1, pt2, pt3, pt4, pt5, pt6, pt7]; rfl) ?_) | (refine WC.seq ?_) | (refine WC.region ?_) | (refine WO.nil ?_) | (simp only [fl1, fl2, fl3, fl4, fl5, fl6, fl7, fl8, fl9, fl10, Nat.reduceBEq]) | (refine WC.calm rfl ?_) | (refine WC.drawT ?_) | (refine WC.yes rfl ?_) | (refine WC.no rfl ?_) | (refine WC.skip ?_) | (refine WC.exit ?_) | (refine WC.ret ?_) | (refine WC.block ?_) | (refine WO.em2 rfl (by intro hp; simp only [hp, decide_true]; rfl) (by intro hp; simp only [hp, decide_false]; rfl) (fun hp => ?_) (fun hp => ?_) <;> try (exfalso; first | omega | contradiction)) | (refine WC.em2 rfl (fun hp => ?_) (fun hp => ?_) <;> try (exfalso; first | omega | contradiction)))
    all_goals exact ⟨_, rfl, rfl⟩
end Go.Proofs.Ytndaljjljmmlcaa

