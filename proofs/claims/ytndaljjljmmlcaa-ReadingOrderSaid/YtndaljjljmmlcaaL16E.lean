import Derived.Test.YtndaljjljmmlcaaL16D
set_option linter.unusedSimpArgs false
set_option linter.unusedVariables false
namespace Go.Proofs.Ytndaljjljmmlcaa
open Go.Zz
set_option maxRecDepth 100000
def psum (rs : List Rg) (cs : List Int) (i : Nat) : Int := ((cs.take i).map (stW rs)).sum
theorem psum_succ {rs : List Rg} {cs : List Int} {i : Nat} (h : i < cs.length) : psum rs cs (i + 1) = psum rs cs i + stW rs (cs.getD i 0) := by
  unfold psum
  rw [List.take_add_one, List.getD_eq_getElem?_getD, List.getElem?_eq_getElem h]
  show ((cs.take i ++ [cs[i]]).map (stW rs)).sum = _
  rw [List.map_append, List.sum_append]
  simp only [List.map_cons, List.map_nil, List.sum_cons, List.sum_nil, Option.getD_some, Int.add_zero]
theorem getD_mem {cs : List Int} {i : Nat} (h : i < cs.length) : cs.getD i 0 ∈ cs := by
  rw [List.getD_eq_getElem?_getD, List.getElem?_eq_getElem h]
  exact List.getElem_mem h


set_option maxHeartbeats 1600000 in
theorem f18 {n : Int} {rs : List Rg} (hv : VL n rs) {l : AV} (hl : RdL l rs) {c : AV} {cs : List Int} (hc : IntS c cs) (hcmax : cs.length < 9223372036854775808) : WF E12 (.func 18 [] []) [.int .i64 n, l, c] ⟨[], []⟩ fun y m' =>
    ∃ b : Bool, (b = true ↔ Contra rs cs) ∧ y = .tuple [.bool b, .int .i64 0] := by
  have hmax : rs.length < 9223372036854775808 := by have := hv.2.2.1; omega
  have hlen := hl.len
  have hclen := hc.len
  have hn2 := hv.2.2.1
  refine WF.fnE rfl (fn_of Try.func18 cir18) (by show 3 ≤ 83; decide) ?_
  unfold ir18
  simp only [padTo, List.replicate, List.nil_append, List.append_nil, List.cons_append]
  repeat' (first
    | (refine WO.yes rfl ?_)
    | (refine WO.noE rfl (by simp only [pt8, pt0, pt1, pt2, pt3, pt4, pt5, pt6, pt7]; rfl) ?_)
    | (refine WO.opE (by intro; simp (disch := omega) only [go_sem, Zz.look, Zz.over, Zz.cut, Nat.reduceAdd, Nat.reduceMul, Nat.reduceSub, Nat.reduceLeDiff, Nat.reduceEqDiff, Int.reduceNeg, Int.reduceAdd, Int.reduceToNat, reduceIte, reduceCtorEq, tab_k, tab_f, tab_b, Nat.mul_one, tab_len, over_tab, cut_tab, ia_sref, nilEqAV, lk0, lk1, lk2, lk3, st0, st1, st2, st3]; rfl) (by simp only [pt8, pt0, pt1, pt2, pt3, pt4, pt5, pt6, pt7]; rfl) ?_)
    | (refine WO.opN (by intro; simp (disch := omega) only [go_sem, Zz.look, Zz.over, Zz.cut, Nat.reduceAdd, Nat.reduceMul, Nat.reduceSub, Nat.reduceLeDiff, Nat.reduceEqDiff, Int.reduceNeg, Int.reduceAdd, Int.reduceToNat, reduceIte, reduceCtorEq, tab_k, tab_f, tab_b, Nat.mul_one, tab_len, over_tab, cut_tab, ia_sref, nilEqAV, lk0, lk1, lk2, lk3, st0, st1, st2, st3]; rfl) ?_)
    | (refine WO.opE (by intro; exact ev_lenS (by simp only [go_sem]; first | rfl | assumption)) (by simp only [pt8, pt0, pt1, pt2, pt3, pt4, pt5, pt6, pt7]; rfl) ?_)
    | (refine WO.specE rfl rfl (s12 hl hmax) (by simp only [pt8, pt0, pt1, pt2, pt3, pt4, pt5, pt6, pt7]; rfl) ?_)
    | (refine WO.opE (by intro; exact ev_lenS (by simp only [go_sem]; exact hlen)) (by simp only [pt8, pt0, pt1, pt2, pt3, pt4, pt5, pt6, pt7]; rfl) ?_)
    | (refine WO.opE (by intro; exact ev_lenS (by simp only [go_sem]; exact hclen)) (by simp only [pt8, pt0, pt1, pt2, pt3, pt4, pt5, pt6, pt7]; rfl) ?_)
    | (refine WC.seq ?_)
    | (refine WC.region ?_)
    | (refine WO.nil ?_)
    | (simp only [fl1, fl2, fl3, fl4, fl5, fl6, fl7, fl8, fl9, fl10, Nat.reduceBEq])
    | (refine WC.calm rfl ?_)
    | (refine WC.drawT ?_)
    | (refine WT.nil ?_)
    | (refine WT.yes rfl ?_)
    | (refine WT.no rfl (by simp only [pt8, pt0, pt1, pt2, pt3, pt4, pt5, pt6, pt7]; rfl) ?_)
    | (refine WT.free rfl (by intro; simp (disch := omega) only [go_sem, Zz.look, Zz.over, Zz.cut, Nat.reduceAdd, Nat.reduceMul, Nat.reduceSub, Nat.reduceLeDiff, Nat.reduceEqDiff, Int.reduceNeg, Int.reduceAdd, Int.reduceToNat, reduceIte, reduceCtorEq, tab_k, tab_f, tab_b, Nat.mul_one, tab_len, over_tab, cut_tab, ia_sref, nilEqAV, lk0, lk1, lk2, lk3, st0, st1, st2, st3]; rfl) rfl (by simp only [pt8, pt0, pt1, pt2, pt3, pt4, pt5, pt6, pt7]; rfl) ?_)
    | (refine WT.big rfl rfl (by intro; simp (disch := omega) only [go_sem, Zz.look, Zz.over, Zz.cut, Nat.reduceAdd, Nat.reduceMul, Nat.reduceSub, Nat.reduceLeDiff, Nat.reduceEqDiff, Int.reduceNeg, Int.reduceAdd, Int.reduceToNat, reduceIte, reduceCtorEq, tab_k, tab_f, tab_b, Nat.mul_one, tab_len, over_tab, cut_tab, ia_sref, nilEqAV, lk0, lk1, lk2, lk3, st0, st1, st2, st3]; rfl) (by simp (disch := omega) only [go_sem, Zz.look, Zz.over, Zz.cut, Nat.reduceAdd, Nat.reduceMul, Nat.reduceSub, Nat.reduceLeDiff, Nat.reduceEqDiff, Int.reduceNeg, Int.reduceAdd, Int.reduceToNat, reduceIte, reduceCtorEq, tab_k, tab_f, tab_b, Nat.mul_one, tab_len, over_tab, cut_tab, ia_sref, nilEqAV, lk0, lk1, lk2, lk3, st0, st1, st2, st3, touch]; rfl) (by first | exact .inl rfl | exact .inr (apart_nil _) | (right; apply apart_mk; simp only [apartL, List.nil_append, List.cons_append, List.getElem?_cons_succ, List.getElem?_cons_zero, Tch.free, and_true, true_and]; first | done | omega)) (by simp only [pt8, pt0, pt1, pt2, pt3, pt4, pt5, pt6, pt7]; rfl) ?_)
    | (refine WT.bigN rfl rfl (by intro; simp (disch := omega) only [go_sem, Zz.look, Zz.over, Zz.cut, Nat.reduceAdd, Nat.reduceMul, Nat.reduceSub, Nat.reduceLeDiff, Nat.reduceEqDiff, Int.reduceNeg, Int.reduceAdd, Int.reduceToNat, reduceIte, reduceCtorEq, tab_k, tab_f, tab_b, Nat.mul_one, tab_len, over_tab, cut_tab, ia_sref, nilEqAV, lk0, lk1, lk2, lk3, st0, st1, st2, st3]; rfl) (by simp (disch := omega) only [go_sem, Zz.look, Zz.over, Zz.cut, Nat.reduceAdd, Nat.reduceMul, Nat.reduceSub, Nat.reduceLeDiff, Nat.reduceEqDiff, Int.reduceNeg, Int.reduceAdd, Int.reduceToNat, reduceIte, reduceCtorEq, tab_k, tab_f, tab_b, Nat.mul_one, tab_len, over_tab, cut_tab, ia_sref, nilEqAV, lk0, lk1, lk2, lk3, st0, st1, st2, st3, touch]; rfl) (by first | exact .inl rfl | exact .inr (apart_nil _) | (right; apply apart_mk; simp only [apartL, List.nil_append, List.cons_append, List.getElem?_cons_succ, List.getElem?_cons_zero, Tch.free, and_true, true_and]; first | done | omega)) ?_)
    | (refine WC.yes rfl ?_)
    | (refine WC.no rfl ?_)
    | (refine WC.skip ?_)
    | (refine WC.exit ?_)
    | (refine WC.ret ?_)
    | (refine WC.block ?_)
    | (refine WT.em2 rfl (by intro hp; simp only [hp, decide_true]; rfl) (by intro hp; simp only [hp, decide_false]; rfl) (fun hp => ?_) (fun hp => ?_) <;> try (exfalso; first | omega | contradiction))
    | (refine WO.em2 rfl (by intro hp; simp only [hp, decide_true]; rfl) (by intro hp; simp only [hp, decide_false]; rfl) (fun hp => ?_) (fun hp => ?_) <;> try (exfalso; first | omega | contradiction))
    | (refine WC.em2 rfl (fun hp => ?_) (fun hp => ?_) <;> try (exfalso; first | omega | contradiction)))
  · have hno : ¬ Contra rs cs := fun h => h.ne (List.length_eq_zero_iff.1 (by omega))
    exact ⟨_, rfl, false, ⟨fun h => (by cases h), fun h => absurd h hno⟩, rfl⟩
  · have hno : ¬ Contra rs cs := fun h => by have := h.len; omega
    exact ⟨_, rfl, false, ⟨fun h => (by cases h), fun h => absurd h hno⟩, rfl⟩
  have hc0 : 0 < cs.length := by omega
  refine WC.loopI (fun m s => ∃ T R i, s = ⟨T, R, []⟩ ∧ T.length = 83 ∧ gt T 1 = l ∧ gt T 2 = c ∧ gt T 8 = .int .i64 (psum rs cs i) ∧ gt T 27 = c ∧ gt T 28 = .int .i64 cs.length ∧ gt T 29 = .int .i64 (i : Nat) ∧ i ≤ cs.length ∧ m + i = cs.length ∧ (∀ j, j < i → Num rs (cs.getD j 0) ∧ stB rs (cs.getD j 0) = stA rs (cs.getD ((j + 1) % cs.length) 0)) ∧ -(i * 100000000000000) ≤ psum rs cs i ∧ psum rs cs i ≤ i * 100000000000000) ?_ cs.length _ ⟨_, _, 0, rfl, rfl, rfl, rfl, rfl, rfl, rfl, rfl, by omega, by omega, fun j hj => by omega, by simp [psum], by simp [psum]⟩
  rintro m _ ⟨T, R, i, rfl, hT, g1, g2, g8, g27, g28, g29, hi, hm, hpre, hs1, hs2⟩
  obtain ⟨f, rfl⟩ := ex83 hT
  clear hT
  replace g1 : f 1 = l := g1
  replace g2 : f 2 = c := g2
  replace g8 : f 8 = .int .i64 (psum rs cs i) := g8
  replace g27 : f 27 = c := g27
  replace g28 : f 28 = .int .i64 cs.length := g28
  replace g29 : f 29 = .int .i64 (i : Nat) := g29
  simp only [g1, g2, g8, g27, g28, g29]
  by_cases hin : i < cs.length
  · have hm1 := getD_mem hin
    have hlt2 : (i + 1) % cs.length < cs.length := Nat.mod_lt _ hc0
    have hm2 := getD_mem hlt2
    repeat' (first
      | (refine WO.yes rfl ?_)
      | (refine WO.noE rfl (by simp only [pt8, pt0, pt1, pt2, pt3, pt4, pt5, pt6, pt7]; rfl) ?_)
      | (refine WO.opE (by intro; simp (disch := omega) only [go_sem, zeros, Zz.cut, List.append_assoc, List.length_append, Nat.reduceAdd, Nat.reduceMul, Nat.reduceSub, Nat.reduceLeDiff, Nat.reduceEqDiff, Int.reduceNeg, Int.reduceAdd, Int.reduceToNat, reduceIte, reduceCtorEq, tab_k, tab_f, tab_b, Nat.mul_one, tab_len, over_tab, cut_tab, ia_sref, nilEqAV, lk0, lk1, lk2, lk3, st0, st1, st2, st3, hc.atI, tmod_nat, if_neg]; rfl) (by simp only [pt8, pt0, pt1, pt2, pt3, pt4, pt5, pt6, pt7]; rfl) ?_)
      | (refine WO.opN (by intro; simp (disch := omega) only [go_sem, zeros, Zz.cut, List.append_assoc, List.length_append, Nat.reduceAdd, Nat.reduceMul, Nat.reduceSub, Nat.reduceLeDiff, Nat.reduceEqDiff, Int.reduceNeg, Int.reduceAdd, Int.reduceToNat, reduceIte, reduceCtorEq, tab_k, tab_f, tab_b, Nat.mul_one, tab_len, over_tab, cut_tab, ia_sref, nilEqAV, lk0, lk1, lk2, lk3, st0, st1, st2, st3, hc.atI, tmod_nat, if_neg]; rfl) ?_)
      | (refine WO.opE (by intro; exact ev_lenS (by simp only [go_sem]; first | rfl | assumption)) (by simp only [pt8, pt0, pt1, pt2, pt3, pt4, pt5, pt6, pt7]; rfl) ?_)
      | (refine WO.opE (by intro; exact ev_lenS (by simp only [go_sem]; exact hlen)) (by simp only [pt8, pt0, pt1, pt2, pt3, pt4, pt5, pt6, pt7]; rfl) ?_)
      | (refine WO.opE (by intro; exact ev_lenS (by simp only [go_sem]; exact hclen)) (by simp only [pt8, pt0, pt1, pt2, pt3, pt4, pt5, pt6, pt7]; rfl) ?_)
      | (refine WC.seq ?_)
      | (refine WC.region ?_)
      | (refine WO.nil ?_)
      | (simp only [fl1, fl2, fl3, fl4, fl5, fl6, fl7, fl8, fl9, fl10, Nat.reduceBEq])
      | (refine WC.calm rfl ?_)
      | (refine WC.drawT ?_)
      | (refine WT.nil ?_)
      | (refine WT.yes rfl ?_)
      | (refine WT.no rfl (by simp only [pt8, pt0, pt1, pt2, pt3, pt4, pt5, pt6, pt7]; rfl) ?_)
      | (refine WT.free rfl (by intro; simp (disch := omega) only [go_sem, zeros, Zz.cut, List.append_assoc, List.length_append, Nat.reduceAdd, Nat.reduceMul, Nat.reduceSub, Nat.reduceLeDiff, Nat.reduceEqDiff, Int.reduceNeg, Int.reduceAdd, Int.reduceToNat, reduceIte, reduceCtorEq, tab_k, tab_f, tab_b, Nat.mul_one, tab_len, over_tab, cut_tab, ia_sref, nilEqAV, lk0, lk1, lk2, lk3, st0, st1, st2, st3, hc.atI, tmod_nat, if_neg]; rfl) rfl (by simp only [pt8, pt0, pt1, pt2, pt3, pt4, pt5, pt6, pt7]; rfl) ?_)
      | (refine WT.big rfl rfl (by intro; simp (disch := omega) only [go_sem, zeros, Zz.cut, List.append_assoc, List.length_append, Nat.reduceAdd, Nat.reduceMul, Nat.reduceSub, Nat.reduceLeDiff, Nat.reduceEqDiff, Int.reduceNeg, Int.reduceAdd, Int.reduceToNat, reduceIte, reduceCtorEq, tab_k, tab_f, tab_b, Nat.mul_one, tab_len, over_tab, cut_tab, ia_sref, nilEqAV, lk0, lk1, lk2, lk3, st0, st1, st2, st3, hc.atI, tmod_nat, if_neg]; rfl) (by simp (disch := omega) only [go_sem, zeros, Zz.cut, List.append_assoc, List.length_append, Nat.reduceAdd, Nat.reduceMul, Nat.reduceSub, Nat.reduceLeDiff, Nat.reduceEqDiff, Int.reduceNeg, Int.reduceAdd, Int.reduceToNat, reduceIte, reduceCtorEq, tab_k, tab_f, tab_b, Nat.mul_one, tab_len, over_tab, cut_tab, ia_sref, nilEqAV, lk0, lk1, lk2, lk3, st0, st1, st2, st3, hc.atI, tmod_nat, if_neg, touch]; rfl) (by first | exact .inl rfl | exact .inr (apart_nil _) | (right; apply apart_mk; simp only [apartL, List.nil_append, List.cons_append, List.getElem?_cons_succ, List.getElem?_cons_zero, Tch.free, and_true, true_and]; first | done | omega)) (by simp only [pt8, pt0, pt1, pt2, pt3, pt4, pt5, pt6, pt7]; rfl) ?_)
      | (refine WT.bigN rfl rfl (by intro; simp (disch := omega) only [go_sem, zeros, Zz.cut, List.append_assoc, List.length_append, Nat.reduceAdd, Nat.reduceMul, Nat.reduceSub, Nat.reduceLeDiff, Nat.reduceEqDiff, Int.reduceNeg, Int.reduceAdd, Int.reduceToNat, reduceIte, reduceCtorEq, tab_k, tab_f, tab_b, Nat.mul_one, tab_len, over_tab, cut_tab, ia_sref, nilEqAV, lk0, lk1, lk2, lk3, st0, st1, st2, st3, hc.atI, tmod_nat, if_neg]; rfl) (by simp (disch := omega) only [go_sem, zeros, Zz.cut, List.append_assoc, List.length_append, Nat.reduceAdd, Nat.reduceMul, Nat.reduceSub, Nat.reduceLeDiff, Nat.reduceEqDiff, Int.reduceNeg, Int.reduceAdd, Int.reduceToNat, reduceIte, reduceCtorEq, tab_k, tab_f, tab_b, Nat.mul_one, tab_len, over_tab, cut_tab, ia_sref, nilEqAV, lk0, lk1, lk2, lk3, st0, st1, st2, st3, hc.atI, tmod_nat, if_neg, touch]; rfl) (by first | exact .inl rfl | exact .inr (apart_nil _) | (right; apply apart_mk; simp only [apartL, List.nil_append, List.cons_append, List.getElem?_cons_succ, List.getElem?_cons_zero, Tch.free, and_true, true_and]; first | done | omega)) ?_)
      | (refine WC.yes rfl ?_)
      | (refine WC.no rfl ?_)
      | (refine WC.skip ?_)
      | (refine WC.exit ?_)
      | (refine WC.ret ?_)
      | (refine WC.block ?_)
      | (refine WT.em2 rfl (by intro hp; simp only [hp, decide_true]; rfl) (by intro hp; simp only [hp, decide_false]; rfl) (fun hp => ?_) (fun hp => ?_) <;> try (exfalso; first | omega | contradiction))
      | (refine WO.em2 rfl (by intro hp; simp only [hp, decide_true]; rfl) (by intro hp; simp only [hp, decide_false]; rfl) (fun hp => ?_) (fun hp => ?_) <;> try (exfalso; first | omega | contradiction))
      | (refine WC.em2 rfl (fun hp => ?_) (fun hp => ?_) <;> try (exfalso; first | omega | contradiction)))
    refine WC.loop ?_
    repeat' (first
      | (refine WO.yes rfl ?_)
      | (refine WO.noE rfl (by simp only [pt8, pt0, pt1, pt2, pt3, pt4, pt5, pt6, pt7]; rfl) ?_)
      | (refine WO.opE (by intro; simp (disch := omega) only [go_sem, zeros, Zz.cut, List.append_assoc, List.length_append, Nat.reduceAdd, Nat.reduceMul, Nat.reduceSub, Nat.reduceLeDiff, Nat.reduceEqDiff, Int.reduceNeg, Int.reduceAdd, Int.reduceToNat, reduceIte, reduceCtorEq, tab_k, tab_f, tab_b, Nat.mul_one, tab_len, over_tab, cut_tab, ia_sref, nilEqAV, lk0, lk1, lk2, lk3, st0, st1, st2, st3, hc.atI, tmod_nat, if_neg]; rfl) (by simp only [pt8, pt0, pt1, pt2, pt3, pt4, pt5, pt6, pt7]; rfl) ?_)
      | (refine WO.opN (by intro; simp (disch := omega) only [go_sem, zeros, Zz.cut, List.append_assoc, List.length_append, Nat.reduceAdd, Nat.reduceMul, Nat.reduceSub, Nat.reduceLeDiff, Nat.reduceEqDiff, Int.reduceNeg, Int.reduceAdd, Int.reduceToNat, reduceIte, reduceCtorEq, tab_k, tab_f, tab_b, Nat.mul_one, tab_len, over_tab, cut_tab, ia_sref, nilEqAV, lk0, lk1, lk2, lk3, st0, st1, st2, st3, hc.atI, tmod_nat, if_neg]; rfl) ?_)
      | (refine WO.opE (by intro; exact ev_lenS (by simp only [go_sem]; first | rfl | assumption)) (by simp only [pt8, pt0, pt1, pt2, pt3, pt4, pt5, pt6, pt7]; rfl) ?_)
      | (refine WO.opE (by intro; exact ev_lenS (by simp only [go_sem]; exact hlen)) (by simp only [pt8, pt0, pt1, pt2, pt3, pt4, pt5, pt6, pt7]; rfl) ?_)
      | (refine WO.opE (by intro; exact ev_lenS (by simp only [go_sem]; exact hclen)) (by simp only [pt8, pt0, pt1, pt2, pt3, pt4, pt5, pt6, pt7]; rfl) ?_)
      | (refine WC.seq ?_)
      | (refine WC.region ?_)
      | (refine WO.nil ?_)
      | (simp only [fl1, fl2, fl3, fl4, fl5, fl6, fl7, fl8, fl9, fl10, Nat.reduceBEq])
      | (refine WC.calm rfl ?_)
      | (refine WC.drawT ?_)
      | (refine WT.nil ?_)
      | (refine WT.yes rfl ?_)
      | (refine WT.no rfl (by simp only [pt8, pt0, pt1, pt2, pt3, pt4, pt5, pt6, pt7]; rfl) ?_)
      | (refine WT.free rfl (by intro; simp (disch := omega) only [go_sem, zeros, Zz.cut, List.append_assoc, List.length_append, Nat.reduceAdd, Nat.reduceMul, Nat.reduceSub, Nat.reduceLeDiff, Nat.reduceEqDiff, Int.reduceNeg, Int.reduceAdd, Int.reduceToNat, reduceIte, reduceCtorEq, tab_k, tab_f, tab_b, Nat.mul_one, tab_len, over_tab, cut_tab, ia_sref, nilEqAV, lk0, lk1, lk2, lk3, st0, st1, st2, st3, hc.atI, tmod_nat, if_neg]; rfl) rfl (by simp only [pt8, pt0, pt1, pt2, pt3, pt4, pt5, pt6, pt7]; rfl) ?_)
      | (refine WT.big rfl rfl (by intro; simp (disch := omega) only [go_sem, zeros, Zz.cut, List.append_assoc, List.length_append, Nat.reduceAdd, Nat.reduceMul, Nat.reduceSub, Nat.reduceLeDiff, Nat.reduceEqDiff, Int.reduceNeg, Int.reduceAdd, Int.reduceToNat, reduceIte, reduceCtorEq, tab_k, tab_f, tab_b, Nat.mul_one, tab_len, over_tab, cut_tab, ia_sref, nilEqAV, lk0, lk1, lk2, lk3, st0, st1, st2, st3, hc.atI, tmod_nat, if_neg]; rfl) (by simp (disch := omega) only [go_sem, zeros, Zz.cut, List.append_assoc, List.length_append, Nat.reduceAdd, Nat.reduceMul, Nat.reduceSub, Nat.reduceLeDiff, Nat.reduceEqDiff, Int.reduceNeg, Int.reduceAdd, Int.reduceToNat, reduceIte, reduceCtorEq, tab_k, tab_f, tab_b, Nat.mul_one, tab_len, over_tab, cut_tab, ia_sref, nilEqAV, lk0, lk1, lk2, lk3, st0, st1, st2, st3, hc.atI, tmod_nat, if_neg, touch]; rfl) (by first | exact .inl rfl | exact .inr (apart_nil _) | (right; apply apart_mk; simp only [apartL, List.nil_append, List.cons_append, List.getElem?_cons_succ, List.getElem?_cons_zero, Tch.free, and_true, true_and]; first | done | omega)) (by simp only [pt8, pt0, pt1, pt2, pt3, pt4, pt5, pt6, pt7]; rfl) ?_)
      | (refine WT.bigN rfl rfl (by intro; simp (disch := omega) only [go_sem, zeros, Zz.cut, List.append_assoc, List.length_append, Nat.reduceAdd, Nat.reduceMul, Nat.reduceSub, Nat.reduceLeDiff, Nat.reduceEqDiff, Int.reduceNeg, Int.reduceAdd, Int.reduceToNat, reduceIte, reduceCtorEq, tab_k, tab_f, tab_b, Nat.mul_one, tab_len, over_tab, cut_tab, ia_sref, nilEqAV, lk0, lk1, lk2, lk3, st0, st1, st2, st3, hc.atI, tmod_nat, if_neg]; rfl) (by simp (disch := omega) only [go_sem, zeros, Zz.cut, List.append_assoc, List.length_append, Nat.reduceAdd, Nat.reduceMul, Nat.reduceSub, Nat.reduceLeDiff, Nat.reduceEqDiff, Int.reduceNeg, Int.reduceAdd, Int.reduceToNat, reduceIte, reduceCtorEq, tab_k, tab_f, tab_b, Nat.mul_one, tab_len, over_tab, cut_tab, ia_sref, nilEqAV, lk0, lk1, lk2, lk3, st0, st1, st2, st3, hc.atI, tmod_nat, if_neg, touch]; rfl) (by first | exact .inl rfl | exact .inr (apart_nil _) | (right; apply apart_mk; simp only [apartL, List.nil_append, List.cons_append, List.getElem?_cons_succ, List.getElem?_cons_zero, Tch.free, and_true, true_and]; first | done | omega)) ?_)
      | (refine WC.yes rfl ?_)
      | (refine WC.no rfl ?_)
      | (refine WC.skip ?_)
      | (refine WC.exit ?_)
      | (refine WC.ret ?_)
      | (refine WC.block ?_)
      | (refine WT.em2 rfl (by intro hp; simp only [hp, decide_true]; rfl) (by intro hp; simp only [hp, decide_false]; rfl) (fun hp => ?_) (fun hp => ?_) <;> try (exfalso; first | omega | contradiction))
      | (refine WO.em2 rfl (by intro hp; simp only [hp, decide_true]; rfl) (by intro hp; simp only [hp, decide_false]; rfl) (fun hp => ?_) (fun hp => ?_) <;> try (exfalso; first | omega | contradiction))
      | (refine WC.em2 rfl (fun hp => ?_) (fun hp => ?_) <;> try (exfalso; first | omega | contradiction)))
    iterate 3
      (· exact ⟨_, rfl, false, ⟨fun h => (by cases h), fun h => absurd (h.num _ hm1) (by unfold Num; omega)⟩, rfl⟩)
    have hk1 : Num rs (cs.getD i 0) := ⟨by omega, by omega, by omega⟩
    refine WC.loop ?_
    repeat' (first
      | (refine WO.yes rfl ?_)
      | (refine WO.noE rfl (by simp only [pt8, pt0, pt1, pt2, pt3, pt4, pt5, pt6, pt7]; rfl) ?_)
      | (refine WO.opE (by intro; simp (disch := omega) only [go_sem, zeros, Zz.cut, List.append_assoc, List.length_append, Nat.reduceAdd, Nat.reduceMul, Nat.reduceSub, Nat.reduceLeDiff, Nat.reduceEqDiff, Int.reduceNeg, Int.reduceAdd, Int.reduceToNat, reduceIte, reduceCtorEq, tab_k, tab_f, tab_b, Nat.mul_one, tab_len, over_tab, cut_tab, ia_sref, nilEqAV, lk0, lk1, lk2, lk3, st0, st1, st2, st3, hc.atI, tmod_nat, if_neg]; rfl) (by simp only [pt8, pt0, pt1, pt2, pt3, pt4, pt5, pt6, pt7]; rfl) ?_)
      | (refine WO.opN (by intro; simp (disch := omega) only [go_sem, zeros, Zz.cut, List.append_assoc, List.length_append, Nat.reduceAdd, Nat.reduceMul, Nat.reduceSub, Nat.reduceLeDiff, Nat.reduceEqDiff, Int.reduceNeg, Int.reduceAdd, Int.reduceToNat, reduceIte, reduceCtorEq, tab_k, tab_f, tab_b, Nat.mul_one, tab_len, over_tab, cut_tab, ia_sref, nilEqAV, lk0, lk1, lk2, lk3, st0, st1, st2, st3, hc.atI, tmod_nat, if_neg]; rfl) ?_)
      | (refine WO.opE (by intro; exact ev_lenS (by simp only [go_sem]; first | rfl | assumption)) (by simp only [pt8, pt0, pt1, pt2, pt3, pt4, pt5, pt6, pt7]; rfl) ?_)
      | (refine WO.opE (by intro; exact ev_lenS (by simp only [go_sem]; exact hlen)) (by simp only [pt8, pt0, pt1, pt2, pt3, pt4, pt5, pt6, pt7]; rfl) ?_)
      | (refine WO.opE (by intro; exact ev_lenS (by simp only [go_sem]; exact hclen)) (by simp only [pt8, pt0, pt1, pt2, pt3, pt4, pt5, pt6, pt7]; rfl) ?_)
      | (refine WC.seq ?_)
      | (refine WC.region ?_)
      | (refine WO.nil ?_)
      | (simp only [fl1, fl2, fl3, fl4, fl5, fl6, fl7, fl8, fl9, fl10, Nat.reduceBEq])
      | (refine WC.calm rfl ?_)
      | (refine WC.drawT ?_)
      | (refine WT.nil ?_)
      | (refine WT.yes rfl ?_)
      | (refine WT.no rfl (by simp only [pt8, pt0, pt1, pt2, pt3, pt4, pt5, pt6, pt7]; rfl) ?_)
      | (refine WT.free rfl (by intro; simp (disch := omega) only [go_sem, zeros, Zz.cut, List.append_assoc, List.length_append, Nat.reduceAdd, Nat.reduceMul, Nat.reduceSub, Nat.reduceLeDiff, Nat.reduceEqDiff, Int.reduceNeg, Int.reduceAdd, Int.reduceToNat, reduceIte, reduceCtorEq, tab_k, tab_f, tab_b, Nat.mul_one, tab_len, over_tab, cut_tab, ia_sref, nilEqAV, lk0, lk1, lk2, lk3, st0, st1, st2, st3, hc.atI, tmod_nat, if_neg]; rfl) rfl (by simp only [pt8, pt0, pt1, pt2, pt3, pt4, pt5, pt6, pt7]; rfl) ?_)
      | (refine WT.big rfl rfl (by intro; simp (disch := omega) only [go_sem, zeros, Zz.cut, List.append_assoc, List.length_append, Nat.reduceAdd, Nat.reduceMul, Nat.reduceSub, Nat.reduceLeDiff, Nat.reduceEqDiff, Int.reduceNeg, Int.reduceAdd, Int.reduceToNat, reduceIte, reduceCtorEq, tab_k, tab_f, tab_b, Nat.mul_one, tab_len, over_tab, cut_tab, ia_sref, nilEqAV, lk0, lk1, lk2, lk3, st0, st1, st2, st3, hc.atI, tmod_nat, if_neg]; rfl) (by simp (disch := omega) only [go_sem, zeros, Zz.cut, List.append_assoc, List.length_append, Nat.reduceAdd, Nat.reduceMul, Nat.reduceSub, Nat.reduceLeDiff, Nat.reduceEqDiff, Int.reduceNeg, Int.reduceAdd, Int.reduceToNat, reduceIte, reduceCtorEq, tab_k, tab_f, tab_b, Nat.mul_one, tab_len, over_tab, cut_tab, ia_sref, nilEqAV, lk0, lk1, lk2, lk3, st0, st1, st2, st3, hc.atI, tmod_nat, if_neg, touch]; rfl) (by first | exact .inl rfl | exact .inr (apart_nil _) | (right; apply apart_mk; simp only [apartL, List.nil_append, List.cons_append, List.getElem?_cons_succ, List.getElem?_cons_zero, Tch.free, and_true, true_and]; first | done | omega)) (by simp only [pt8, pt0, pt1, pt2, pt3, pt4, pt5, pt6, pt7]; rfl) ?_)
      | (refine WT.bigN rfl rfl (by intro; simp (disch := omega) only [go_sem, zeros, Zz.cut, List.append_assoc, List.length_append, Nat.reduceAdd, Nat.reduceMul, Nat.reduceSub, Nat.reduceLeDiff, Nat.reduceEqDiff, Int.reduceNeg, Int.reduceAdd, Int.reduceToNat, reduceIte, reduceCtorEq, tab_k, tab_f, tab_b, Nat.mul_one, tab_len, over_tab, cut_tab, ia_sref, nilEqAV, lk0, lk1, lk2, lk3, st0, st1, st2, st3, hc.atI, tmod_nat, if_neg]; rfl) (by simp (disch := omega) only [go_sem, zeros, Zz.cut, List.append_assoc, List.length_append, Nat.reduceAdd, Nat.reduceMul, Nat.reduceSub, Nat.reduceLeDiff, Nat.reduceEqDiff, Int.reduceNeg, Int.reduceAdd, Int.reduceToNat, reduceIte, reduceCtorEq, tab_k, tab_f, tab_b, Nat.mul_one, tab_len, over_tab, cut_tab, ia_sref, nilEqAV, lk0, lk1, lk2, lk3, st0, st1, st2, st3, hc.atI, tmod_nat, if_neg, touch]; rfl) (by first | exact .inl rfl | exact .inr (apart_nil _) | (right; apply apart_mk; simp only [apartL, List.nil_append, List.cons_append, List.getElem?_cons_succ, List.getElem?_cons_zero, Tch.free, and_true, true_and]; first | done | omega)) ?_)
      | (refine WC.yes rfl ?_)
      | (refine WC.no rfl ?_)
      | (refine WC.skip ?_)
      | (refine WC.exit ?_)
      | (refine WC.ret ?_)
      | (refine WC.block ?_)
      | (refine WT.em2 rfl (by intro hp; simp only [hp, decide_true]; rfl) (by intro hp; simp only [hp, decide_false]; rfl) (fun hp => ?_) (fun hp => ?_) <;> try (exfalso; first | omega | contradiction))
      | (refine WO.em2 rfl (by intro hp; simp only [hp, decide_true]; rfl) (by intro hp; simp only [hp, decide_false]; rfl) (fun hp => ?_) (fun hp => ?_) <;> try (exfalso; first | omega | contradiction))
      | (refine WC.em2 rfl (fun hp => ?_) (fun hp => ?_) <;> try (exfalso; first | omega | contradiction)))
    iterate 3
      (· exact ⟨_, rfl, false, ⟨fun h => (by cases h), fun h => absurd (h.num _ hm2) (by unfold Num; omega)⟩, rfl⟩)
    obtain ⟨ow1, ow2⟩ := (okNum hv hk1).2.2.2.2.2
    have hk2 : Num rs (cs.getD ((i + 1) % cs.length) 0) := ⟨by omega, by omega, by omega⟩
    refine WC.loop ?_
    repeat' (first
      | (refine WO.yes rfl ?_)
      | (refine WO.noE rfl (by simp only [pt8, pt0, pt1, pt2, pt3, pt4, pt5, pt6, pt7]; rfl) ?_)
      | (refine WO.opE (by intro; simp (disch := omega) only [go_sem, zeros, Zz.cut, List.append_assoc, List.length_append, Nat.reduceAdd, Nat.reduceMul, Nat.reduceSub, Nat.reduceLeDiff, Nat.reduceEqDiff, Int.reduceNeg, Int.reduceAdd, Int.reduceToNat, reduceIte, reduceCtorEq, tab_k, tab_f, tab_b, Nat.mul_one, tab_len, over_tab, cut_tab, ia_sref, nilEqAV, lk0, lk1, lk2, lk3, st0, st1, st2, st3, hc.atI, tmod_nat, if_neg]; rfl) (by simp only [pt8, pt0, pt1, pt2, pt3, pt4, pt5, pt6, pt7]; rfl) ?_)
      | (refine WO.opN (by intro; simp (disch := omega) only [go_sem, zeros, Zz.cut, List.append_assoc, List.length_append, Nat.reduceAdd, Nat.reduceMul, Nat.reduceSub, Nat.reduceLeDiff, Nat.reduceEqDiff, Int.reduceNeg, Int.reduceAdd, Int.reduceToNat, reduceIte, reduceCtorEq, tab_k, tab_f, tab_b, Nat.mul_one, tab_len, over_tab, cut_tab, ia_sref, nilEqAV, lk0, lk1, lk2, lk3, st0, st1, st2, st3, hc.atI, tmod_nat, if_neg]; rfl) ?_)
      | (refine WO.opE (by intro; exact ev_lenS (by simp only [go_sem]; first | rfl | assumption)) (by simp only [pt8, pt0, pt1, pt2, pt3, pt4, pt5, pt6, pt7]; rfl) ?_)
      | (refine WO.opE (by intro; exact ev_lenS (by simp only [go_sem]; exact hlen)) (by simp only [pt8, pt0, pt1, pt2, pt3, pt4, pt5, pt6, pt7]; rfl) ?_)
      | (refine WO.opE (by intro; exact ev_lenS (by simp only [go_sem]; exact hclen)) (by simp only [pt8, pt0, pt1, pt2, pt3, pt4, pt5, pt6, pt7]; rfl) ?_)
      | (refine WO.specE rfl rfl (s35 hv hl hk1) (by simp only [pt8, pt0, pt1, pt2, pt3, pt4, pt5, pt6, pt7]; rfl) ?_)
      | (refine WT.spec rfl rfl (fun V => s35 hv hl hk2) (by simp only [pt8, pt0, pt1, pt2, pt3, pt4, pt5, pt6, pt7]; rfl) ?_)
      | (refine WC.seq ?_)
      | (refine WC.region ?_)
      | (refine WO.nil ?_)
      | (simp only [fl1, fl2, fl3, fl4, fl5, fl6, fl7, fl8, fl9, fl10, Nat.reduceBEq])
      | (refine WC.calm rfl ?_)
      | (refine WC.drawT ?_)
      | (refine WT.nil ?_)
      | (refine WT.yes rfl ?_)
      | (refine WT.no rfl (by simp only [pt8, pt0, pt1, pt2, pt3, pt4, pt5, pt6, pt7]; rfl) ?_)
      | (refine WT.free rfl (by intro; simp (disch := omega) only [go_sem, zeros, Zz.cut, List.append_assoc, List.length_append, Nat.reduceAdd, Nat.reduceMul, Nat.reduceSub, Nat.reduceLeDiff, Nat.reduceEqDiff, Int.reduceNeg, Int.reduceAdd, Int.reduceToNat, reduceIte, reduceCtorEq, tab_k, tab_f, tab_b, Nat.mul_one, tab_len, over_tab, cut_tab, ia_sref, nilEqAV, lk0, lk1, lk2, lk3, st0, st1, st2, st3, hc.atI, tmod_nat, if_neg]; rfl) rfl (by simp only [pt8, pt0, pt1, pt2, pt3, pt4, pt5, pt6, pt7]; rfl) ?_)
      | (refine WT.big rfl rfl (by intro; simp (disch := omega) only [go_sem, zeros, Zz.cut, List.append_assoc, List.length_append, Nat.reduceAdd, Nat.reduceMul, Nat.reduceSub, Nat.reduceLeDiff, Nat.reduceEqDiff, Int.reduceNeg, Int.reduceAdd, Int.reduceToNat, reduceIte, reduceCtorEq, tab_k, tab_f, tab_b, Nat.mul_one, tab_len, over_tab, cut_tab, ia_sref, nilEqAV, lk0, lk1, lk2, lk3, st0, st1, st2, st3, hc.atI, tmod_nat, if_neg]; rfl) (by simp (disch := omega) only [go_sem, zeros, Zz.cut, List.append_assoc, List.length_append, Nat.reduceAdd, Nat.reduceMul, Nat.reduceSub, Nat.reduceLeDiff, Nat.reduceEqDiff, Int.reduceNeg, Int.reduceAdd, Int.reduceToNat, reduceIte, reduceCtorEq, tab_k, tab_f, tab_b, Nat.mul_one, tab_len, over_tab, cut_tab, ia_sref, nilEqAV, lk0, lk1, lk2, lk3, st0, st1, st2, st3, hc.atI, tmod_nat, if_neg, touch]; rfl) (by first | exact .inl rfl | exact .inr (apart_nil _) | (right; apply apart_mk; simp only [apartL, List.nil_append, List.cons_append, List.getElem?_cons_succ, List.getElem?_cons_zero, Tch.free, and_true, true_and]; first | done | omega)) (by simp only [pt8, pt0, pt1, pt2, pt3, pt4, pt5, pt6, pt7]; rfl) ?_)
      | (refine WT.bigN rfl rfl (by intro; simp (disch := omega) only [go_sem, zeros, Zz.cut, List.append_assoc, List.length_append, Nat.reduceAdd, Nat.reduceMul, Nat.reduceSub, Nat.reduceLeDiff, Nat.reduceEqDiff, Int.reduceNeg, Int.reduceAdd, Int.reduceToNat, reduceIte, reduceCtorEq, tab_k, tab_f, tab_b, Nat.mul_one, tab_len, over_tab, cut_tab, ia_sref, nilEqAV, lk0, lk1, lk2, lk3, st0, st1, st2, st3, hc.atI, tmod_nat, if_neg]; rfl) (by simp (disch := omega) only [go_sem, zeros, Zz.cut, List.append_assoc, List.length_append, Nat.reduceAdd, Nat.reduceMul, Nat.reduceSub, Nat.reduceLeDiff, Nat.reduceEqDiff, Int.reduceNeg, Int.reduceAdd, Int.reduceToNat, reduceIte, reduceCtorEq, tab_k, tab_f, tab_b, Nat.mul_one, tab_len, over_tab, cut_tab, ia_sref, nilEqAV, lk0, lk1, lk2, lk3, st0, st1, st2, st3, hc.atI, tmod_nat, if_neg, touch]; rfl) (by first | exact .inl rfl | exact .inr (apart_nil _) | (right; apply apart_mk; simp only [apartL, List.nil_append, List.cons_append, List.getElem?_cons_succ, List.getElem?_cons_zero, Tch.free, and_true, true_and]; first | done | omega)) ?_)
      | (refine WC.yes rfl ?_)
      | (refine WC.no rfl ?_)
      | (refine WC.skip ?_)
      | (refine WC.exit ?_)
      | (refine WC.ret ?_)
      | (refine WC.block ?_)
      | (refine WT.em2 rfl (by intro hp; simp only [hp, decide_true]; rfl) (by intro hp; simp only [hp, decide_false]; rfl) (fun hp => ?_) (fun hp => ?_) <;> try (exfalso; first | omega | contradiction))
      | (refine WO.em2 rfl (by intro hp; simp only [hp, decide_true]; rfl) (by intro hp; simp only [hp, decide_false]; rfl) (fun hp => ?_) (fun hp => ?_) <;> try (exfalso; first | omega | contradiction))
      | (refine WC.em2 rfl (fun hp => ?_) (fun hp => ?_) <;> try (exfalso; first | omega | contradiction)))
    · exact ⟨_, rfl, false, ⟨fun h => (by cases h), fun h => absurd (h.link i hin) hp⟩, rfl⟩
    · have hps := psum_succ (rs := rs) hin
      rw [← hps]
      exact ⟨m - 1, by omega, _, _, i + 1, rfl, rfl, rfl, rfl, rfl, rfl, rfl, rfl, by omega, by omega, fun j hj => by
        by_cases e : j = i
        · subst e; exact ⟨hk1, Decidable.of_not_not hp⟩
        · exact hpre j (by omega), by rw [hps]; omega, by rw [hps]; omega⟩
  · have hin' : i = cs.length := by omega
    subst hin'
    have hs0 : psum rs cs cs.length = (cs.map (stW rs)).sum := by unfold psum; rw [List.take_length]
    repeat' (first
      | (refine WO.yes rfl ?_)
      | (refine WO.noE rfl (by simp only [pt8, pt0, pt1, pt2, pt3, pt4, pt5, pt6, pt7]; rfl) ?_)
      | (refine WO.opE (by intro; simp (disch := omega) only [go_sem, zeros, Zz.cut, List.append_assoc, List.length_append, Nat.reduceAdd, Nat.reduceMul, Nat.reduceSub, Nat.reduceLeDiff, Nat.reduceEqDiff, Int.reduceNeg, Int.reduceAdd, Int.reduceToNat, reduceIte, reduceCtorEq, tab_k, tab_f, tab_b, Nat.mul_one, tab_len, over_tab, cut_tab, ia_sref, nilEqAV, lk0, lk1, lk2, lk3, st0, st1, st2, st3]; rfl) (by simp only [pt8, pt0, pt1, pt2, pt3, pt4, pt5, pt6, pt7]; rfl) ?_)
      | (refine WO.opN (by intro; simp (disch := omega) only [go_sem, zeros, Zz.cut, List.append_assoc, List.length_append, Nat.reduceAdd, Nat.reduceMul, Nat.reduceSub, Nat.reduceLeDiff, Nat.reduceEqDiff, Int.reduceNeg, Int.reduceAdd, Int.reduceToNat, reduceIte, reduceCtorEq, tab_k, tab_f, tab_b, Nat.mul_one, tab_len, over_tab, cut_tab, ia_sref, nilEqAV, lk0, lk1, lk2, lk3, st0, st1, st2, st3]; rfl) ?_)
      | (refine WO.opE (by intro; exact ev_lenS (by simp only [go_sem]; first | rfl | assumption)) (by simp only [pt8, pt0, pt1, pt2, pt3, pt4, pt5, pt6, pt7]; rfl) ?_)
      | (refine WC.seq ?_)
      | (refine WC.region ?_)
      | (refine WO.nil ?_)
      | (simp only [fl1, fl2, fl3, fl4, fl5, fl6, fl7, fl8, fl9, fl10, Nat.reduceBEq])
      | (refine WC.calm rfl ?_)
      | (refine WC.drawT ?_)
      | (refine WT.nil ?_)
      | (refine WT.yes rfl ?_)
      | (refine WT.no rfl (by simp only [pt8, pt0, pt1, pt2, pt3, pt4, pt5, pt6, pt7]; rfl) ?_)
      | (refine WT.free rfl (by intro; simp (disch := omega) only [go_sem, zeros, Zz.cut, List.append_assoc, List.length_append, Nat.reduceAdd, Nat.reduceMul, Nat.reduceSub, Nat.reduceLeDiff, Nat.reduceEqDiff, Int.reduceNeg, Int.reduceAdd, Int.reduceToNat, reduceIte, reduceCtorEq, tab_k, tab_f, tab_b, Nat.mul_one, tab_len, over_tab, cut_tab, ia_sref, nilEqAV, lk0, lk1, lk2, lk3, st0, st1, st2, st3]; rfl) rfl (by simp only [pt8, pt0, pt1, pt2, pt3, pt4, pt5, pt6, pt7]; rfl) ?_)
      | (refine WT.big rfl rfl (by intro; simp (disch := omega) only [go_sem, zeros, Zz.cut, List.append_assoc, List.length_append, Nat.reduceAdd, Nat.reduceMul, Nat.reduceSub, Nat.reduceLeDiff, Nat.reduceEqDiff, Int.reduceNeg, Int.reduceAdd, Int.reduceToNat, reduceIte, reduceCtorEq, tab_k, tab_f, tab_b, Nat.mul_one, tab_len, over_tab, cut_tab, ia_sref, nilEqAV, lk0, lk1, lk2, lk3, st0, st1, st2, st3]; rfl) (by simp (disch := omega) only [go_sem, zeros, Zz.cut, List.append_assoc, List.length_append, Nat.reduceAdd, Nat.reduceMul, Nat.reduceSub, Nat.reduceLeDiff, Nat.reduceEqDiff, Int.reduceNeg, Int.reduceAdd, Int.reduceToNat, reduceIte, reduceCtorEq, tab_k, tab_f, tab_b, Nat.mul_one, tab_len, over_tab, cut_tab, ia_sref, nilEqAV, lk0, lk1, lk2, lk3, st0, st1, st2, st3, touch]; rfl) (by first | exact .inl rfl | exact .inr (apart_nil _) | (right; apply apart_mk; simp only [apartL, List.nil_append, List.cons_append, List.getElem?_cons_succ, List.getElem?_cons_zero, Tch.free, and_true, true_and]; first | done | omega)) (by simp only [pt8, pt0, pt1, pt2, pt3, pt4, pt5, pt6, pt7]; rfl) ?_)
      | (refine WT.bigN rfl rfl (by intro; simp (disch := omega) only [go_sem, zeros, Zz.cut, List.append_assoc, List.length_append, Nat.reduceAdd, Nat.reduceMul, Nat.reduceSub, Nat.reduceLeDiff, Nat.reduceEqDiff, Int.reduceNeg, Int.reduceAdd, Int.reduceToNat, reduceIte, reduceCtorEq, tab_k, tab_f, tab_b, Nat.mul_one, tab_len, over_tab, cut_tab, ia_sref, nilEqAV, lk0, lk1, lk2, lk3, st0, st1, st2, st3]; rfl) (by simp (disch := omega) only [go_sem, zeros, Zz.cut, List.append_assoc, List.length_append, Nat.reduceAdd, Nat.reduceMul, Nat.reduceSub, Nat.reduceLeDiff, Nat.reduceEqDiff, Int.reduceNeg, Int.reduceAdd, Int.reduceToNat, reduceIte, reduceCtorEq, tab_k, tab_f, tab_b, Nat.mul_one, tab_len, over_tab, cut_tab, ia_sref, nilEqAV, lk0, lk1, lk2, lk3, st0, st1, st2, st3, touch]; rfl) (by first | exact .inl rfl | exact .inr (apart_nil _) | (right; apply apart_mk; simp only [apartL, List.nil_append, List.cons_append, List.getElem?_cons_succ, List.getElem?_cons_zero, Tch.free, and_true, true_and]; first | done | omega)) ?_)
      | (refine WC.yes rfl ?_)
      | (refine WC.no rfl ?_)
      | (refine WC.skip ?_)
      | (refine WC.exit ?_)
      | (refine WC.ret ?_)
      | (refine WC.block ?_)
      | (refine WT.em2 rfl (by intro hp; simp only [hp, decide_true]; rfl) (by intro hp; simp only [hp, decide_false]; rfl) (fun hp => ?_) (fun hp => ?_) <;> try (exfalso; first | omega | contradiction))
      | (refine WO.em2 rfl (by intro hp; simp only [hp, decide_true]; rfl) (by intro hp; simp only [hp, decide_false]; rfl) (fun hp => ?_) (fun hp => ?_) <;> try (exfalso; first | omega | contradiction))
      | (refine WC.em2 rfl (fun hp => ?_) (fun hp => ?_) <;> try (exfalso; first | omega | contradiction)))
    refine ⟨_, rfl, decide (psum rs cs cs.length < 0), ?_, rfl⟩
    rw [decide_eq_true_iff]
    constructor
    · intro hneg
      refine ⟨fun e => by subst e; simp at hc0, by omega, fun s hs => ?_, fun j hj => (hpre j hj).2, by rw [← hs0]; exact hneg⟩
      obtain ⟨j, hj, rfl⟩ := List.getElem_of_mem hs
      have := (hpre j hj).1
      rwa [List.getD_eq_getElem?_getD, List.getElem?_eq_getElem hj] at this
    · intro h
      rw [hs0]
      exact h.neg

theorem f18bad {n : Int} {rs : List Rg} (hv : ¬ VL n rs) {l : AV} (hl : RdL l rs) (hmax : rs.length < 9223372036854775808) {c : AV} : WF E12 (.func 18 [] []) [.int .i64 n, l, c] ⟨[], []⟩ fun y m' => y = .tuple [.bool false, .int .i64 1] := by
  refine WF.fnE rfl (fn_of Try.func18 cir18) (by show 3 ≤ 83; decide) ?_
  unfold ir18
  simp only [padTo, List.replicate, List.nil_append, List.append_nil, List.cons_append]
  repeat' (first
    | (refine WO.yes rfl ?_)
    | (refine WO.noE rfl (by simp only [pt8, pt0, pt1, pt2, pt3, pt4, pt5, pt6, pt7]; rfl) ?_)
    | (refine WO.opE (by intro; simp (disch := omega) only [go_sem, Zz.look, Zz.over, Zz.cut, Nat.reduceAdd, Nat.reduceMul, Nat.reduceSub, Nat.reduceLeDiff, Nat.reduceEqDiff, Int.reduceNeg, Int.reduceAdd, Int.reduceToNat, reduceIte, reduceCtorEq, tab_k, tab_f, tab_b, Nat.mul_one, tab_len, over_tab, cut_tab, ia_sref, nilEqAV, lk0, lk1, lk2, lk3, st0, st1, st2, st3]; rfl) (by simp only [pt8, pt0, pt1, pt2, pt3, pt4, pt5, pt6, pt7]; rfl) ?_)
    | (refine WO.opN (by intro; simp (disch := omega) only [go_sem, Zz.look, Zz.over, Zz.cut, Nat.reduceAdd, Nat.reduceMul, Nat.reduceSub, Nat.reduceLeDiff, Nat.reduceEqDiff, Int.reduceNeg, Int.reduceAdd, Int.reduceToNat, reduceIte, reduceCtorEq, tab_k, tab_f, tab_b, Nat.mul_one, tab_len, over_tab, cut_tab, ia_sref, nilEqAV, lk0, lk1, lk2, lk3, st0, st1, st2, st3]; rfl) ?_)
    | (refine WO.opE (by intro; exact ev_lenS (by simp only [go_sem]; first | rfl | assumption)) (by simp only [pt8, pt0, pt1, pt2, pt3, pt4, pt5, pt6, pt7]; rfl) ?_)
    | (refine WO.specE rfl rfl (s12 hl hmax) (by simp only [pt8, pt0, pt1, pt2, pt3, pt4, pt5, pt6, pt7]; rfl) ?_)
    | (refine WC.seq ?_)
    | (refine WC.region ?_)
    | (refine WO.nil ?_)
    | (simp only [fl1, fl2, fl3, fl4, fl5, fl6, fl7, fl8, fl9, fl10, Nat.reduceBEq])
    | (refine WC.calm rfl ?_)
    | (refine WC.drawT ?_)
    | (refine WT.nil ?_)
    | (refine WT.yes rfl ?_)
    | (refine WT.no rfl (by simp only [pt8, pt0, pt1, pt2, pt3, pt4, pt5, pt6, pt7]; rfl) ?_)
    | (refine WT.free rfl (by intro; simp (disch := omega) only [go_sem, Zz.look, Zz.over, Zz.cut, Nat.reduceAdd, Nat.reduceMul, Nat.reduceSub, Nat.reduceLeDiff, Nat.reduceEqDiff, Int.reduceNeg, Int.reduceAdd, Int.reduceToNat, reduceIte, reduceCtorEq, tab_k, tab_f, tab_b, Nat.mul_one, tab_len, over_tab, cut_tab, ia_sref, nilEqAV, lk0, lk1, lk2, lk3, st0, st1, st2, st3]; rfl) rfl (by simp only [pt8, pt0, pt1, pt2, pt3, pt4, pt5, pt6, pt7]; rfl) ?_)
    | (refine WT.big rfl rfl (by intro; simp (disch := omega) only [go_sem, Zz.look, Zz.over, Zz.cut, Nat.reduceAdd, Nat.reduceMul, Nat.reduceSub, Nat.reduceLeDiff, Nat.reduceEqDiff, Int.reduceNeg, Int.reduceAdd, Int.reduceToNat, reduceIte, reduceCtorEq, tab_k, tab_f, tab_b, Nat.mul_one, tab_len, over_tab, cut_tab, ia_sref, nilEqAV, lk0, lk1, lk2, lk3, st0, st1, st2, st3]; rfl) (by simp (disch := omega) only [go_sem, Zz.look, Zz.over, Zz.cut, Nat.reduceAdd, Nat.reduceMul, Nat.reduceSub, Nat.reduceLeDiff, Nat.reduceEqDiff, Int.reduceNeg, Int.reduceAdd, Int.reduceToNat, reduceIte, reduceCtorEq, tab_k, tab_f, tab_b, Nat.mul_one, tab_len, over_tab, cut_tab, ia_sref, nilEqAV, lk0, lk1, lk2, lk3, st0, st1, st2, st3, touch]; rfl) (by first | exact .inl rfl | exact .inr (apart_nil _) | (right; apply apart_mk; simp only [apartL, List.nil_append, List.cons_append, List.getElem?_cons_succ, List.getElem?_cons_zero, Tch.free, and_true, true_and]; first | done | omega)) (by simp only [pt8, pt0, pt1, pt2, pt3, pt4, pt5, pt6, pt7]; rfl) ?_)
    | (refine WT.bigN rfl rfl (by intro; simp (disch := omega) only [go_sem, Zz.look, Zz.over, Zz.cut, Nat.reduceAdd, Nat.reduceMul, Nat.reduceSub, Nat.reduceLeDiff, Nat.reduceEqDiff, Int.reduceNeg, Int.reduceAdd, Int.reduceToNat, reduceIte, reduceCtorEq, tab_k, tab_f, tab_b, Nat.mul_one, tab_len, over_tab, cut_tab, ia_sref, nilEqAV, lk0, lk1, lk2, lk3, st0, st1, st2, st3]; rfl) (by simp (disch := omega) only [go_sem, Zz.look, Zz.over, Zz.cut, Nat.reduceAdd, Nat.reduceMul, Nat.reduceSub, Nat.reduceLeDiff, Nat.reduceEqDiff, Int.reduceNeg, Int.reduceAdd, Int.reduceToNat, reduceIte, reduceCtorEq, tab_k, tab_f, tab_b, Nat.mul_one, tab_len, over_tab, cut_tab, ia_sref, nilEqAV, lk0, lk1, lk2, lk3, st0, st1, st2, st3, touch]; rfl) (by first | exact .inl rfl | exact .inr (apart_nil _) | (right; apply apart_mk; simp only [apartL, List.nil_append, List.cons_append, List.getElem?_cons_succ, List.getElem?_cons_zero, Tch.free, and_true, true_and]; first | done | omega)) ?_)
    | (refine WC.yes rfl ?_)
    | (refine WC.no rfl ?_)
    | (refine WC.skip ?_)
    | (refine WC.exit ?_)
    | (refine WC.ret ?_)
    | (refine WC.block ?_)
    | (refine WT.em2 rfl (by intro hp; simp only [hp, decide_true]; rfl) (by intro hp; simp only [hp, decide_false]; rfl) (fun hp => ?_) (fun hp => ?_) <;> try (exfalso; first | omega | contradiction))
    | (refine WO.em2 rfl (by intro hp; simp only [hp, decide_true]; rfl) (by intro hp; simp only [hp, decide_false]; rfl) (fun hp => ?_) (fun hp => ?_) <;> try (exfalso; first | omega | contradiction))
    | (refine WC.em2 rfl (fun hp => ?_) (fun hp => ?_) <;> try (exfalso; first | omega | contradiction)))
  · exact ⟨_, rfl, rfl⟩

/-- Refutes. -/
theorem s18 {n : Int} {rs : List Rg} {l : AV} (hl : RdL l rs) (hmax : rs.length < 9223372036854775808) {c : AV} {cs : List Int} (hc : IntS c cs) (hcmax : cs.length < 9223372036854775808) :
    (¬ VL n rs → ∀ l' c' (m : Mem), byVal m.heap l' = some l → byVal m.heap c' = some c → borrowX E12 18 [.int .i64 n, l', c'] m = some (.tuple [.bool false, .int .i64 1], m)) ∧
    (VL n rs → ∃ b : Bool, (b = true ↔ Contra rs cs) ∧ ∀ l' c' (m : Mem), byVal m.heap l' = some l → byVal m.heap c' = some c → borrowX E12 18 [.int .i64 n, l', c'] m = some (.tuple [.bool b, .int .i64 0], m)) := by
  refine ⟨fun hv l' c' m h1 h2 => borrowX_of (byVals_cons rfl (byVals_cons h1 (byVals_cons h2 rfl))) ((f18bad hv hl hmax).mono fun y m' h => by rw [h]; rfl), fun hv => ?_⟩
  obtain ⟨k, y, m', h, b, hb, rfl⟩ := (f18 hv hl hc hcmax).ex
  exact ⟨b, hb, fun l' c' m h1 h2 => borrowX_of (byVals_cons rfl (byVals_cons h1 (byVals_cons h2 rfl))) ⟨⟨k, _, m', h, rfl⟩⟩⟩

noncomputable def E13 : Env := E12.put 18 (borrowX E12 18)
theorem E13_ok : EnvOk Try.prog E13 := Env.put_ok E12_ok (borrowX_ok E12_ok (callable Try.func18 (by kernel_rfl)))
end Go.Proofs.Ytndaljjljmmlcaa

set_option linter.unusedSimpArgs false
set_option linter.unusedVariables false
namespace Go.Proofs.Ytndaljjljmmlcaa
open Go.Zz
set_option maxRecDepth 100000
theorem cut2 {x0 x1 : AV} {l : List AV} : Zz.cut (x0 :: x1 :: l) 0 2 = some [x0, x1] := by simp [Zz.cut]
theorem cut40 {x : Bf.S} : Zz.cut (tab x) 40 40 = some (cellsI x.far) := by
  unfold Zz.cut
  rw [if_pos (by rw [tab_len]; omega)]
  unfold tab
  rw [List.drop_left' (by simp [cellsB]), List.take_left' (by simp [cellsI])]
theorem far_at {x : Bf.S} {i : Nat} (h : i < 40) : (cellsI x.far)[i]? = some (.int .i64 (x.far i)) := by simp [cellsI, h]
abbrev bv (lo hi e : Int) : AV := .tuple [.agg [.int .i64 lo, .int .i64 hi], .int .i64 e]
theorem f19bad {n a b : Int} {rs : List Rg} (hv : VL n rs → ¬ (0 ≤ a ∧ a < n ∧ 0 ≤ b ∧ b < n)) {l : AV} (hl : RdL l rs) (hmax : rs.length < 9223372036854775808) : WF E13 (.func 19 [] []) [.int .i64 n, l, .int .i64 a, .int .i64 b] ⟨[], []⟩ fun y m' => y = .tuple [.agg [.int .i64 0, .int .i64 0], .int .i64 1] := by
  refine WF.fnE rfl (fn_of Try.func19 cir19) (by show 4 ≤ 63; decide) ?_
  unfold ir19
  simp only [padTo, List.replicate, List.nil_append, List.append_nil, List.cons_append]
  by_cases hvv : VL n rs
  · have hb := hv hvv
    repeat' (first
      | (refine WO.yes rfl ?_)
      | (refine WO.noE rfl (by simp only [pt8, pt0, pt1, pt2, pt3, pt4, pt5, pt6, pt7]; rfl) ?_)
      | (refine WO.opE (by intro; simp (disch := omega) only [go_sem, Zz.look, Zz.over, Zz.cut, Nat.reduceAdd, Nat.reduceMul, Nat.reduceSub, Nat.reduceLeDiff, Nat.reduceEqDiff, Int.reduceNeg, Int.reduceAdd, Int.reduceToNat, reduceIte, reduceCtorEq, cut40, far_at, tab_k, tab_f, tab_b, Nat.mul_one, tab_len, over_tab, cut_tab, ia_sref, nilEqAV, lk0, lk1, lk2, lk3, st0, st1, st2, st3, Zz.look, z120]; rfl) (by simp only [pt8, pt0, pt1, pt2, pt3, pt4, pt5, pt6, pt7]; rfl) ?_)
      | (refine WO.opN (by intro; simp (disch := omega) only [go_sem, Zz.look, Zz.over, Zz.cut, Nat.reduceAdd, Nat.reduceMul, Nat.reduceSub, Nat.reduceLeDiff, Nat.reduceEqDiff, Int.reduceNeg, Int.reduceAdd, Int.reduceToNat, reduceIte, reduceCtorEq, cut40, far_at, tab_k, tab_f, tab_b, Nat.mul_one, tab_len, over_tab, cut_tab, ia_sref, nilEqAV, lk0, lk1, lk2, lk3, st0, st1, st2, st3, Zz.look, z120]; rfl) ?_)
      | (refine WO.opE (by intro; exact ev_lenS (by simp only [go_sem]; first | rfl | assumption)) (by simp only [pt8, pt0, pt1, pt2, pt3, pt4, pt5, pt6, pt7]; rfl) ?_)
      | (refine WO.specE rfl rfl (s12 hl hmax) (by simp only [pt8, pt0, pt1, pt2, pt3, pt4, pt5, pt6, pt7]; rfl) ?_)
      | (refine WC.seq ?_)
      | (refine WC.region ?_)
      | (refine WO.nil ?_)
      | (simp only [fl1, fl2, fl3, fl4, fl5, fl6, fl7, fl8, fl9, fl10, Nat.reduceBEq])
      | (refine WC.calm rfl ?_)
      | (refine WC.drawT ?_)
      | (refine WT.nil ?_)
      | (refine WT.yes rfl ?_)
      | (refine WT.no rfl (by simp only [pt8, pt0, pt1, pt2, pt3, pt4, pt5, pt6, pt7]; rfl) ?_)
      | (refine WT.free rfl (by intro; simp (disch := omega) only [go_sem, Zz.look, Zz.over, Zz.cut, Nat.reduceAdd, Nat.reduceMul, Nat.reduceSub, Nat.reduceLeDiff, Nat.reduceEqDiff, Int.reduceNeg, Int.reduceAdd, Int.reduceToNat, reduceIte, reduceCtorEq, cut40, far_at, tab_k, tab_f, tab_b, Nat.mul_one, tab_len, over_tab, cut_tab, ia_sref, nilEqAV, lk0, lk1, lk2, lk3, st0, st1, st2, st3, Zz.look, z120]; rfl) rfl (by simp only [pt8, pt0, pt1, pt2, pt3, pt4, pt5, pt6, pt7]; rfl) ?_)
      | (refine WT.big rfl rfl (by intro; simp (disch := omega) only [go_sem, Zz.look, Zz.over, Zz.cut, Nat.reduceAdd, Nat.reduceMul, Nat.reduceSub, Nat.reduceLeDiff, Nat.reduceEqDiff, Int.reduceNeg, Int.reduceAdd, Int.reduceToNat, reduceIte, reduceCtorEq, cut40, far_at, tab_k, tab_f, tab_b, Nat.mul_one, tab_len, over_tab, cut_tab, ia_sref, nilEqAV, lk0, lk1, lk2, lk3, st0, st1, st2, st3, Zz.look, z120]; rfl) (by simp (disch := omega) only [go_sem, Zz.look, Zz.over, Zz.cut, Nat.reduceAdd, Nat.reduceMul, Nat.reduceSub, Nat.reduceLeDiff, Nat.reduceEqDiff, Int.reduceNeg, Int.reduceAdd, Int.reduceToNat, reduceIte, reduceCtorEq, cut40, far_at, tab_k, tab_f, tab_b, Nat.mul_one, tab_len, over_tab, cut_tab, ia_sref, nilEqAV, lk0, lk1, lk2, lk3, st0, st1, st2, st3, Zz.look, z120, touch]; rfl) (by first | exact .inl rfl | exact .inr (apart_nil _) | (right; apply apart_mk; simp only [apartL, List.nil_append, List.cons_append, List.getElem?_cons_succ, List.getElem?_cons_zero, Tch.free, and_true, true_and]; first | done | omega)) (by simp only [pt8, pt0, pt1, pt2, pt3, pt4, pt5, pt6, pt7]; rfl) ?_)
      | (refine WT.bigN rfl rfl (by intro; simp (disch := omega) only [go_sem, Zz.look, Zz.over, Zz.cut, Nat.reduceAdd, Nat.reduceMul, Nat.reduceSub, Nat.reduceLeDiff, Nat.reduceEqDiff, Int.reduceNeg, Int.reduceAdd, Int.reduceToNat, reduceIte, reduceCtorEq, cut40, far_at, tab_k, tab_f, tab_b, Nat.mul_one, tab_len, over_tab, cut_tab, ia_sref, nilEqAV, lk0, lk1, lk2, lk3, st0, st1, st2, st3, Zz.look, z120]; rfl) (by simp (disch := omega) only [go_sem, Zz.look, Zz.over, Zz.cut, Nat.reduceAdd, Nat.reduceMul, Nat.reduceSub, Nat.reduceLeDiff, Nat.reduceEqDiff, Int.reduceNeg, Int.reduceAdd, Int.reduceToNat, reduceIte, reduceCtorEq, cut40, far_at, tab_k, tab_f, tab_b, Nat.mul_one, tab_len, over_tab, cut_tab, ia_sref, nilEqAV, lk0, lk1, lk2, lk3, st0, st1, st2, st3, Zz.look, z120, touch]; rfl) (by first | exact .inl rfl | exact .inr (apart_nil _) | (right; apply apart_mk; simp only [apartL, List.nil_append, List.cons_append, List.getElem?_cons_succ, List.getElem?_cons_zero, Tch.free, and_true, true_and]; first | done | omega)) ?_)
      | (refine WC.yes rfl ?_)
      | (refine WC.no rfl ?_)
      | (refine WC.skip ?_)
      | (refine WC.exit ?_)
      | (refine WC.ret ?_)
      | (refine WC.block ?_)
      | (refine WT.em2 rfl (by intro hp; simp only [hp, decide_true]; rfl) (by intro hp; simp only [hp, decide_false]; rfl) (fun hp => ?_) (fun hp => ?_) <;> try (exfalso; first | omega | contradiction))
      | (refine WO.em2 rfl (by intro hp; simp only [hp, decide_true]; rfl) (by intro hp; simp only [hp, decide_false]; rfl) (fun hp => ?_) (fun hp => ?_) <;> try (exfalso; first | omega | contradiction))
      | (refine WC.em2 rfl (fun hp => ?_) (fun hp => ?_) <;> try (exfalso; first | omega | contradiction)))
    · exact ⟨_, rfl, rfl⟩
    · exact ⟨_, rfl, rfl⟩
  repeat' (first
    | (refine WO.yes rfl ?_)
    | (refine WO.noE rfl (by simp only [pt8, pt0, pt1, pt2, pt3, pt4, pt5, pt6, pt7]; rfl) ?_)
    | (refine WO.opE (by intro; simp (disch := omega) only [go_sem, Zz.look, Zz.over, Zz.cut, Nat.reduceAdd, Nat.reduceMul, Nat.reduceSub, Nat.reduceLeDiff, Nat.reduceEqDiff, Int.reduceNeg, Int.reduceAdd, Int.reduceToNat, reduceIte, reduceCtorEq, cut40, far_at, tab_k, tab_f, tab_b, Nat.mul_one, tab_len, over_tab, cut_tab, ia_sref, nilEqAV, lk0, lk1, lk2, lk3, st0, st1, st2, st3, Zz.look, z120]; rfl) (by simp only [pt8, pt0, pt1, pt2, pt3, pt4, pt5, pt6, pt7]; rfl) ?_)
    | (refine WO.opN (by intro; simp (disch := omega) only [go_sem, Zz.look, Zz.over, Zz.cut, Nat.reduceAdd, Nat.reduceMul, Nat.reduceSub, Nat.reduceLeDiff, Nat.reduceEqDiff, Int.reduceNeg, Int.reduceAdd, Int.reduceToNat, reduceIte, reduceCtorEq, cut40, far_at, tab_k, tab_f, tab_b, Nat.mul_one, tab_len, over_tab, cut_tab, ia_sref, nilEqAV, lk0, lk1, lk2, lk3, st0, st1, st2, st3, Zz.look, z120]; rfl) ?_)
    | (refine WO.opE (by intro; exact ev_lenS (by simp only [go_sem]; first | rfl | assumption)) (by simp only [pt8, pt0, pt1, pt2, pt3, pt4, pt5, pt6, pt7]; rfl) ?_)
    | (refine WO.specE rfl rfl (s12 hl hmax) (by simp only [pt8, pt0, pt1, pt2, pt3, pt4, pt5, pt6, pt7]; rfl) ?_)
    | (refine WC.seq ?_)
    | (refine WC.region ?_)
    | (refine WO.nil ?_)
    | (simp only [fl1, fl2, fl3, fl4, fl5, fl6, fl7, fl8, fl9, fl10, Nat.reduceBEq])
    | (refine WC.calm rfl ?_)
    | (refine WC.drawT ?_)
    | (refine WT.nil ?_)
    | (refine WT.yes rfl ?_)
    | (refine WT.no rfl (by simp only [pt8, pt0, pt1, pt2, pt3, pt4, pt5, pt6, pt7]; rfl) ?_)
    | (refine WT.free rfl (by intro; simp (disch := omega) only [go_sem, Zz.look, Zz.over, Zz.cut, Nat.reduceAdd, Nat.reduceMul, Nat.reduceSub, Nat.reduceLeDiff, Nat.reduceEqDiff, Int.reduceNeg, Int.reduceAdd, Int.reduceToNat, reduceIte, reduceCtorEq, cut40, far_at, tab_k, tab_f, tab_b, Nat.mul_one, tab_len, over_tab, cut_tab, ia_sref, nilEqAV, lk0, lk1, lk2, lk3, st0, st1, st2, st3, Zz.look, z120]; rfl) rfl (by simp only [pt8, pt0, pt1, pt2, pt3, pt4, pt5, pt6, pt7]; rfl) ?_)
    | (refine WT.big rfl rfl (by intro; simp (disch := omega) only [go_sem, Zz.look, Zz.over, Zz.cut, Nat.reduceAdd, Nat.reduceMul, Nat.reduceSub, Nat.reduceLeDiff, Nat.reduceEqDiff, Int.reduceNeg, Int.reduceAdd, Int.reduceToNat, reduceIte, reduceCtorEq, cut40, far_at, tab_k, tab_f, tab_b, Nat.mul_one, tab_len, over_tab, cut_tab, ia_sref, nilEqAV, lk0, lk1, lk2, lk3, st0, st1, st2, st3, Zz.look, z120]; rfl) (by simp (disch := omega) only [go_sem, Zz.look, Zz.over, Zz.cut, Nat.reduceAdd, Nat.reduceMul, Nat.reduceSub, Nat.reduceLeDiff, Nat.reduceEqDiff, Int.reduceNeg, Int.reduceAdd, Int.reduceToNat, reduceIte, reduceCtorEq, cut40, far_at, tab_k, tab_f, tab_b, Nat.mul_one, tab_len, over_tab, cut_tab, ia_sref, nilEqAV, lk0, lk1, lk2, lk3, st0, st1, st2, st3, Zz.look, z120, touch]; rfl) (by first | exact .inl rfl | exact .inr (apart_nil _) | (right; apply apart_mk; simp only [apartL, List.nil_append, List.cons_append, List.getElem?_cons_succ, List.getElem?_cons_zero, Tch.free, and_true, true_and]; first | done | omega)) (by simp only [pt8, pt0, pt1, pt2, pt3, pt4, pt5, pt6, pt7]; rfl) ?_)
    | (refine WT.bigN rfl rfl (by intro; simp (disch := omega) only [go_sem, Zz.look, Zz.over, Zz.cut, Nat.reduceAdd, Nat.reduceMul, Nat.reduceSub, Nat.reduceLeDiff, Nat.reduceEqDiff, Int.reduceNeg, Int.reduceAdd, Int.reduceToNat, reduceIte, reduceCtorEq, cut40, far_at, tab_k, tab_f, tab_b, Nat.mul_one, tab_len, over_tab, cut_tab, ia_sref, nilEqAV, lk0, lk1, lk2, lk3, st0, st1, st2, st3, Zz.look, z120]; rfl) (by simp (disch := omega) only [go_sem, Zz.look, Zz.over, Zz.cut, Nat.reduceAdd, Nat.reduceMul, Nat.reduceSub, Nat.reduceLeDiff, Nat.reduceEqDiff, Int.reduceNeg, Int.reduceAdd, Int.reduceToNat, reduceIte, reduceCtorEq, cut40, far_at, tab_k, tab_f, tab_b, Nat.mul_one, tab_len, over_tab, cut_tab, ia_sref, nilEqAV, lk0, lk1, lk2, lk3, st0, st1, st2, st3, Zz.look, z120, touch]; rfl) (by first | exact .inl rfl | exact .inr (apart_nil _) | (right; apply apart_mk; simp only [apartL, List.nil_append, List.cons_append, List.getElem?_cons_succ, List.getElem?_cons_zero, Tch.free, and_true, true_and]; first | done | omega)) ?_)
    | (refine WC.yes rfl ?_)
    | (refine WC.no rfl ?_)
    | (refine WC.skip ?_)
    | (refine WC.exit ?_)
    | (refine WC.ret ?_)
    | (refine WC.block ?_)
    | (refine WT.em2 rfl (by intro hp; simp only [hp, decide_true]; rfl) (by intro hp; simp only [hp, decide_false]; rfl) (fun hp => ?_) (fun hp => ?_) <;> try (exfalso; first | omega | contradiction))
    | (refine WO.em2 rfl (by intro hp; simp only [hp, decide_true]; rfl) (by intro hp; simp only [hp, decide_false]; rfl) (fun hp => ?_) (fun hp => ?_) <;> try (exfalso; first | omega | contradiction))
    | (refine WC.em2 rfl (fun hp => ?_) (fun hp => ?_) <;> try (exfalso; first | omega | contradiction)))
  · exact ⟨_, rfl, rfl⟩
theorem f19lie {n : Int} {a b : Nat} {rs : List Rg} (hv : VL n rs) (ha : (a : Int) < n) (hb : (b : Int) < n) {l : AV} (hl : RdL l rs) {ch : List Int} (hc : Contra rs ch) (h28 : ∀ H L, borrowR E9 28 [.int .i64 n, l] ⟨H, L⟩ = some (.sref H.length 0 0 1 ch.length none, ⟨H ++ [some ⟨0, ch.map (.int .i64)⟩], L⟩)) :
    WF E13 (.func 19 [] []) [.int .i64 n, l, .int .i64 a, .int .i64 b] ⟨[], []⟩ fun y m' => y = .tuple [.agg [.int .i64 0, .int .i64 0], .int .i64 23] := by
  have hmax : rs.length < 9223372036854775808 := by have := hv.2.2.1; omega
  refine WF.fnE rfl (fn_of Try.func19 cir19) (by show 4 ≤ 63; decide) ?_
  unfold ir19
  simp only [padTo, List.replicate, List.nil_append, List.append_nil, List.cons_append]
  repeat' (first
    | (refine WO.yes rfl ?_)
    | (refine WO.noE rfl (by simp only [pt8, pt0, pt1, pt2, pt3, pt4, pt5, pt6, pt7]; rfl) ?_)
    | (refine WO.opE (by intro; simp (disch := omega) only [go_sem, Zz.look, Zz.over, Zz.cut, Nat.reduceAdd, Nat.reduceMul, Nat.reduceSub, Nat.reduceLeDiff, Nat.reduceEqDiff, Int.reduceNeg, Int.reduceAdd, Int.reduceToNat, reduceIte, reduceCtorEq, cut40, far_at, tab_k, tab_f, tab_b, Nat.mul_one, tab_len, over_tab, cut_tab, ia_sref, nilEqAV, lk0, lk1, lk2, lk3, st0, st1, st2, st3, Zz.look, z120]; rfl) (by simp only [pt8, pt0, pt1, pt2, pt3, pt4, pt5, pt6, pt7]; rfl) ?_)
    | (refine WO.opN (by intro; simp (disch := omega) only [go_sem, Zz.look, Zz.over, Zz.cut, Nat.reduceAdd, Nat.reduceMul, Nat.reduceSub, Nat.reduceLeDiff, Nat.reduceEqDiff, Int.reduceNeg, Int.reduceAdd, Int.reduceToNat, reduceIte, reduceCtorEq, cut40, far_at, tab_k, tab_f, tab_b, Nat.mul_one, tab_len, over_tab, cut_tab, ia_sref, nilEqAV, lk0, lk1, lk2, lk3, st0, st1, st2, st3, Zz.look, z120]; rfl) ?_)
    | (refine WO.opE (by intro; exact ev_lenS (by simp only [go_sem]; first | rfl | assumption)) (by simp only [pt8, pt0, pt1, pt2, pt3, pt4, pt5, pt6, pt7]; rfl) ?_)
    | (refine WO.specE rfl rfl (s12 hl hmax) (by simp only [pt8, pt0, pt1, pt2, pt3, pt4, pt5, pt6, pt7]; rfl) ?_)
    | (refine WO.specE rfl rfl (h28 _ _) (by simp only [pt8, pt0, pt1, pt2, pt3, pt4, pt5, pt6, pt7]; rfl) ?_)
    | (refine WC.seq ?_)
    | (refine WC.region ?_)
    | (refine WO.nil ?_)
    | (simp only [fl1, fl2, fl3, fl4, fl5, fl6, fl7, fl8, fl9, fl10, Nat.reduceBEq])
    | (refine WC.calm rfl ?_)
    | (refine WC.drawT ?_)
    | (refine WT.nil ?_)
    | (refine WT.yes rfl ?_)
    | (refine WT.no rfl (by simp only [pt8, pt0, pt1, pt2, pt3, pt4, pt5, pt6, pt7]; rfl) ?_)
    | (refine WT.free rfl (by intro; simp (disch := omega) only [go_sem, Zz.look, Zz.over, Zz.cut, Nat.reduceAdd, Nat.reduceMul, Nat.reduceSub, Nat.reduceLeDiff, Nat.reduceEqDiff, Int.reduceNeg, Int.reduceAdd, Int.reduceToNat, reduceIte, reduceCtorEq, cut40, far_at, tab_k, tab_f, tab_b, Nat.mul_one, tab_len, over_tab, cut_tab, ia_sref, nilEqAV, lk0, lk1, lk2, lk3, st0, st1, st2, st3, Zz.look, z120]; rfl) rfl (by simp only [pt8, pt0, pt1, pt2, pt3, pt4, pt5, pt6, pt7]; rfl) ?_)
    | (refine WT.big rfl rfl (by intro; simp (disch := omega) only [go_sem, Zz.look, Zz.over, Zz.cut, Nat.reduceAdd, Nat.reduceMul, Nat.reduceSub, Nat.reduceLeDiff, Nat.reduceEqDiff, Int.reduceNeg, Int.reduceAdd, Int.reduceToNat, reduceIte, reduceCtorEq, cut40, far_at, tab_k, tab_f, tab_b, Nat.mul_one, tab_len, over_tab, cut_tab, ia_sref, nilEqAV, lk0, lk1, lk2, lk3, st0, st1, st2, st3, Zz.look, z120]; rfl) (by simp (disch := omega) only [go_sem, Zz.look, Zz.over, Zz.cut, Nat.reduceAdd, Nat.reduceMul, Nat.reduceSub, Nat.reduceLeDiff, Nat.reduceEqDiff, Int.reduceNeg, Int.reduceAdd, Int.reduceToNat, reduceIte, reduceCtorEq, cut40, far_at, tab_k, tab_f, tab_b, Nat.mul_one, tab_len, over_tab, cut_tab, ia_sref, nilEqAV, lk0, lk1, lk2, lk3, st0, st1, st2, st3, Zz.look, z120, touch]; rfl) (by first | exact .inl rfl | exact .inr (apart_nil _) | (right; apply apart_mk; simp only [apartL, List.nil_append, List.cons_append, List.getElem?_cons_succ, List.getElem?_cons_zero, Tch.free, and_true, true_and]; first | done | omega)) (by simp only [pt8, pt0, pt1, pt2, pt3, pt4, pt5, pt6, pt7]; rfl) ?_)
    | (refine WT.bigN rfl rfl (by intro; simp (disch := omega) only [go_sem, Zz.look, Zz.over, Zz.cut, Nat.reduceAdd, Nat.reduceMul, Nat.reduceSub, Nat.reduceLeDiff, Nat.reduceEqDiff, Int.reduceNeg, Int.reduceAdd, Int.reduceToNat, reduceIte, reduceCtorEq, cut40, far_at, tab_k, tab_f, tab_b, Nat.mul_one, tab_len, over_tab, cut_tab, ia_sref, nilEqAV, lk0, lk1, lk2, lk3, st0, st1, st2, st3, Zz.look, z120]; rfl) (by simp (disch := omega) only [go_sem, Zz.look, Zz.over, Zz.cut, Nat.reduceAdd, Nat.reduceMul, Nat.reduceSub, Nat.reduceLeDiff, Nat.reduceEqDiff, Int.reduceNeg, Int.reduceAdd, Int.reduceToNat, reduceIte, reduceCtorEq, cut40, far_at, tab_k, tab_f, tab_b, Nat.mul_one, tab_len, over_tab, cut_tab, ia_sref, nilEqAV, lk0, lk1, lk2, lk3, st0, st1, st2, st3, Zz.look, z120, touch]; rfl) (by first | exact .inl rfl | exact .inr (apart_nil _) | (right; apply apart_mk; simp only [apartL, List.nil_append, List.cons_append, List.getElem?_cons_succ, List.getElem?_cons_zero, Tch.free, and_true, true_and]; first | done | omega)) ?_)
    | (refine WC.yes rfl ?_)
    | (refine WC.no rfl ?_)
    | (refine WC.skip ?_)
    | (refine WC.exit ?_)
    | (refine WC.ret ?_)
    | (refine WC.block ?_)
    | (refine WT.em2 rfl (by intro hp; simp only [hp, decide_true]; rfl) (by intro hp; simp only [hp, decide_false]; rfl) (fun hp => ?_) (fun hp => ?_) <;> try (exfalso; first | omega | contradiction))
    | (refine WO.em2 rfl (by intro hp; simp only [hp, decide_true]; rfl) (by intro hp; simp only [hp, decide_false]; rfl) (fun hp => ?_) (fun hp => ?_) <;> try (exfalso; first | omega | contradiction))
    | (refine WC.em2 rfl (fun hp => ?_) (fun hp => ?_) <;> try (exfalso; first | omega | contradiction)))
  · exact ⟨_, rfl, rfl⟩
theorem f19 {n : Int} {a b : Nat} {rs : List Rg} (hv : VL n rs) (ha : (a : Int) < n) (hb : (b : Int) < n) {l : AV} (hl : RdL l rs) {p : Nat → Int} (hp0 : Pot rs p) (h28 : ∀ m, borrowR E9 28 [.int .i64 n, l] m = some (.snil, m)) :
    WF E13 (.func 19 [] []) [.int .i64 n, l, .int .i64 a, .int .i64 b] ⟨[], []⟩ fun y m' => ∃ X Y : Bf.S, Sol rs a X.known X.far ∧ Sol rs b Y.known Y.far ∧
      ((¬ X.known b = true ∧ y = bv 0 0 4) ∨ (X.known b = true ∧ ¬ (-100000000000000 ≤ 0 - Y.far a ∧ 0 - Y.far a ≤ X.far b ∧ X.far b ≤ 100000000000000) ∧ y = bv 0 0 3) ∨
       (X.known b = true ∧ (-100000000000000 ≤ 0 - Y.far a ∧ 0 - Y.far a ≤ X.far b ∧ X.far b ≤ 100000000000000) ∧ y = bv (0 - Y.far a) (X.far b) 0)) := by
  have hmax : rs.length < 9223372036854775808 := by have := hv.2.2.1; omega
  have hn2 := hv.2.1
  obtain ⟨X, hX, bX, hx29⟩ := s29 hv hl ha hp0
  obtain ⟨Y, hY, bY, hy29⟩ := s29 hv hl hb hp0
  have b1 := bX b
  have b2 := bY a
  refine WF.fnE rfl (fn_of Try.func19 cir19) (by show 4 ≤ 63; decide) ?_
  unfold ir19
  simp only [padTo, List.replicate, List.nil_append, List.append_nil, List.cons_append]
  repeat' (first
    | (refine WO.yes rfl ?_)
    | (refine WO.noE rfl (by simp only [pt8, pt0, pt1, pt2, pt3, pt4, pt5, pt6, pt7]; rfl) ?_)
    | (refine WO.opE (by intro; simp (disch := omega) only [go_sem, Zz.look, zeros, List.append_assoc, List.length_append, cut2, Nat.reduceAdd, Nat.reduceMul, Nat.reduceSub, Nat.reduceLeDiff, Nat.reduceEqDiff, Int.reduceNeg, Int.reduceAdd, Int.reduceToNat, reduceIte, reduceCtorEq, cut40, far_at, tab_k, tab_f, tab_b, Nat.mul_one, tab_len, over_tab, cut_tab, ia_sref, nilEqAV, lk0, lk1, lk2, lk3, st0, st1, st2, st3, Zz.look, z120]; rfl) (by simp only [pt8, pt0, pt1, pt2, pt3, pt4, pt5, pt6, pt7]; rfl) ?_)
    | (refine WO.opN (by intro; simp (disch := omega) only [go_sem, Zz.look, zeros, List.append_assoc, List.length_append, cut2, Nat.reduceAdd, Nat.reduceMul, Nat.reduceSub, Nat.reduceLeDiff, Nat.reduceEqDiff, Int.reduceNeg, Int.reduceAdd, Int.reduceToNat, reduceIte, reduceCtorEq, cut40, far_at, tab_k, tab_f, tab_b, Nat.mul_one, tab_len, over_tab, cut_tab, ia_sref, nilEqAV, lk0, lk1, lk2, lk3, st0, st1, st2, st3, Zz.look, z120]; rfl) ?_)
    | (refine WO.opE (by intro; exact ev_lenS (by simp only [go_sem]; first | rfl | assumption)) (by simp only [pt8, pt0, pt1, pt2, pt3, pt4, pt5, pt6, pt7]; rfl) ?_)
    | (refine WO.specE rfl rfl (s12 hl hmax) (by simp only [pt8, pt0, pt1, pt2, pt3, pt4, pt5, pt6, pt7]; rfl) ?_)
    | (refine WO.specE rfl rfl (h28 _) (by simp only [pt8, pt0, pt1, pt2, pt3, pt4, pt5, pt6, pt7]; rfl) ?_)
    | (refine WO.specE rfl rfl (hx29 _) (by simp only [pt8, pt0, pt1, pt2, pt3, pt4, pt5, pt6, pt7]; rfl) ?_)
    | (refine WO.specE rfl rfl (hy29 _) (by simp only [pt8, pt0, pt1, pt2, pt3, pt4, pt5, pt6, pt7]; rfl) ?_)
    | (refine WT.spec rfl rfl (fun V => hy29 _) (by simp only [pt8, pt0, pt1, pt2, pt3, pt4, pt5, pt6, pt7]; rfl) ?_)
    | (refine WO.specE rfl rfl (s24) (by simp only [pt8, pt0, pt1, pt2, pt3, pt4, pt5, pt6, pt7]; rfl) ?_)
    | (refine WC.seq ?_)
    | (refine WC.region ?_)
    | (refine WO.nil ?_)
    | (simp only [fl1, fl2, fl3, fl4, fl5, fl6, fl7, fl8, fl9, fl10, Nat.reduceBEq])
    | (refine WC.calm rfl ?_)
    | (refine WC.drawT ?_)
    | (refine WT.nil ?_)
    | (refine WT.yes rfl ?_)
    | (refine WT.no rfl (by simp only [pt8, pt0, pt1, pt2, pt3, pt4, pt5, pt6, pt7]; rfl) ?_)
    | (refine WT.free rfl (by intro; simp (disch := omega) only [go_sem, Zz.look, zeros, List.append_assoc, List.length_append, cut2, Nat.reduceAdd, Nat.reduceMul, Nat.reduceSub, Nat.reduceLeDiff, Nat.reduceEqDiff, Int.reduceNeg, Int.reduceAdd, Int.reduceToNat, reduceIte, reduceCtorEq, cut40, far_at, tab_k, tab_f, tab_b, Nat.mul_one, tab_len, over_tab, cut_tab, ia_sref, nilEqAV, lk0, lk1, lk2, lk3, st0, st1, st2, st3, Zz.look, z120]; rfl) rfl (by simp only [pt8, pt0, pt1, pt2, pt3, pt4, pt5, pt6, pt7]; rfl) ?_)
    | (refine WT.big rfl rfl (by intro; simp (disch := omega) only [go_sem, Zz.look, zeros, List.append_assoc, List.length_append, cut2, Nat.reduceAdd, Nat.reduceMul, Nat.reduceSub, Nat.reduceLeDiff, Nat.reduceEqDiff, Int.reduceNeg, Int.reduceAdd, Int.reduceToNat, reduceIte, reduceCtorEq, cut40, far_at, tab_k, tab_f, tab_b, Nat.mul_one, tab_len, over_tab, cut_tab, ia_sref, nilEqAV, lk0, lk1, lk2, lk3, st0, st1, st2, st3, Zz.look, z120]; rfl) (by simp (disch := omega) only [go_sem, Zz.look, zeros, List.append_assoc, List.length_append, cut2, Nat.reduceAdd, Nat.reduceMul, Nat.reduceSub, Nat.reduceLeDiff, Nat.reduceEqDiff, Int.reduceNeg, Int.reduceAdd, Int.reduceToNat, reduceIte, reduceCtorEq, cut40, far_at, tab_k, tab_f, tab_b, Nat.mul_one, tab_len, over_tab, cut_tab, ia_sref, nilEqAV, lk0, lk1, lk2, lk3, st0, st1, st2, st3, Zz.look, z120, touch]; rfl) (by first | exact .inl rfl | exact .inr (apart_nil _) | (right; apply apart_mk; simp only [apartL, List.nil_append, List.cons_append, List.getElem?_cons_succ, List.getElem?_cons_zero, Tch.free, and_true, true_and]; first | done | omega)) (by simp only [pt8, pt0, pt1, pt2, pt3, pt4, pt5, pt6, pt7]; rfl) ?_)
    | (refine WT.bigN rfl rfl (by intro; simp (disch := omega) only [go_sem, Zz.look, zeros, List.append_assoc, List.length_append, cut2, Nat.reduceAdd, Nat.reduceMul, Nat.reduceSub, Nat.reduceLeDiff, Nat.reduceEqDiff, Int.reduceNeg, Int.reduceAdd, Int.reduceToNat, reduceIte, reduceCtorEq, cut40, far_at, tab_k, tab_f, tab_b, Nat.mul_one, tab_len, over_tab, cut_tab, ia_sref, nilEqAV, lk0, lk1, lk2, lk3, st0, st1, st2, st3, Zz.look, z120]; rfl) (by simp (disch := omega) only [go_sem, Zz.look, zeros, List.append_assoc, List.length_append, cut2, Nat.reduceAdd, Nat.reduceMul, Nat.reduceSub, Nat.reduceLeDiff, Nat.reduceEqDiff, Int.reduceNeg, Int.reduceAdd, Int.reduceToNat, reduceIte, reduceCtorEq, cut40, far_at, tab_k, tab_f, tab_b, Nat.mul_one, tab_len, over_tab, cut_tab, ia_sref, nilEqAV, lk0, lk1, lk2, lk3, st0, st1, st2, st3, Zz.look, z120, touch]; rfl) (by first | exact .inl rfl | exact .inr (apart_nil _) | (right; apply apart_mk; simp only [apartL, List.nil_append, List.cons_append, List.getElem?_cons_succ, List.getElem?_cons_zero, Tch.free, and_true, true_and]; first | done | omega)) ?_)
    | (refine WC.yes rfl ?_)
    | (refine WC.no rfl ?_)
    | (refine WC.skip ?_)
    | (refine WC.exit ?_)
    | (refine WC.ret ?_)
    | (refine WC.block ?_)
    | (refine WT.em2 rfl (by intro hp; simp only [hp, decide_true]; rfl) (by intro hp; simp only [hp, decide_false]; rfl) (fun hp => ?_) (fun hp => ?_) <;> try (exfalso; first | omega | contradiction))
    | (refine WO.em2 rfl (by intro hp; simp only [hp, decide_true]; rfl) (by intro hp; simp only [hp, decide_false]; rfl) (fun hp => ?_) (fun hp => ?_) <;> try (exfalso; first | omega | contradiction))
    | (refine WC.em2 rfl (fun hp => ?_) (fun hp => ?_) <;> try (exfalso; first | omega | contradiction)))
  · exact ⟨_, rfl, X, Y, hX, hY, .inl ⟨hp, rfl⟩⟩
  · exact ⟨_, rfl, X, Y, hX, hY, .inr (.inl ⟨Decidable.of_not_not ‹_›, hp, rfl⟩)⟩
  · exact ⟨_, rfl, X, Y, hX, hY, .inr (.inr ⟨Decidable.of_not_not ‹_›, Decidable.of_not_not hp, rfl⟩)⟩

/-- What Bound answers. -/
def BoundOut (n : Int) (rs : List Rg) (a b : Int) (v : AV) : Prop :=
  (¬ (VL n rs ∧ 0 ≤ a ∧ a < n ∧ 0 ≤ b ∧ b < n) ∧ v = bv 0 0 1) ∨ ((VL n rs ∧ 0 ≤ a ∧ a < n ∧ 0 ≤ b ∧ b < n) ∧ ((∃ ch, Contra rs ch) ∧ v = bv 0 0 23 ∨
    (∃ p, Pot rs p) ∧ ∃ X Y : Bf.S, Sol rs a.toNat X.known X.far ∧ Sol rs b.toNat Y.known Y.far ∧
      ((¬ X.known b.toNat = true ∧ v = bv 0 0 4) ∨ (X.known b.toNat = true ∧ ¬ (-100000000000000 ≤ 0 - Y.far a.toNat ∧ 0 - Y.far a.toNat ≤ X.far b.toNat ∧ X.far b.toNat ≤ 100000000000000) ∧ v = bv 0 0 3) ∨
       (X.known b.toNat = true ∧ (-100000000000000 ≤ 0 - Y.far a.toNat ∧ 0 - Y.far a.toNat ≤ X.far b.toNat ∧ X.far b.toNat ≤ 100000000000000) ∧ v = bv (0 - Y.far a.toNat) (X.far b.toNat) 0))))
theorem s19 {n a b : Int} {rs : List Rg} {l : AV} (hl : RdL l rs) (hmax : rs.length < 9223372036854775808) : ∃ v, BoundOut n rs a b v ∧ ∀ (l' : AV) (m : Mem), byVal m.heap l' = some l → borrowX E13 19 [.int .i64 n, l', .int .i64 a, .int .i64 b] m = some (v, m) := by
  by_cases hv : VL n rs ∧ 0 ≤ a ∧ a < n ∧ 0 ≤ b ∧ b < n
  · obtain ⟨hv, a0, a1, b0, b1⟩ := hv
    obtain ⟨a, rfl⟩ := Int.eq_ofNat_of_zero_le a0
    obtain ⟨b, rfl⟩ := Int.eq_ofNat_of_zero_le b0
    rcases s28 hv hl with ⟨⟨p, hp⟩, h28⟩ | ⟨ch, hc, h28⟩
    · obtain ⟨k, y, m', h, X, Y, hX, hY, hq⟩ := (f19 hv a1 b1 hl hp h28).ex
      refine ⟨y, .inr ⟨⟨hv, a0, a1, b0, b1⟩, .inr ⟨⟨p, hp⟩, X, Y, hX, hY, hq⟩⟩, fun l' m hb => borrowX_of (byVals_cons rfl (byVals_cons hb (byVals_cons rfl (byVals_cons rfl rfl)))) ⟨⟨k, y, m', h, ?_⟩⟩⟩
      rcases hq with ⟨_, rfl⟩ | ⟨_, _, rfl⟩ | ⟨_, _, rfl⟩ <;> rfl
    · exact ⟨_, .inr ⟨⟨hv, a0, a1, b0, b1⟩, .inl ⟨⟨ch, hc⟩, rfl⟩⟩, fun l' m hb => borrowX_of (byVals_cons rfl (byVals_cons hb (byVals_cons rfl (byVals_cons rfl rfl)))) ((f19lie hv a1 b1 hl hc h28).mono fun y m' h => by rw [h]; rfl)⟩
  · refine ⟨_, .inl ⟨hv, rfl⟩, fun l' m hb => borrowX_of (byVals_cons rfl (byVals_cons hb (byVals_cons rfl (byVals_cons rfl rfl)))) ((f19bad (fun h1 h2 => hv ⟨h1, h2⟩) hl hmax).mono fun y m' h => by rw [h]; rfl)⟩

noncomputable def E14 : Env := E13.put 19 (borrowX E13 19)
theorem E14_ok : EnvOk Try.prog E14 := Env.put_ok E13_ok (borrowX_ok E13_ok (callable Try.func19 (by kernel_rfl)))
end Go.Proofs.Ytndaljjljmmlcaa

