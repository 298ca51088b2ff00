import Derived.Test.YtndaljjljmmlcaaL16F
set_option linter.unusedSimpArgs false
set_option linter.unusedVariables false
namespace Go.Proofs.Ytndaljjljmmlcaa
open Go.Zz
set_option maxRecDepth 100000
set_option maxHeartbeats 1000000
theorem rdOf_pos {rs : List Rg} {s : Int} (h : 0 < s) : stA rs s = (nth rs (s - 1).toNat).a ∧ stB rs s = (nth rs (s - 1).toNat).b ∧ stW rs s = (nth rs (s - 1).toNat).hi := by
  have : ¬ s < 0 := by omega
  simp only [stA, stB, stW, rdOf, if_neg this, and_self]
theorem rdOf_neg {rs : List Rg} {s : Int} (h : s < 0) : stA rs s = (nth rs (0 - s - 1).toNat).b ∧ stB rs s = (nth rs (0 - s - 1).toNat).a ∧ stW rs s = 0 - (nth rs (0 - s - 1).toNat).lo := by
  simp only [stA, stB, stW, rdOf, if_pos h, Int.zero_sub, and_self]
theorem take_map {cs : List Int} {i : Nat} (h : i < cs.length) (f : Int → AV) : (cs.take (i + 1)).map f = (cs.take i).map f ++ [f (cs.getD i 0)] := by
  rw [List.take_add_one, List.getD_eq_getElem?_getD, List.getElem?_eq_getElem h, List.map_append]
  rfl
/-- closed. -/
theorem f23 {n : Int} {rs : List Rg} (hv : VL n rs) {l : AV} (hl : RdL l rs) {c : AV} {cs : List Int} (hc : IntS c cs) (hcmax : cs.length < 9223372036854775808) : WF E18 (.func 23 [] []) [l, c] ⟨[], []⟩ fun y m' =>
    ∃ b : Bool, (b = true ↔ Contra rs cs) ∧ y = .bool b := by
  have hlen := hl.len
  have hclen := hc.len
  have hn2 := hv.2.2.1
  refine WF.fnE rfl (fn_of Try.func23 cir23) (by show 2 ≤ 122; decide) ?_
  unfold ir23
  simp only [padTo, List.replicate, List.nil_append, List.append_nil, List.cons_append]
  repeat' (first
    | (refine WO.yes rfl ?_)
    | (refine WO.noE rfl (by simp only [pt8, pt0, pt1, pt2, pt3, pt4, pt5, pt6, pt7]; rfl) ?_)
    | (refine WO.opE (by intro; simp (disch := omega) only [go_sem, Zz.look, Zz.over, Zz.cut, Nat.reduceAdd, Nat.reduceMul, Nat.reduceSub, Nat.reduceLeDiff, Nat.reduceEqDiff, Int.reduceNeg, Int.reduceAdd, Int.reduceToNat, reduceIte, reduceCtorEq, Nat.mul_one, ia_sref, lk0, lk1, lk2, lk3, st0, st1, st2, st3, look_left]; rfl) (by simp only [pt8, pt0, pt1, pt2, pt3, pt4, pt5, pt6, pt7]; rfl) ?_)
    | (refine WO.opN (by intro; simp (disch := omega) only [go_sem, Zz.look, Zz.over, Zz.cut, Nat.reduceAdd, Nat.reduceMul, Nat.reduceSub, Nat.reduceLeDiff, Nat.reduceEqDiff, Int.reduceNeg, Int.reduceAdd, Int.reduceToNat, reduceIte, reduceCtorEq, Nat.mul_one, ia_sref, lk0, lk1, lk2, lk3, st0, st1, st2, st3, look_left]; rfl) ?_)
    | (refine WO.opE (by intro; exact ev_lenS (by simp only [go_sem]; first | rfl | assumption)) (by simp only [pt8, pt0, pt1, pt2, pt3, pt4, pt5, pt6, pt7]; rfl) ?_)
    | (refine WO.opE (by intro; exact ev_lenS (by simp only [go_sem]; exact hlen)) (by simp only [pt8, pt0, pt1, pt2, pt3, pt4, pt5, pt6, pt7]; rfl) ?_)
    | (refine WO.opE (by intro; exact ev_lenS (by simp only [go_sem]; exact hclen)) (by simp only [pt8, pt0, pt1, pt2, pt3, pt4, pt5, pt6, pt7]; rfl) ?_)
    | (refine WC.seq ?_)
    | (refine WC.region ?_)
    | (refine WO.nil ?_)
    | (simp only [fl1, fl2, fl3, fl4, fl5, fl6, fl7, fl8, fl9, fl10, Nat.reduceBEq])
    | (refine WC.calm rfl ?_)
    | (refine WC.drawT ?_)
    | (refine WT.nil ?_)
    | (refine WT.yes rfl ?_)
    | (refine WT.no rfl (by simp only [pt8, pt0, pt1, pt2, pt3, pt4, pt5, pt6, pt7]; rfl) ?_)
    | (refine WT.free rfl (by intro; simp (disch := omega) only [go_sem, Zz.look, Zz.over, Zz.cut, Nat.reduceAdd, Nat.reduceMul, Nat.reduceSub, Nat.reduceLeDiff, Nat.reduceEqDiff, Int.reduceNeg, Int.reduceAdd, Int.reduceToNat, reduceIte, reduceCtorEq, Nat.mul_one, ia_sref, lk0, lk1, lk2, lk3, st0, st1, st2, st3, look_left]; rfl) rfl (by simp only [pt8, pt0, pt1, pt2, pt3, pt4, pt5, pt6, pt7]; rfl) ?_)
    | (refine WT.big rfl rfl (by intro; simp (disch := omega) only [go_sem, Zz.look, Zz.over, Zz.cut, Nat.reduceAdd, Nat.reduceMul, Nat.reduceSub, Nat.reduceLeDiff, Nat.reduceEqDiff, Int.reduceNeg, Int.reduceAdd, Int.reduceToNat, reduceIte, reduceCtorEq, Nat.mul_one, ia_sref, lk0, lk1, lk2, lk3, st0, st1, st2, st3, look_left]; rfl) (by simp (disch := omega) only [go_sem, Zz.look, Zz.over, Zz.cut, Nat.reduceAdd, Nat.reduceMul, Nat.reduceSub, Nat.reduceLeDiff, Nat.reduceEqDiff, Int.reduceNeg, Int.reduceAdd, Int.reduceToNat, reduceIte, reduceCtorEq, Nat.mul_one, ia_sref, lk0, lk1, lk2, lk3, st0, st1, st2, st3, look_left, touch]; rfl) (by first | exact .inl rfl | exact .inr (apart_nil _) | (right; apply apart_mk; simp only [apartL, List.nil_append, List.cons_append, List.getElem?_cons_succ, List.getElem?_cons_zero, Tch.free, and_true, true_and]; first | done | omega)) (by simp only [pt8, pt0, pt1, pt2, pt3, pt4, pt5, pt6, pt7]; rfl) ?_)
    | (refine WT.bigN rfl rfl (by intro; simp (disch := omega) only [go_sem, Zz.look, Zz.over, Zz.cut, Nat.reduceAdd, Nat.reduceMul, Nat.reduceSub, Nat.reduceLeDiff, Nat.reduceEqDiff, Int.reduceNeg, Int.reduceAdd, Int.reduceToNat, reduceIte, reduceCtorEq, Nat.mul_one, ia_sref, lk0, lk1, lk2, lk3, st0, st1, st2, st3, look_left]; rfl) (by simp (disch := omega) only [go_sem, Zz.look, Zz.over, Zz.cut, Nat.reduceAdd, Nat.reduceMul, Nat.reduceSub, Nat.reduceLeDiff, Nat.reduceEqDiff, Int.reduceNeg, Int.reduceAdd, Int.reduceToNat, reduceIte, reduceCtorEq, Nat.mul_one, ia_sref, lk0, lk1, lk2, lk3, st0, st1, st2, st3, look_left, touch]; rfl) (by first | exact .inl rfl | exact .inr (apart_nil _) | (right; apply apart_mk; simp only [apartL, List.nil_append, List.cons_append, List.getElem?_cons_succ, List.getElem?_cons_zero, Tch.free, and_true, true_and]; first | done | omega)) ?_)
    | (refine WC.yes rfl ?_)
    | (refine WC.no rfl ?_)
    | (refine WC.skip ?_)
    | (refine WC.exit ?_)
    | (refine WC.ret ?_)
    | (refine WC.block ?_)
    | (refine WT.em2 rfl (by intro hp; simp only [hp, decide_true]; rfl) (by intro hp; simp only [hp, decide_false]; rfl) (fun hp => ?_) (fun hp => ?_) <;> try (exfalso; first | omega | contradiction))
    | (refine WO.em2 rfl (by intro hp; simp only [hp, decide_true]; rfl) (by intro hp; simp only [hp, decide_false]; rfl) (fun hp => ?_) (fun hp => ?_) <;> try (exfalso; first | omega | contradiction))
    | (refine WC.em2 rfl (fun hp => ?_) (fun hp => ?_) <;> try (exfalso; first | omega | contradiction)))
  · exact ⟨_, rfl, false, ⟨fun h => (by cases h), fun h => absurd (List.length_eq_zero_iff.1 (by omega)) h.ne⟩, rfl⟩
  · exact ⟨_, rfl, false, ⟨fun h => (by cases h), fun h => absurd h.len (by omega)⟩, rfl⟩
  have hc0 : 0 < cs.length := by omega
  refine WC.loopI (fun m s => ∃ T H i v1 q1 v2 q2, s = ⟨T, H, []⟩ ∧ T.length = 122 ∧ gt T 0 = l ∧ gt T 1 = c ∧ gt T 5 = .int .i64 cs.length ∧ gt T 6 = v1 ∧ gt T 7 = v2 ∧ gt T 8 = .int .i64 (psum rs cs i) ∧ gt T 9 = .int .i64 (i : Nat) ∧ i ≤ cs.length ∧ m + i = cs.length ∧ (∀ j, j < i → Num rs (cs.getD j 0)) ∧ -(i * 100000000000000) ≤ psum rs cs i ∧ psum rs cs i ≤ i * 100000000000000 ∧
    GS 1 H v1 q1 ((cs.take i).map fun s => .int .i64 (stA rs s)) ∧ GS 1 H v2 q2 ((cs.take i).map fun s => .int .i64 (stB rs s)) ∧ q1 ≠ q2 ∧ q1 < H.length ∧ q2 < H.length) ?_ cs.length _ ⟨_, _, 0, _, 0, _, 1, rfl, rfl, rfl, rfl, rfl, rfl, rfl, rfl, rfl, by omega, by omega, fun j hj => by omega, by simp [psum], by simp [psum], .inr (.inl ⟨0, rfl, rfl, rfl⟩), .inr (.inl ⟨0, rfl, rfl, rfl⟩), by decide, by simp, by simp⟩
  rintro m _ ⟨T, H, i, v1, q1, v2, q2, rfl, hT, g0, g1, g5, g6, g7, g8, g9, hi, hm, hpre, hs1, hs2, hg1, hg2, hq, hq1, hq2⟩
  obtain ⟨f, rfl⟩ := ex122 hT
  clear hT
  replace g0 : f 0 = l := g0
  replace g1 : f 1 = c := g1
  replace g5 : f 5 = .int .i64 cs.length := g5
  replace g6 : f 6 = v1 := g6
  replace g7 : f 7 = v2 := g7
  replace g8 : f 8 = .int .i64 (psum rs cs i) := g8
  replace g9 : f 9 = .int .i64 (i : Nat) := g9
  simp only [g0, g1, g5, g6, g7, g8, g9]
  by_cases hin : i < cs.length
  · have hm1 := getD_mem hin
    generalize hsg : cs.getD i 0 = sg at hm1
    have hps := psum_succ (rs := rs) hin
    rw [hsg] at hps
    have t1 := take_map hin (fun s => .int .i64 (stA rs s))
    have t2 := take_map hin (fun s => .int .i64 (stB rs s))
    simp only [hsg] at t1 t2
    obtain ⟨v1', q1', H1, v2', q2', H2, e1, e2, a1, a2, a3, a4, a5⟩ := hg1.two (L := []) hg2 hq hq1 hq2 (.int .i64 (stA rs sg)) (.int .i64 (stB rs sg)) (by simp; omega) (by simp; omega)
    rw [← t1] at a1
    rw [← t2] at a2
    have fin : Num rs sg → -100000000000000 ≤ stW rs sg → stW rs sg ≤ 100000000000000 → ∃ m' , m' < m ∧ m' + (i + 1) = cs.length ∧ (∀ j, j < i + 1 → Num rs (cs.getD j 0)) ∧ -((i + 1 : Nat) * 100000000000000) ≤ psum rs cs (i + 1) ∧ psum rs cs (i + 1) ≤ (i + 1 : Nat) * 100000000000000 := fun hk w1 w2 => by
      refine ⟨m - 1, by omega, by omega, fun j hj => ?_, by rw [hps]; omega, by rw [hps]; omega⟩
      by_cases e : j = i
      · subst e; rw [hsg]; exact hk
      · exact hpre j (by omega)
    by_cases hpos : 0 < sg
    · obtain ⟨p1, p2, p3⟩ := rdOf_pos (rs := rs) hpos
      have hwb : sg ≤ rs.length → -100000000000000 ≤ (nth rs (sg - 1).toNat).hi ∧ (nth rs (sg - 1).toNat).hi ≤ 100000000000000 := fun h => by
        obtain ⟨o1, o2, o3, o4, o5, o6, o7, o8⟩ := hv.at (i := (sg - 1).toNat) (by omega)
        omega
      repeat' (first
        | (refine WO.yes rfl ?_)
        | (refine WO.noE rfl (by simp only [pt8, pt0, pt1, pt2, pt3, pt4, pt5, pt6, pt7]; rfl) ?_)
        | (refine WO.opE (by intro; simp (disch := omega) only [go_sem, zeros, Zz.cut, List.append_assoc, List.length_append, Nat.reduceAdd, Nat.reduceMul, Nat.reduceSub, Nat.reduceLeDiff, Nat.reduceEqDiff, Int.reduceNeg, Int.reduceAdd, Int.reduceToNat, reduceIte, reduceCtorEq, Nat.mul_one, ia_sref, lk0, lk1, lk2, lk3, st0, st1, st2, st3, look_left, hc.atI, hl.at, hsg]; rfl) (by simp only [pt8, pt0, pt1, pt2, pt3, pt4, pt5, pt6, pt7]; rfl) ?_)
        | (refine WO.opN (by intro; simp (disch := omega) only [go_sem, zeros, Zz.cut, List.append_assoc, List.length_append, Nat.reduceAdd, Nat.reduceMul, Nat.reduceSub, Nat.reduceLeDiff, Nat.reduceEqDiff, Int.reduceNeg, Int.reduceAdd, Int.reduceToNat, reduceIte, reduceCtorEq, Nat.mul_one, ia_sref, lk0, lk1, lk2, lk3, st0, st1, st2, st3, look_left, hc.atI, hl.at, hsg]; rfl) ?_)
        | (refine WO.opE (by intro; exact ev_lenS (by simp only [go_sem]; first | rfl | assumption)) (by simp only [pt8, pt0, pt1, pt2, pt3, pt4, pt5, pt6, pt7]; rfl) ?_)
        | (refine WO.opE (by intro; exact ev_lenS (by simp only [go_sem]; exact hlen)) (by simp only [pt8, pt0, pt1, pt2, pt3, pt4, pt5, pt6, pt7]; rfl) ?_)
        | (refine WO.opE (by intro; exact ev_lenS (by simp only [go_sem]; exact hclen)) (by simp only [pt8, pt0, pt1, pt2, pt3, pt4, pt5, pt6, pt7]; rfl) ?_)
        | (rw [← p1])
        | (rw [← p2])
        | (refine WO.opE (by intro; rw [ev_append]; exact e1) (by simp only [pt8, pt0, pt1, pt2, pt3, pt4, pt5, pt6, pt7]; rfl) ?_)
        | (refine WO.opE (by intro; rw [ev_append]; exact e2) (by simp only [pt8, pt0, pt1, pt2, pt3, pt4, pt5, pt6, pt7]; rfl) ?_)
        | (refine WC.seq ?_)
        | (refine WC.region ?_)
        | (refine WO.nil ?_)
        | (simp only [fl1, fl2, fl3, fl4, fl5, fl6, fl7, fl8, fl9, fl10, Nat.reduceBEq])
        | (refine WC.calm rfl ?_)
        | (refine WC.drawT ?_)
        | (refine WT.nil ?_)
        | (refine WT.yes rfl ?_)
        | (refine WT.no rfl (by simp only [pt8, pt0, pt1, pt2, pt3, pt4, pt5, pt6, pt7]; rfl) ?_)
        | (refine WT.free rfl (by intro; simp (disch := omega) only [go_sem, zeros, Zz.cut, List.append_assoc, List.length_append, Nat.reduceAdd, Nat.reduceMul, Nat.reduceSub, Nat.reduceLeDiff, Nat.reduceEqDiff, Int.reduceNeg, Int.reduceAdd, Int.reduceToNat, reduceIte, reduceCtorEq, Nat.mul_one, ia_sref, lk0, lk1, lk2, lk3, st0, st1, st2, st3, look_left, hc.atI, hl.at, hsg]; rfl) rfl (by simp only [pt8, pt0, pt1, pt2, pt3, pt4, pt5, pt6, pt7]; rfl) ?_)
        | (refine WT.big rfl rfl (by intro; simp (disch := omega) only [go_sem, zeros, Zz.cut, List.append_assoc, List.length_append, Nat.reduceAdd, Nat.reduceMul, Nat.reduceSub, Nat.reduceLeDiff, Nat.reduceEqDiff, Int.reduceNeg, Int.reduceAdd, Int.reduceToNat, reduceIte, reduceCtorEq, Nat.mul_one, ia_sref, lk0, lk1, lk2, lk3, st0, st1, st2, st3, look_left, hc.atI, hl.at, hsg]; rfl) (by simp (disch := omega) only [go_sem, zeros, Zz.cut, List.append_assoc, List.length_append, Nat.reduceAdd, Nat.reduceMul, Nat.reduceSub, Nat.reduceLeDiff, Nat.reduceEqDiff, Int.reduceNeg, Int.reduceAdd, Int.reduceToNat, reduceIte, reduceCtorEq, Nat.mul_one, ia_sref, lk0, lk1, lk2, lk3, st0, st1, st2, st3, look_left, hc.atI, hl.at, hsg, touch]; rfl) (by first | exact .inl rfl | exact .inr (apart_nil _) | (right; apply apart_mk; simp only [apartL, List.nil_append, List.cons_append, List.getElem?_cons_succ, List.getElem?_cons_zero, Tch.free, and_true, true_and]; first | done | omega)) (by simp only [pt8, pt0, pt1, pt2, pt3, pt4, pt5, pt6, pt7]; rfl) ?_)
        | (refine WT.bigN rfl rfl (by intro; simp (disch := omega) only [go_sem, zeros, Zz.cut, List.append_assoc, List.length_append, Nat.reduceAdd, Nat.reduceMul, Nat.reduceSub, Nat.reduceLeDiff, Nat.reduceEqDiff, Int.reduceNeg, Int.reduceAdd, Int.reduceToNat, reduceIte, reduceCtorEq, Nat.mul_one, ia_sref, lk0, lk1, lk2, lk3, st0, st1, st2, st3, look_left, hc.atI, hl.at, hsg]; rfl) (by simp (disch := omega) only [go_sem, zeros, Zz.cut, List.append_assoc, List.length_append, Nat.reduceAdd, Nat.reduceMul, Nat.reduceSub, Nat.reduceLeDiff, Nat.reduceEqDiff, Int.reduceNeg, Int.reduceAdd, Int.reduceToNat, reduceIte, reduceCtorEq, Nat.mul_one, ia_sref, lk0, lk1, lk2, lk3, st0, st1, st2, st3, look_left, hc.atI, hl.at, hsg, touch]; rfl) (by first | exact .inl rfl | exact .inr (apart_nil _) | (right; apply apart_mk; simp only [apartL, List.nil_append, List.cons_append, List.getElem?_cons_succ, List.getElem?_cons_zero, Tch.free, and_true, true_and]; first | done | omega)) ?_)
        | (refine WC.yes rfl ?_)
        | (refine WC.no rfl ?_)
        | (refine WC.skip ?_)
        | (refine WC.exit ?_)
        | (refine WC.ret ?_)
        | (refine WC.block ?_)
        | (refine WT.em2 rfl (by intro hp; simp only [hp, decide_true]; rfl) (by intro hp; simp only [hp, decide_false]; rfl) (fun hp => ?_) (fun hp => ?_) <;> try (exfalso; first | omega | contradiction))
        | (refine WO.em2 rfl (by intro hp; simp only [hp, decide_true]; rfl) (by intro hp; simp only [hp, decide_false]; rfl) (fun hp => ?_) (fun hp => ?_) <;> try (exfalso; first | omega | contradiction))
        | (refine WC.em2 rfl (fun hp => ?_) (fun hp => ?_) <;> try (exfalso; first | omega | contradiction)))
      all_goals first
        | exact ⟨_, rfl, false, ⟨fun h => (by cases h), fun h => absurd (h.num _ hm1) (by unfold Num; omega)⟩, rfl⟩
        | skip
      obtain ⟨m', b1, b2, b3, b4, b5⟩ := fin ⟨by omega, by omega, by omega⟩ (by rw [p3]; omega) (by rw [p3]; omega)
      rw [← p3, ← hps]
      exact ⟨m', b1, _, _, i + 1, _, _, _, _, rfl, rfl, rfl, rfl, rfl, rfl, rfl, rfl, rfl, by omega, b2, b3, b4, b5, a1, a2, a3, a4, a5⟩
    · by_cases hz : sg = 0
      · subst hz
        repeat' (first
          | (refine WO.yes rfl ?_)
          | (refine WO.noE rfl (by simp only [pt8, pt0, pt1, pt2, pt3, pt4, pt5, pt6, pt7]; rfl) ?_)
          | (refine WO.opE (by intro; simp (disch := omega) only [go_sem, zeros, Zz.cut, List.append_assoc, List.length_append, Nat.reduceAdd, Nat.reduceMul, Nat.reduceSub, Nat.reduceLeDiff, Nat.reduceEqDiff, Int.reduceNeg, Int.reduceAdd, Int.reduceToNat, reduceIte, reduceCtorEq, Nat.mul_one, ia_sref, lk0, lk1, lk2, lk3, st0, st1, st2, st3, look_left, hc.atI, hl.at, hsg]; rfl) (by simp only [pt8, pt0, pt1, pt2, pt3, pt4, pt5, pt6, pt7]; rfl) ?_)
          | (refine WO.opN (by intro; simp (disch := omega) only [go_sem, zeros, Zz.cut, List.append_assoc, List.length_append, Nat.reduceAdd, Nat.reduceMul, Nat.reduceSub, Nat.reduceLeDiff, Nat.reduceEqDiff, Int.reduceNeg, Int.reduceAdd, Int.reduceToNat, reduceIte, reduceCtorEq, Nat.mul_one, ia_sref, lk0, lk1, lk2, lk3, st0, st1, st2, st3, look_left, hc.atI, hl.at, hsg]; rfl) ?_)
          | (refine WO.opE (by intro; exact ev_lenS (by simp only [go_sem]; first | rfl | assumption)) (by simp only [pt8, pt0, pt1, pt2, pt3, pt4, pt5, pt6, pt7]; rfl) ?_)
          | (refine WO.opE (by intro; exact ev_lenS (by simp only [go_sem]; exact hlen)) (by simp only [pt8, pt0, pt1, pt2, pt3, pt4, pt5, pt6, pt7]; rfl) ?_)
          | (refine WO.opE (by intro; exact ev_lenS (by simp only [go_sem]; exact hclen)) (by simp only [pt8, pt0, pt1, pt2, pt3, pt4, pt5, pt6, pt7]; rfl) ?_)
          | (refine WC.seq ?_)
          | (refine WC.region ?_)
          | (refine WO.nil ?_)
          | (simp only [fl1, fl2, fl3, fl4, fl5, fl6, fl7, fl8, fl9, fl10, Nat.reduceBEq])
          | (refine WC.calm rfl ?_)
          | (refine WC.drawT ?_)
          | (refine WT.nil ?_)
          | (refine WT.yes rfl ?_)
          | (refine WT.no rfl (by simp only [pt8, pt0, pt1, pt2, pt3, pt4, pt5, pt6, pt7]; rfl) ?_)
          | (refine WT.free rfl (by intro; simp (disch := omega) only [go_sem, zeros, Zz.cut, List.append_assoc, List.length_append, Nat.reduceAdd, Nat.reduceMul, Nat.reduceSub, Nat.reduceLeDiff, Nat.reduceEqDiff, Int.reduceNeg, Int.reduceAdd, Int.reduceToNat, reduceIte, reduceCtorEq, Nat.mul_one, ia_sref, lk0, lk1, lk2, lk3, st0, st1, st2, st3, look_left, hc.atI, hl.at, hsg]; rfl) rfl (by simp only [pt8, pt0, pt1, pt2, pt3, pt4, pt5, pt6, pt7]; rfl) ?_)
          | (refine WT.big rfl rfl (by intro; simp (disch := omega) only [go_sem, zeros, Zz.cut, List.append_assoc, List.length_append, Nat.reduceAdd, Nat.reduceMul, Nat.reduceSub, Nat.reduceLeDiff, Nat.reduceEqDiff, Int.reduceNeg, Int.reduceAdd, Int.reduceToNat, reduceIte, reduceCtorEq, Nat.mul_one, ia_sref, lk0, lk1, lk2, lk3, st0, st1, st2, st3, look_left, hc.atI, hl.at, hsg]; rfl) (by simp (disch := omega) only [go_sem, zeros, Zz.cut, List.append_assoc, List.length_append, Nat.reduceAdd, Nat.reduceMul, Nat.reduceSub, Nat.reduceLeDiff, Nat.reduceEqDiff, Int.reduceNeg, Int.reduceAdd, Int.reduceToNat, reduceIte, reduceCtorEq, Nat.mul_one, ia_sref, lk0, lk1, lk2, lk3, st0, st1, st2, st3, look_left, hc.atI, hl.at, hsg, touch]; rfl) (by first | exact .inl rfl | exact .inr (apart_nil _) | (right; apply apart_mk; simp only [apartL, List.nil_append, List.cons_append, List.getElem?_cons_succ, List.getElem?_cons_zero, Tch.free, and_true, true_and]; first | done | omega)) (by simp only [pt8, pt0, pt1, pt2, pt3, pt4, pt5, pt6, pt7]; rfl) ?_)
          | (refine WT.bigN rfl rfl (by intro; simp (disch := omega) only [go_sem, zeros, Zz.cut, List.append_assoc, List.length_append, Nat.reduceAdd, Nat.reduceMul, Nat.reduceSub, Nat.reduceLeDiff, Nat.reduceEqDiff, Int.reduceNeg, Int.reduceAdd, Int.reduceToNat, reduceIte, reduceCtorEq, Nat.mul_one, ia_sref, lk0, lk1, lk2, lk3, st0, st1, st2, st3, look_left, hc.atI, hl.at, hsg]; rfl) (by simp (disch := omega) only [go_sem, zeros, Zz.cut, List.append_assoc, List.length_append, Nat.reduceAdd, Nat.reduceMul, Nat.reduceSub, Nat.reduceLeDiff, Nat.reduceEqDiff, Int.reduceNeg, Int.reduceAdd, Int.reduceToNat, reduceIte, reduceCtorEq, Nat.mul_one, ia_sref, lk0, lk1, lk2, lk3, st0, st1, st2, st3, look_left, hc.atI, hl.at, hsg, touch]; rfl) (by first | exact .inl rfl | exact .inr (apart_nil _) | (right; apply apart_mk; simp only [apartL, List.nil_append, List.cons_append, List.getElem?_cons_succ, List.getElem?_cons_zero, Tch.free, and_true, true_and]; first | done | omega)) ?_)
          | (refine WC.yes rfl ?_)
          | (refine WC.no rfl ?_)
          | (refine WC.skip ?_)
          | (refine WC.exit ?_)
          | (refine WC.ret ?_)
          | (refine WC.block ?_)
          | (refine WT.em2 rfl (by intro hp; simp only [hp, decide_true]; rfl) (by intro hp; simp only [hp, decide_false]; rfl) (fun hp => ?_) (fun hp => ?_) <;> try (exfalso; first | omega | contradiction))
          | (refine WO.em2 rfl (by intro hp; simp only [hp, decide_true]; rfl) (by intro hp; simp only [hp, decide_false]; rfl) (fun hp => ?_) (fun hp => ?_) <;> try (exfalso; first | omega | contradiction))
          | (refine WC.em2 rfl (fun hp => ?_) (fun hp => ?_) <;> try (exfalso; first | omega | contradiction)))
        exact ⟨_, rfl, false, ⟨fun h => (by cases h), fun h => absurd (h.num _ hm1) (by unfold Num; omega)⟩, rfl⟩
      obtain ⟨p1, p2, p3⟩ := rdOf_neg (rs := rs) (s := sg) (by omega)
      have hwb : -(rs.length : Int) ≤ sg → -100000000000000 ≤ (nth rs (0 - sg - 1).toNat).lo ∧ (nth rs (0 - sg - 1).toNat).lo ≤ 100000000000000 := fun h => by
        obtain ⟨o1, o2, o3, o4, o5, o6, o7, o8⟩ := hv.at (i := (0 - sg - 1).toNat) (by omega)
        omega
      repeat' (first
        | (refine WO.yes rfl ?_)
        | (refine WO.noE rfl (by simp only [pt8, pt0, pt1, pt2, pt3, pt4, pt5, pt6, pt7]; rfl) ?_)
        | (refine WO.opE (by intro; simp (disch := omega) only [go_sem, zeros, Zz.cut, List.append_assoc, List.length_append, Nat.reduceAdd, Nat.reduceMul, Nat.reduceSub, Nat.reduceLeDiff, Nat.reduceEqDiff, Int.reduceNeg, Int.reduceAdd, Int.reduceToNat, reduceIte, reduceCtorEq, Nat.mul_one, ia_sref, lk0, lk1, lk2, lk3, st0, st1, st2, st3, look_left, hc.atI, hl.at, hsg]; rfl) (by simp only [pt8, pt0, pt1, pt2, pt3, pt4, pt5, pt6, pt7]; rfl) ?_)
        | (refine WO.opN (by intro; simp (disch := omega) only [go_sem, zeros, Zz.cut, List.append_assoc, List.length_append, Nat.reduceAdd, Nat.reduceMul, Nat.reduceSub, Nat.reduceLeDiff, Nat.reduceEqDiff, Int.reduceNeg, Int.reduceAdd, Int.reduceToNat, reduceIte, reduceCtorEq, Nat.mul_one, ia_sref, lk0, lk1, lk2, lk3, st0, st1, st2, st3, look_left, hc.atI, hl.at, hsg]; rfl) ?_)
        | (refine WO.opE (by intro; exact ev_lenS (by simp only [go_sem]; first | rfl | assumption)) (by simp only [pt8, pt0, pt1, pt2, pt3, pt4, pt5, pt6, pt7]; rfl) ?_)
        | (refine WO.opE (by intro; exact ev_lenS (by simp only [go_sem]; exact hlen)) (by simp only [pt8, pt0, pt1, pt2, pt3, pt4, pt5, pt6, pt7]; rfl) ?_)
        | (refine WO.opE (by intro; exact ev_lenS (by simp only [go_sem]; exact hclen)) (by simp only [pt8, pt0, pt1, pt2, pt3, pt4, pt5, pt6, pt7]; rfl) ?_)
        | (rw [← p1])
        | (rw [← p2])
        | (refine WO.opE (by intro; rw [ev_append]; exact e1) (by simp only [pt8, pt0, pt1, pt2, pt3, pt4, pt5, pt6, pt7]; rfl) ?_)
        | (refine WO.opE (by intro; rw [ev_append]; exact e2) (by simp only [pt8, pt0, pt1, pt2, pt3, pt4, pt5, pt6, pt7]; rfl) ?_)
        | (refine WC.seq ?_)
        | (refine WC.region ?_)
        | (refine WO.nil ?_)
        | (simp only [fl1, fl2, fl3, fl4, fl5, fl6, fl7, fl8, fl9, fl10, Nat.reduceBEq])
        | (refine WC.calm rfl ?_)
        | (refine WC.drawT ?_)
        | (refine WT.nil ?_)
        | (refine WT.yes rfl ?_)
        | (refine WT.no rfl (by simp only [pt8, pt0, pt1, pt2, pt3, pt4, pt5, pt6, pt7]; rfl) ?_)
        | (refine WT.free rfl (by intro; simp (disch := omega) only [go_sem, zeros, Zz.cut, List.append_assoc, List.length_append, Nat.reduceAdd, Nat.reduceMul, Nat.reduceSub, Nat.reduceLeDiff, Nat.reduceEqDiff, Int.reduceNeg, Int.reduceAdd, Int.reduceToNat, reduceIte, reduceCtorEq, Nat.mul_one, ia_sref, lk0, lk1, lk2, lk3, st0, st1, st2, st3, look_left, hc.atI, hl.at, hsg]; rfl) rfl (by simp only [pt8, pt0, pt1, pt2, pt3, pt4, pt5, pt6, pt7]; rfl) ?_)
        | (refine WT.big rfl rfl (by intro; simp (disch := omega) only [go_sem, zeros, Zz.cut, List.append_assoc, List.length_append, Nat.reduceAdd, Nat.reduceMul, Nat.reduceSub, Nat.reduceLeDiff, Nat.reduceEqDiff, Int.reduceNeg, Int.reduceAdd, Int.reduceToNat, reduceIte, reduceCtorEq, Nat.mul_one, ia_sref, lk0, lk1, lk2, lk3, st0, st1, st2, st3, look_left, hc.atI, hl.at, hsg]; rfl) (by simp (disch := omega) only [go_sem, zeros, Zz.cut, List.append_assoc, List.length_append, Nat.reduceAdd, Nat.reduceMul, Nat.reduceSub, Nat.reduceLeDiff, Nat.reduceEqDiff, Int.reduceNeg, Int.reduceAdd, Int.reduceToNat, reduceIte, reduceCtorEq, Nat.mul_one, ia_sref, lk0, lk1, lk2, lk3, st0, st1, st2, st3, look_left, hc.atI, hl.at, hsg, touch]; rfl) (by first | exact .inl rfl | exact .inr (apart_nil _) | (right; apply apart_mk; simp only [apartL, List.nil_append, List.cons_append, List.getElem?_cons_succ, List.getElem?_cons_zero, Tch.free, and_true, true_and]; first | done | omega)) (by simp only [pt8, pt0, pt1, pt2, pt3, pt4, pt5, pt6, pt7]; rfl) ?_)
        | (refine WT.bigN rfl rfl (by intro; simp (disch := omega) only [go_sem, zeros, Zz.cut, List.append_assoc, List.length_append, Nat.reduceAdd, Nat.reduceMul, Nat.reduceSub, Nat.reduceLeDiff, Nat.reduceEqDiff, Int.reduceNeg, Int.reduceAdd, Int.reduceToNat, reduceIte, reduceCtorEq, Nat.mul_one, ia_sref, lk0, lk1, lk2, lk3, st0, st1, st2, st3, look_left, hc.atI, hl.at, hsg]; rfl) (by simp (disch := omega) only [go_sem, zeros, Zz.cut, List.append_assoc, List.length_append, Nat.reduceAdd, Nat.reduceMul, Nat.reduceSub, Nat.reduceLeDiff, Nat.reduceEqDiff, Int.reduceNeg, Int.reduceAdd, Int.reduceToNat, reduceIte, reduceCtorEq, Nat.mul_one, ia_sref, lk0, lk1, lk2, lk3, st0, st1, st2, st3, look_left, hc.atI, hl.at, hsg, touch]; rfl) (by first | exact .inl rfl | exact .inr (apart_nil _) | (right; apply apart_mk; simp only [apartL, List.nil_append, List.cons_append, List.getElem?_cons_succ, List.getElem?_cons_zero, Tch.free, and_true, true_and]; first | done | omega)) ?_)
        | (refine WC.yes rfl ?_)
        | (refine WC.no rfl ?_)
        | (refine WC.skip ?_)
        | (refine WC.exit ?_)
        | (refine WC.ret ?_)
        | (refine WC.block ?_)
        | (refine WT.em2 rfl (by intro hp; simp only [hp, decide_true]; rfl) (by intro hp; simp only [hp, decide_false]; rfl) (fun hp => ?_) (fun hp => ?_) <;> try (exfalso; first | omega | contradiction))
        | (refine WO.em2 rfl (by intro hp; simp only [hp, decide_true]; rfl) (by intro hp; simp only [hp, decide_false]; rfl) (fun hp => ?_) (fun hp => ?_) <;> try (exfalso; first | omega | contradiction))
        | (refine WC.em2 rfl (fun hp => ?_) (fun hp => ?_) <;> try (exfalso; first | omega | contradiction)))
      all_goals first
        | exact ⟨_, rfl, false, ⟨fun h => (by cases h), fun h => absurd (h.num _ hm1) (by unfold Num; omega)⟩, rfl⟩
        | skip
      obtain ⟨m', b1, b2, b3, b4, b5⟩ := fin ⟨by omega, by omega, by omega⟩ (by rw [p3]; omega) (by rw [p3]; omega)
      rw [show psum rs cs i - (nth rs (0 - sg - 1).toNat).lo = psum rs cs (i + 1) by rw [hps, p3]; omega]
      exact ⟨m', b1, _, _, i + 1, _, _, _, _, rfl, rfl, rfl, rfl, rfl, rfl, rfl, rfl, rfl, by omega, b2, b3, b4, b5, a1, a2, a3, a4, a5⟩
  · have hin' : i = cs.length := by omega
    subst hin'
    rw [List.take_length] at hg1 hg2
    obtain ⟨u1, n1, rfl, d1, d2, d3⟩ := hg1.ref (by intro e; rw [List.map_eq_nil_iff] at e; subst e; simp at hc0)
    obtain ⟨u2, n2, rfl, d4, d5, d6⟩ := hg2.ref (by intro e; rw [List.map_eq_nil_iff] at e; subst e; simp at hc0)
    have hn1 : n1 = cs.length := by rw [List.length_map] at d1; omega
    have hn2' : n2 = cs.length := by rw [List.length_map] at d4; omega
    subst hn1; subst hn2'
    have e1 : (cs.map fun s => AV.int .i64 (stA rs s)) = (cs.map (stA rs)).map (.int .i64) := by simp
    have e2 : (cs.map fun s => AV.int .i64 (stB rs s)) = (cs.map (stB rs)).map (.int .i64) := by simp
    rw [e1] at d2
    rw [e2] at d5
    have hlt2 : ∀ j, (j + 1) % cs.length < cs.length := fun j => Nat.mod_lt _ hc0
    have hA : ∀ j, j < cs.length → (cs.map (stA rs)).getD j 0 = stA rs (cs.getD j 0) := fun j hj => by simp [List.getD_eq_getElem?_getD, hj]
    have hB : ∀ j, j < cs.length → (cs.map (stB rs)).getD j 0 = stB rs (cs.getD j 0) := fun j hj => by simp [List.getD_eq_getElem?_getD, hj]
    have hlA : (cs.map (stA rs)).length = cs.length := by simp
    have hlB : (cs.map (stB rs)).length = cs.length := by simp
    have hs0 : psum rs cs cs.length = (cs.map (stW rs)).sum := by unfold psum; rw [List.take_length]
    repeat' (first
      | (refine WO.yes rfl ?_)
      | (refine WO.noE rfl (by simp only [pt8, pt0, pt1, pt2, pt3, pt4, pt5, pt6, pt7]; rfl) ?_)
      | (refine WO.opE (by intro; simp (disch := omega) only [go_sem, zeros, Zz.cut, List.append_assoc, List.length_append, Nat.reduceAdd, Nat.reduceMul, Nat.reduceSub, Nat.reduceLeDiff, Nat.reduceEqDiff, Int.reduceNeg, Int.reduceAdd, Int.reduceToNat, reduceIte, reduceCtorEq, Nat.mul_one, ia_sref, lk0, lk1, lk2, lk3, st0, st1, st2, st3, look_left]; rfl) (by simp only [pt8, pt0, pt1, pt2, pt3, pt4, pt5, pt6, pt7]; rfl) ?_)
      | (refine WO.opN (by intro; simp (disch := omega) only [go_sem, zeros, Zz.cut, List.append_assoc, List.length_append, Nat.reduceAdd, Nat.reduceMul, Nat.reduceSub, Nat.reduceLeDiff, Nat.reduceEqDiff, Int.reduceNeg, Int.reduceAdd, Int.reduceToNat, reduceIte, reduceCtorEq, Nat.mul_one, ia_sref, lk0, lk1, lk2, lk3, st0, st1, st2, st3, look_left]; rfl) ?_)
      | (refine WO.opE (by intro; exact ev_lenS (by simp only [go_sem]; first | rfl | assumption)) (by simp only [pt8, pt0, pt1, pt2, pt3, pt4, pt5, pt6, pt7]; rfl) ?_)
      | (refine WC.seq ?_)
      | (refine WC.region ?_)
      | (refine WO.nil ?_)
      | (simp only [fl1, fl2, fl3, fl4, fl5, fl6, fl7, fl8, fl9, fl10, Nat.reduceBEq])
      | (refine WC.calm rfl ?_)
      | (refine WC.drawT ?_)
      | (refine WT.nil ?_)
      | (refine WT.yes rfl ?_)
      | (refine WT.no rfl (by simp only [pt8, pt0, pt1, pt2, pt3, pt4, pt5, pt6, pt7]; rfl) ?_)
      | (refine WT.free rfl (by intro; simp (disch := omega) only [go_sem, zeros, Zz.cut, List.append_assoc, List.length_append, Nat.reduceAdd, Nat.reduceMul, Nat.reduceSub, Nat.reduceLeDiff, Nat.reduceEqDiff, Int.reduceNeg, Int.reduceAdd, Int.reduceToNat, reduceIte, reduceCtorEq, Nat.mul_one, ia_sref, lk0, lk1, lk2, lk3, st0, st1, st2, st3, look_left]; rfl) rfl (by simp only [pt8, pt0, pt1, pt2, pt3, pt4, pt5, pt6, pt7]; rfl) ?_)
      | (refine WT.big rfl rfl (by intro; simp (disch := omega) only [go_sem, zeros, Zz.cut, List.append_assoc, List.length_append, Nat.reduceAdd, Nat.reduceMul, Nat.reduceSub, Nat.reduceLeDiff, Nat.reduceEqDiff, Int.reduceNeg, Int.reduceAdd, Int.reduceToNat, reduceIte, reduceCtorEq, Nat.mul_one, ia_sref, lk0, lk1, lk2, lk3, st0, st1, st2, st3, look_left]; rfl) (by simp (disch := omega) only [go_sem, zeros, Zz.cut, List.append_assoc, List.length_append, Nat.reduceAdd, Nat.reduceMul, Nat.reduceSub, Nat.reduceLeDiff, Nat.reduceEqDiff, Int.reduceNeg, Int.reduceAdd, Int.reduceToNat, reduceIte, reduceCtorEq, Nat.mul_one, ia_sref, lk0, lk1, lk2, lk3, st0, st1, st2, st3, look_left, touch]; rfl) (by first | exact .inl rfl | exact .inr (apart_nil _) | (right; apply apart_mk; simp only [apartL, List.nil_append, List.cons_append, List.getElem?_cons_succ, List.getElem?_cons_zero, Tch.free, and_true, true_and]; first | done | omega)) (by simp only [pt8, pt0, pt1, pt2, pt3, pt4, pt5, pt6, pt7]; rfl) ?_)
      | (refine WT.bigN rfl rfl (by intro; simp (disch := omega) only [go_sem, zeros, Zz.cut, List.append_assoc, List.length_append, Nat.reduceAdd, Nat.reduceMul, Nat.reduceSub, Nat.reduceLeDiff, Nat.reduceEqDiff, Int.reduceNeg, Int.reduceAdd, Int.reduceToNat, reduceIte, reduceCtorEq, Nat.mul_one, ia_sref, lk0, lk1, lk2, lk3, st0, st1, st2, st3, look_left]; rfl) (by simp (disch := omega) only [go_sem, zeros, Zz.cut, List.append_assoc, List.length_append, Nat.reduceAdd, Nat.reduceMul, Nat.reduceSub, Nat.reduceLeDiff, Nat.reduceEqDiff, Int.reduceNeg, Int.reduceAdd, Int.reduceToNat, reduceIte, reduceCtorEq, Nat.mul_one, ia_sref, lk0, lk1, lk2, lk3, st0, st1, st2, st3, look_left, touch]; rfl) (by first | exact .inl rfl | exact .inr (apart_nil _) | (right; apply apart_mk; simp only [apartL, List.nil_append, List.cons_append, List.getElem?_cons_succ, List.getElem?_cons_zero, Tch.free, and_true, true_and]; first | done | omega)) ?_)
      | (refine WC.yes rfl ?_)
      | (refine WC.no rfl ?_)
      | (refine WC.skip ?_)
      | (refine WC.exit ?_)
      | (refine WC.ret ?_)
      | (refine WC.block ?_)
      | (refine WT.em2 rfl (by intro hp; simp only [hp, decide_true]; rfl) (by intro hp; simp only [hp, decide_false]; rfl) (fun hp => ?_) (fun hp => ?_) <;> try (exfalso; first | omega | contradiction))
      | (refine WO.em2 rfl (by intro hp; simp only [hp, decide_true]; rfl) (by intro hp; simp only [hp, decide_false]; rfl) (fun hp => ?_) (fun hp => ?_) <;> try (exfalso; first | omega | contradiction))
      | (refine WC.em2 rfl (fun hp => ?_) (fun hp => ?_) <;> try (exfalso; first | omega | contradiction)))
    refine WC.loopI (fun m s => ∃ T j, s = ⟨T, H, []⟩ ∧ T.length = 122 ∧ gt T 5 = .int .i64 cs.length ∧ gt T 6 = .sref q1 u1 0 1 cs.length none ∧ gt T 7 = .sref q2 u2 0 1 cs.length none ∧ gt T 8 = .int .i64 (psum rs cs cs.length) ∧ gt T 11 = .int .i64 (j : Nat) ∧ m + j = cs.length ∧ ∀ k, k < j → stB rs (cs.getD k 0) = stA rs (cs.getD ((k + 1) % cs.length) 0)) ?_ cs.length _ ⟨_, 0, rfl, rfl, rfl, rfl, rfl, rfl, rfl, by omega, fun k hk => by omega⟩
    clear g0 g1 g5 g6 g7 g8 g9 f hm m
    rintro m _ ⟨T, j, rfl, hT, g5, g6, g7, g8, g11, hm, ihj⟩
    obtain ⟨f, rfl⟩ := ex122 hT
    clear hT
    replace g5 : f 5 = .int .i64 cs.length := g5
    replace g6 : f 6 = .sref q1 u1 0 1 cs.length none := g6
    replace g7 : f 7 = .sref q2 u2 0 1 cs.length none := g7
    replace g8 : f 8 = .int .i64 (psum rs cs cs.length) := g8
    replace g11 : f 11 = .int .i64 (j : Nat) := g11
    simp only [g5, g6, g7, g8, g11]
    have hj2 := hlt2 j
    repeat' (first
      | (refine WO.yes rfl ?_)
      | (refine WO.noE rfl (by simp only [pt8, pt0, pt1, pt2, pt3, pt4, pt5, pt6, pt7]; rfl) ?_)
      | (refine WO.opE (by intro; simp (disch := first | omega | (simp only [List.length_map]; omega)) only [go_sem, zeros, Zz.cut, List.append_assoc, List.length_append, Nat.reduceAdd, Nat.reduceMul, Nat.reduceSub, Nat.reduceLeDiff, Nat.reduceEqDiff, Int.reduceNeg, Int.reduceAdd, Int.reduceToNat, reduceIte, reduceCtorEq, Nat.mul_one, ia_sref, d2, d5, int_at, tmod_nat, if_neg]; rfl) (by simp only [pt8, pt0, pt1, pt2, pt3, pt4, pt5, pt6, pt7]; rfl) ?_)
      | (refine WO.opN (by intro; simp (disch := first | omega | (simp only [List.length_map]; omega)) only [go_sem, zeros, Zz.cut, List.append_assoc, List.length_append, Nat.reduceAdd, Nat.reduceMul, Nat.reduceSub, Nat.reduceLeDiff, Nat.reduceEqDiff, Int.reduceNeg, Int.reduceAdd, Int.reduceToNat, reduceIte, reduceCtorEq, Nat.mul_one, ia_sref, d2, d5, int_at, tmod_nat, if_neg]; rfl) ?_)
      | (refine WO.opE (by intro; exact ev_lenS (by simp only [go_sem]; first | rfl | assumption)) (by simp only [pt8, pt0, pt1, pt2, pt3, pt4, pt5, pt6, pt7]; rfl) ?_)
      | (refine WC.seq ?_)
      | (refine WC.region ?_)
      | (refine WO.nil ?_)
      | (simp only [fl1, fl2, fl3, fl4, fl5, fl6, fl7, fl8, fl9, fl10, Nat.reduceBEq])
      | (refine WC.calm rfl ?_)
      | (refine WC.drawT ?_)
      | (refine WT.nil ?_)
      | (refine WT.yes rfl ?_)
      | (refine WT.no rfl (by simp only [pt8, pt0, pt1, pt2, pt3, pt4, pt5, pt6, pt7]; rfl) ?_)
      | (refine WT.free rfl (by intro; simp (disch := first | omega | (simp only [List.length_map]; omega)) only [go_sem, zeros, Zz.cut, List.append_assoc, List.length_append, Nat.reduceAdd, Nat.reduceMul, Nat.reduceSub, Nat.reduceLeDiff, Nat.reduceEqDiff, Int.reduceNeg, Int.reduceAdd, Int.reduceToNat, reduceIte, reduceCtorEq, Nat.mul_one, ia_sref, d2, d5, int_at, tmod_nat, if_neg]; rfl) rfl (by simp only [pt8, pt0, pt1, pt2, pt3, pt4, pt5, pt6, pt7]; rfl) ?_)
      | (refine WT.big rfl rfl (by intro; simp (disch := first | omega | (simp only [List.length_map]; omega)) only [go_sem, zeros, Zz.cut, List.append_assoc, List.length_append, Nat.reduceAdd, Nat.reduceMul, Nat.reduceSub, Nat.reduceLeDiff, Nat.reduceEqDiff, Int.reduceNeg, Int.reduceAdd, Int.reduceToNat, reduceIte, reduceCtorEq, Nat.mul_one, ia_sref, d2, d5, int_at, tmod_nat, if_neg]; rfl) (by simp (disch := first | omega | (simp only [List.length_map]; omega)) only [go_sem, zeros, Zz.cut, List.append_assoc, List.length_append, Nat.reduceAdd, Nat.reduceMul, Nat.reduceSub, Nat.reduceLeDiff, Nat.reduceEqDiff, Int.reduceNeg, Int.reduceAdd, Int.reduceToNat, reduceIte, reduceCtorEq, Nat.mul_one, ia_sref, d2, d5, int_at, tmod_nat, if_neg, touch]; rfl) (by first | exact .inl rfl | exact .inr (apart_nil _) | (right; apply apart_mk; simp only [apartL, List.nil_append, List.cons_append, List.getElem?_cons_succ, List.getElem?_cons_zero, Tch.free, and_true, true_and]; first | done | omega)) (by simp only [pt8, pt0, pt1, pt2, pt3, pt4, pt5, pt6, pt7]; rfl) ?_)
      | (refine WT.bigN rfl rfl (by intro; simp (disch := first | omega | (simp only [List.length_map]; omega)) only [go_sem, zeros, Zz.cut, List.append_assoc, List.length_append, Nat.reduceAdd, Nat.reduceMul, Nat.reduceSub, Nat.reduceLeDiff, Nat.reduceEqDiff, Int.reduceNeg, Int.reduceAdd, Int.reduceToNat, reduceIte, reduceCtorEq, Nat.mul_one, ia_sref, d2, d5, int_at, tmod_nat, if_neg]; rfl) (by simp (disch := first | omega | (simp only [List.length_map]; omega)) only [go_sem, zeros, Zz.cut, List.append_assoc, List.length_append, Nat.reduceAdd, Nat.reduceMul, Nat.reduceSub, Nat.reduceLeDiff, Nat.reduceEqDiff, Int.reduceNeg, Int.reduceAdd, Int.reduceToNat, reduceIte, reduceCtorEq, Nat.mul_one, ia_sref, d2, d5, int_at, tmod_nat, if_neg, touch]; rfl) (by first | exact .inl rfl | exact .inr (apart_nil _) | (right; apply apart_mk; simp only [apartL, List.nil_append, List.cons_append, List.getElem?_cons_succ, List.getElem?_cons_zero, Tch.free, and_true, true_and]; first | done | omega)) ?_)
      | (refine WC.yes rfl ?_)
      | (refine WC.no rfl ?_)
      | (refine WC.skip ?_)
      | (refine WC.exit ?_)
      | (refine WC.ret ?_)
      | (refine WC.block ?_)
      | (refine WT.em2 rfl (by intro hp; simp only [hp, decide_true]; rfl) (by intro hp; simp only [hp, decide_false]; rfl) (fun hp => ?_) (fun hp => ?_) <;> try (exfalso; first | omega | contradiction))
      | (refine WO.em2 rfl (by intro hp; simp only [hp, decide_true]; rfl) (by intro hp; simp only [hp, decide_false]; rfl) (fun hp => ?_) (fun hp => ?_) <;> try (exfalso; first | omega | contradiction))
      | (refine WC.em2 rfl (fun hp => ?_) (fun hp => ?_) <;> try (exfalso; first | omega | contradiction)))
    · rw [hB j (by omega), hA _ hj2] at hp
      exact ⟨_, rfl, false, ⟨fun h => (by cases h), fun h => absurd (h.link j (by omega)) hp⟩, rfl⟩
    · have hp' := Decidable.of_not_not hp
      rw [hB j (by omega), hA _ hj2] at hp'
      exact ⟨m - 1, by omega, _, j + 1, rfl, rfl, rfl, rfl, rfl, rfl, rfl, by omega, fun k hk => by
        by_cases e : k = j
        · subst e; exact hp'
        · exact ihj k (by omega)⟩
    · have hj' : j = cs.length := by omega
      subst hj'
      refine ⟨_, rfl, decide (psum rs cs cs.length < 0), ?_, rfl⟩
      rw [decide_eq_true_iff]
      constructor
      · intro hneg
        refine ⟨fun e => by subst e; simp at hc0, by omega, fun s hs => ?_, ihj, by rw [← hs0]; exact hneg⟩
        obtain ⟨k, hk, rfl⟩ := List.getElem_of_mem hs
        have := hpre k hk
        rwa [List.getD_eq_getElem?_getD, List.getElem?_eq_getElem hk] at this
      · intro h
        rw [hs0]
        exact h.neg
theorem s23 {n : Int} {rs : List Rg} (hv : VL n rs) {l : AV} (hl : RdL l rs) {c : AV} {cs : List Int} (hc : IntS c cs) (hcmax : cs.length < 9223372036854775808) : ∃ b : Bool, (b = true ↔ Contra rs cs) ∧ ∀ m, borrowE E18 23 [l, c] m = some (.bool b, m) := by
  obtain ⟨k, y, m', h, b, hb, rfl⟩ := (f23 hv hl hc hcmax).ex
  exact ⟨b, hb, fun m => borrowE_of (pures_cons hl.pureA (pures_cons hc.pureA rfl)) ⟨⟨k, _, m', h, rfl⟩⟩⟩

noncomputable def E19 : Env := E18.put 23 (borrowE E18 23)
theorem E19_ok : EnvOk Try.prog E19 := Env.put_ok E18_ok (borrowE_ok E18_ok (callable Try.func23 (by kernel_rfl)))
end Go.Proofs.Ytndaljjljmmlcaa

set_option linter.unusedSimpArgs false
set_option linter.unusedVariables false
namespace Go.Proofs.Ytndaljjljmmlcaa
open Go.Zz

/-! ### The first ones: names spread over the readings -/

/-- The steps of names: no size. -/
def Ez (rs : List Rg) (t : Nat) : Bf.Edge := ⟨(Er rs t).s, (Er rs t).a, (Er rs t).b, 0⟩
def nm : Bf.S := ⟨fun _ => true, fun v => (v : Int), fun _ => 0⟩
theorem Ez_ok {n : Int} {rs : List Rg} (hv : VL n rs) (h : rs ≠ []) : Bf.Ok (Ez rs) (2 * rs.length) n.toNat := by
  have ho := Er_ok hv h
  exact ⟨ho.ne, fun t => by simp only [Ez, ho.per t], ho.pos, ho.alt, ho.blt⟩
theorem nm_known {rs : List Rg} (t v : Nat) : (Bf.run (Ez rs) nm t).known v = true := Bf.known_mono (t := 0) (Nat.zero_le _) rfl

/-- What the names are behind the rounds. -/
def nameOf (n : Int) (rs : List Rg) (v : Nat) : Int := (Bf.run (Ez rs) nm (n.toNat * (2 * rs.length))).far v

theorem Ez_far {rs : List Rg} (he : rs ≠ []) {n : Int} (hv : VL n rs) {s : Int} (hs : Num rs s) : nameOf n rs (eOf rs s).b ≤ nameOf n rs (eOf rs s).a := by
  obtain ⟨t, ht⟩ := num_Er hs
  have := Bf.no_late (x := nm) (Ez_ok hv he) (p := fun _ => 0) (fun t => by simp [Ez])
  have hf := rounds_done (x := nm) (Ez_ok hv he) (p := fun _ => 0) (fun t => by simp [Ez]) t
  simp only [Bf.fires, nm_known, Bool.true_and, Bool.not_true, Bool.false_or, decide_eq_false_iff_not] at hf
  simp only [nameOf]
  rw [← ht]
  simp only [Ez] at hf
  omega

theorem name_eq {n : Int} {rs : List Rg} (hv : VL n rs) {v : Nat} {K : Nat → Bool} {d : Nat → Int} (h : Sol rs v K d) (u : Nat) (hu : K u = true) : nameOf n rs u = nameOf n rs v := by
  by_cases he : rs = []
  · subst he
    have := (h.best (fun w => w = v) d rfl (fun s hs => by
      obtain ⟨h0, h1, h2⟩ := hs
      simp at h1 h2; omega) u hu).1
    subst this
    rfl
  · refine (h.best (fun w => K w = true ∧ nameOf n rs w = nameOf n rs v) d ⟨h.self, rfl⟩ (fun s hs ha => ⟨⟨(h.closed s hs ha.1).1, ?_⟩, (h.closed s hs ha.1).2⟩) u hu).1.2
    have h1 := Ez_far he hv hs
    obtain ⟨e1, e2, e3⟩ := eOf_rev hs
    have h2 := Ez_far he hv e1
    rw [e2, e3] at h2
    have := ha.2
    omega
theorem name_le {n : Int} {rs : List Rg} (v : Nat) : nameOf n rs v ≤ v := Bf.far_mono (E := Ez rs) (x := nm) (t := 0) (Nat.zero_le _) rfl

/-- A name is an item with which the item is connected. -/
theorem name_conn {n : Int} {rs : List Rg} (hv : VL n rs) {v : Nat} (hvn : (v : Int) < n) : ∃ w : Nat, nameOf n rs v = w ∧ (w : Int) < n ∧ ∀ K d, Sol rs w K d → K v = true := by
  have key : ∀ t, (t = 0 ∨ rs ≠ []) → ∀ v : Nat, (v : Int) < n → ∃ w : Nat, (Bf.run (Ez rs) nm t).far v = w ∧ (w : Int) < n ∧ ∀ K d, Sol rs w K d → K v = true := by
    intro t
    induction t with
    | zero => intro _ v hv; exact ⟨v, rfl, hv, fun K d h => h.self⟩
    | succ t ih =>
      intro ht v hvn
      have he : rs ≠ [] := by
        rcases ht with h | h
        · cases h
        · exact h
      rcases Bf.one_step (E := Ez rs) (x := nm) t v with ⟨h1, h2, h3, h4⟩ | ⟨h1, h2, h3, h4, h5, h6⟩
      · rw [h3]; exact ih (.inr he) v hvn
      · obtain ⟨s, hs, e⟩ := Er_num he t
        obtain ⟨a1, a2, a3, a4, a5, a6, a7⟩ := okNum hv hs
        have ea : (Ez rs t).a = (eOf rs s).a := by simp only [Ez, e]
        have eb : (Ez rs t).b = (eOf rs s).b := by simp only [Ez, e]
        obtain ⟨w, w1, w2, w3⟩ := ih (.inr he) (Ez rs t).a (by rw [ea]; simp only [eOf]; omega)
        refine ⟨w, by rw [h5, w1]; simp [Ez], w2, fun K d h => ?_⟩
        have := (h.closed s hs (by rw [← ea]; exact w3 K d h)).1
        rw [h2, eb]
        exact this
  refine key _ ?_ v hvn
  by_cases he : rs = []
  · left; subst he; simp
  · exact .inr he

/-- The first item that an item is connected with. -/
def FirstOf (rs : List Rg) (v w : Nat) : Prop := (∀ K d, Sol rs w K d → K v = true) ∧ ∀ u K d, u < w → Sol rs u K d → K v = false
theorem name_first {n : Int} {rs : List Rg} (hv : VL n rs) {v : Nat} (hvn : (v : Int) < n) : ∃ w : Nat, nameOf n rs v = w ∧ (w : Int) < n ∧ FirstOf rs v w := by
  obtain ⟨w, w1, w2, w3⟩ := name_conn hv hvn
  refine ⟨w, w1, w2, w3, fun u K d hu hK => ?_⟩
  cases hk : K v with
  | false => rfl
  | true =>
    have h1 := name_eq hv hK v hk
    have h2 := name_le (n := n) (rs := rs) u
    omega

/-- What one reading does to the names. -/
def lower2 (x : Bf.S) (a b : Nat) : Bf.S := Bf.relax (Bf.relax x ⟨0, a, b, 0⟩) ⟨0, b, a, 0⟩
theorem relax_far {x : Bf.S} {e : Bf.Edge} (h : ∀ v, x.known v = true) (v : Nat) : (Bf.relax x e).far v = if v = e.b then min (x.far v) (x.far e.a + e.w) else x.far v := by
  unfold Bf.relax Bf.fires
  simp only [h, Bool.true_and, Bool.not_true, Bool.false_or]
  split
  · rename_i h1
    rw [decide_eq_true_iff] at h1
    simp only [Bf.lowered, Bf.upd]
    split
    · rename_i e1; subst e1; omega
    · rfl
  · rename_i h1
    simp only [decide_eq_true_eq] at h1
    split
    · rename_i e1; subst e1; omega
    · rfl
theorem relax_known {x : Bf.S} {e : Bf.Edge} (h : ∀ v, x.known v = true) (v : Nat) : (Bf.relax x e).known v = true := by
  unfold Bf.relax
  split
  · simp only [Bf.lowered, Bf.upd]; split <;> first | rfl | exact h v
  · exact h v
/-- Two steps of the run: both get the lesser name. -/
theorem run_two {rs : List Rg} {r i : Nat} (hi : i < rs.length) (v : Nat) (hab : (nth rs i).a.toNat ≠ (nth rs i).b.toNat) : (Bf.run (Ez rs) nm (r * (2 * rs.length) + 2 * (i + 1))).far v =
    if v = (nth rs i).a.toNat ∨ v = (nth rs i).b.toNat then min ((Bf.run (Ez rs) nm (r * (2 * rs.length) + 2 * i)).far (nth rs i).a.toNat) ((Bf.run (Ez rs) nm (r * (2 * rs.length) + 2 * i)).far (nth rs i).b.toNat) else (Bf.run (Ez rs) nm (r * (2 * rs.length) + 2 * i)).far v := by
  have e1 : Er rs (r * (2 * rs.length) + 2 * i) = eOf rs ((i : Int) + 1) := by
    unfold Er
    rw [show r * (2 * rs.length) + 2 * i = (2 * i) + r * (2 * rs.length) by omega, Nat.add_mul_mod_self_right, Nat.mod_eq_of_lt (by omega)]
    congr 1
    unfold numAt
    rw [if_pos (by omega)]
    omega
  have e2 : Er rs (r * (2 * rs.length) + 2 * i + 1) = eOf rs (0 - (i : Int) - 1) := by
    unfold Er
    rw [show r * (2 * rs.length) + 2 * i + 1 = (2 * i + 1) + r * (2 * rs.length) by omega, Nat.add_mul_mod_self_right, Nat.mod_eq_of_lt (by omega)]
    congr 1
    unfold numAt
    rw [if_neg (by omega)]
    omega
  have k0 : ∀ v, (Bf.run (Ez rs) nm (r * (2 * rs.length) + 2 * i)).known v = true := nm_known _
  rw [show r * (2 * rs.length) + 2 * (i + 1) = r * (2 * rs.length) + 2 * i + 1 + 1 by omega]
  show (Bf.relax (Bf.relax (Bf.run (Ez rs) nm (r * (2 * rs.length) + 2 * i)) (Ez rs (r * (2 * rs.length) + 2 * i))) (Ez rs (r * (2 * rs.length) + 2 * i + 1))).far v = _
  rw [relax_far (relax_known k0), relax_far k0, relax_far k0]
  simp only [Ez, e1, e2, eOf_pos, eOf_neg]
  by_cases h1 : v = (nth rs i).a.toNat
  · subst h1
    simp only [if_true, if_neg hab, true_or]
    omega
  · by_cases h2 : v = (nth rs i).b.toNat
    · subst h2
      simp only [if_true, if_neg h1, or_true]
      omega
    · simp only [if_neg h1, if_neg h2, h1, h2, or_self, if_false]
end Go.Proofs.Ytndaljjljmmlcaa

set_option linter.unusedSimpArgs false
set_option linter.unusedVariables false
namespace Go.Proofs.Ytndaljjljmmlcaa
open Go.Zz
set_option maxRecDepth 100000
def Names (n : Int) (rs : List Rg) (t : Nat) (c : List Int) : Prop := c.length = n.toNat ∧ ∀ v, v < n.toNat → c.getD v 0 = (Bf.run (Ez rs) nm t).far v
theorem Names.next {n : Int} {rs : List Rg} (hv : VL n rs) {r i : Nat} {c : List Int} (h : Names n rs (r * (2 * rs.length) + 2 * i) c) (hi : i < rs.length) :
    Names n rs (r * (2 * rs.length) + 2 * (i + 1)) ((c.set (nth rs i).a.toNat (min (c.getD (nth rs i).a.toNat 0) (c.getD (nth rs i).b.toNat 0))).set (nth rs i).b.toNat (min (c.getD (nth rs i).a.toNat 0) (c.getD (nth rs i).b.toNat 0))) := by
  obtain ⟨o1, o2, o3, o4, o5, o6, o7, o8⟩ := hv.at hi
  obtain ⟨h1, h2⟩ := h
  have hv1 := hv.1
  refine ⟨by simp [h1], fun v hvn => ?_⟩
  rw [getD_set (by simp; omega), getD_set (by omega), run_two hi v (by omega), h2 _ (by omega), h2 _ (by omega), h2 v hvn]
  by_cases e1 : v = (nth rs i).b.toNat
  · rw [if_pos e1, if_pos (.inr e1)]
  · by_cases e2 : v = (nth rs i).a.toNat
    · rw [if_neg e1, if_pos e2, if_pos (.inl e2)]
    · rw [if_neg e1, if_neg e2, if_neg (by rintro (h | h) <;> contradiction)]
/-- firsts. -/
theorem f22 {n : Int} {rs : List Rg} (hv : VL n rs) {l : AV} (hl : RdL l rs) : WF E19 (.func 22 [] []) [.int .i64 n, l] ⟨[], []⟩ fun y m' => ∃ c, Names n rs (n.toNat * (2 * rs.length)) c ∧ resV m'.heap y = some (.sval false c.length (c.map (.int .i64))) := by
  have hlen := hl.len
  have hn1 := hv.1
  have hn2 := hv.2.1
  have hl2 := hv.2.2.1
  refine WF.fnE rfl (fn_of Try.func22 cir22) (by show 2 ≤ 58; decide) ?_
  unfold ir22
  simp only [padTo, List.replicate, List.nil_append, List.append_nil, List.cons_append]
  repeat' (first
    | (refine WO.yes rfl ?_)
    | (refine WO.noE rfl (by simp only [pt8, pt0, pt1, pt2, pt3, pt4, pt5, pt6, pt7]; rfl) ?_)
    | (refine WO.opE (by intro; simp (disch := omega) only [go_sem, Zz.look, Zz.over, Zz.cut, Nat.reduceAdd, Nat.reduceMul, Nat.reduceSub, Nat.reduceLeDiff, Nat.reduceEqDiff, Int.reduceNeg, Int.reduceAdd, Int.reduceToNat, reduceIte, reduceCtorEq, Nat.mul_one]; rfl) (by simp only [pt8, pt0, pt1, pt2, pt3, pt4, pt5, pt6, pt7]; rfl) ?_)
    | (refine WO.opN (by intro; simp (disch := omega) only [go_sem, Zz.look, Zz.over, Zz.cut, Nat.reduceAdd, Nat.reduceMul, Nat.reduceSub, Nat.reduceLeDiff, Nat.reduceEqDiff, Int.reduceNeg, Int.reduceAdd, Int.reduceToNat, reduceIte, reduceCtorEq, Nat.mul_one]; rfl) ?_)
    | (refine WO.opE (by intro; exact ev_lenS (by simp only [go_sem]; first | rfl | assumption)) (by simp only [pt8, pt0, pt1, pt2, pt3, pt4, pt5, pt6, pt7]; rfl) ?_)
    | (refine WC.seq ?_)
    | (refine WC.region ?_)
    | (refine WO.nil ?_)
    | (simp only [fl1, fl2, fl3, fl4, fl5, fl6, fl7, fl8, fl9, fl10, Nat.reduceBEq])
    | (refine WC.calm rfl ?_)
    | (refine WC.drawT ?_)
    | (refine WT.nil ?_)
    | (refine WT.yes rfl ?_)
    | (refine WT.no rfl (by simp only [pt8, pt0, pt1, pt2, pt3, pt4, pt5, pt6, pt7]; rfl) ?_)
    | (refine WT.free rfl (by intro; simp (disch := omega) only [go_sem, Zz.look, Zz.over, Zz.cut, Nat.reduceAdd, Nat.reduceMul, Nat.reduceSub, Nat.reduceLeDiff, Nat.reduceEqDiff, Int.reduceNeg, Int.reduceAdd, Int.reduceToNat, reduceIte, reduceCtorEq, Nat.mul_one]; rfl) rfl (by simp only [pt8, pt0, pt1, pt2, pt3, pt4, pt5, pt6, pt7]; rfl) ?_)
    | (refine WT.big rfl rfl (by intro; simp (disch := omega) only [go_sem, Zz.look, Zz.over, Zz.cut, Nat.reduceAdd, Nat.reduceMul, Nat.reduceSub, Nat.reduceLeDiff, Nat.reduceEqDiff, Int.reduceNeg, Int.reduceAdd, Int.reduceToNat, reduceIte, reduceCtorEq, Nat.mul_one]; rfl) (by simp (disch := omega) only [go_sem, Zz.look, Zz.over, Zz.cut, Nat.reduceAdd, Nat.reduceMul, Nat.reduceSub, Nat.reduceLeDiff, Nat.reduceEqDiff, Int.reduceNeg, Int.reduceAdd, Int.reduceToNat, reduceIte, reduceCtorEq, Nat.mul_one, touch]; rfl) (by first | exact .inl rfl | exact .inr (apart_nil _) | (right; apply apart_mk; simp only [apartL, List.nil_append, List.cons_append, List.getElem?_cons_succ, List.getElem?_cons_zero, Tch.free, and_true, true_and]; first | done | omega)) (by simp only [pt8, pt0, pt1, pt2, pt3, pt4, pt5, pt6, pt7]; rfl) ?_)
    | (refine WT.bigN rfl rfl (by intro; simp (disch := omega) only [go_sem, Zz.look, Zz.over, Zz.cut, Nat.reduceAdd, Nat.reduceMul, Nat.reduceSub, Nat.reduceLeDiff, Nat.reduceEqDiff, Int.reduceNeg, Int.reduceAdd, Int.reduceToNat, reduceIte, reduceCtorEq, Nat.mul_one]; rfl) (by simp (disch := omega) only [go_sem, Zz.look, Zz.over, Zz.cut, Nat.reduceAdd, Nat.reduceMul, Nat.reduceSub, Nat.reduceLeDiff, Nat.reduceEqDiff, Int.reduceNeg, Int.reduceAdd, Int.reduceToNat, reduceIte, reduceCtorEq, Nat.mul_one, touch]; rfl) (by first | exact .inl rfl | exact .inr (apart_nil _) | (right; apply apart_mk; simp only [apartL, List.nil_append, List.cons_append, List.getElem?_cons_succ, List.getElem?_cons_zero, Tch.free, and_true, true_and]; first | done | omega)) ?_)
    | (refine WC.yes rfl ?_)
    | (refine WC.no rfl ?_)
    | (refine WC.skip ?_)
    | (refine WC.exit ?_)
    | (refine WC.ret ?_)
    | (refine WC.block ?_)
    | (refine WT.em2 rfl (by intro hp; simp only [hp, decide_true]; rfl) (by intro hp; simp only [hp, decide_false]; rfl) (fun hp => ?_) (fun hp => ?_) <;> try (exfalso; first | omega | contradiction))
    | (refine WO.em2 rfl (by intro hp; simp only [hp, decide_true]; rfl) (by intro hp; simp only [hp, decide_false]; rfl) (fun hp => ?_) (fun hp => ?_) <;> try (exfalso; first | omega | contradiction))
    | (refine WC.em2 rfl (fun hp => ?_) (fun hp => ?_) <;> try (exfalso; first | omega | contradiction)))
  refine WC.loopI (fun m s => ∃ T H i v q, s = ⟨T, H, []⟩ ∧ T.length = 58 ∧ gt T 0 = .int .i64 n ∧ gt T 1 = l ∧ gt T 5 = v ∧ gt T 6 = .int .i64 (i : Nat) ∧ (i : Int) ≤ n ∧ (m : Int) + i = n ∧ GS 1 H v q ((List.range i).map fun j : Nat => AV.int .i64 (j : Int))) ?_ n.toNat _ ⟨_, _, 0, _, 0, rfl, rfl, rfl, rfl, rfl, rfl, by omega, by omega, .inr (.inl ⟨0, rfl, rfl, rfl⟩)⟩
  rintro m _ ⟨T, H, i, v, q, rfl, hT, g0, g1, g5, g6, hi, hm, hg⟩
  obtain ⟨f, rfl⟩ := ex58 hT
  clear hT
  replace g0 : f 0 = .int .i64 n := g0
  replace g1 : f 1 = l := g1
  replace g5 : f 5 = v := g5
  replace g6 : f 6 = .int .i64 (i : Nat) := g6
  simp only [g0, g1, g5, g6]
  by_cases hin : (i : Int) < n
  · obtain ⟨v', q', H1, e1, a1, a2, a3, a4⟩ := (hg.more [some ⟨0, [.int .i64 (i : Int)]⟩]).append (L := []) (bytes := 8) (n := 1) (cap := some 1) (id := H.length) (lk0 rfl) rfl Nat.one_pos Nat.one_pos ⟨by rw [Nat.div_one]; simp; omega, by rw [Nat.div_one]; simp; omega⟩
    repeat' (first
      | (refine WO.yes rfl ?_)
      | (refine WO.noE rfl (by simp only [pt8, pt0, pt1, pt2, pt3, pt4, pt5, pt6, pt7]; rfl) ?_)
      | (refine WO.opE (by intro; simp (disch := omega) only [go_sem, zeros, Zz.cut, List.append_assoc, List.length_append, Nat.reduceAdd, Nat.reduceMul, Nat.reduceSub, Nat.reduceLeDiff, Nat.reduceEqDiff, Int.reduceNeg, Int.reduceAdd, Int.reduceToNat, reduceIte, reduceCtorEq, Nat.mul_one]; rfl) (by simp only [pt8, pt0, pt1, pt2, pt3, pt4, pt5, pt6, pt7]; rfl) ?_)
      | (refine WO.opN (by intro; simp (disch := omega) only [go_sem, zeros, Zz.cut, List.append_assoc, List.length_append, Nat.reduceAdd, Nat.reduceMul, Nat.reduceSub, Nat.reduceLeDiff, Nat.reduceEqDiff, Int.reduceNeg, Int.reduceAdd, Int.reduceToNat, reduceIte, reduceCtorEq, Nat.mul_one]; rfl) ?_)
      | (refine WO.opE (by intro; exact ev_lenS (by simp only [go_sem]; first | rfl | assumption)) (by simp only [pt8, pt0, pt1, pt2, pt3, pt4, pt5, pt6, pt7]; rfl) ?_)
      | (refine WO.opE (by intro; rw [ev_append]; exact e1) (by simp only [pt8, pt0, pt1, pt2, pt3, pt4, pt5, pt6, pt7]; rfl) ?_)
      | (refine WC.seq ?_)
      | (refine WC.region ?_)
      | (refine WO.nil ?_)
      | (simp only [fl1, fl2, fl3, fl4, fl5, fl6, fl7, fl8, fl9, fl10, Nat.reduceBEq])
      | (refine WC.calm rfl ?_)
      | (refine WC.drawT ?_)
      | (refine WT.nil ?_)
      | (refine WT.yes rfl ?_)
      | (refine WT.no rfl (by simp only [pt8, pt0, pt1, pt2, pt3, pt4, pt5, pt6, pt7]; rfl) ?_)
      | (refine WT.free rfl (by intro; simp (disch := omega) only [go_sem, zeros, Zz.cut, List.append_assoc, List.length_append, Nat.reduceAdd, Nat.reduceMul, Nat.reduceSub, Nat.reduceLeDiff, Nat.reduceEqDiff, Int.reduceNeg, Int.reduceAdd, Int.reduceToNat, reduceIte, reduceCtorEq, Nat.mul_one]; rfl) rfl (by simp only [pt8, pt0, pt1, pt2, pt3, pt4, pt5, pt6, pt7]; rfl) ?_)
      | (refine WT.big rfl rfl (by intro; simp (disch := omega) only [go_sem, zeros, Zz.cut, List.append_assoc, List.length_append, Nat.reduceAdd, Nat.reduceMul, Nat.reduceSub, Nat.reduceLeDiff, Nat.reduceEqDiff, Int.reduceNeg, Int.reduceAdd, Int.reduceToNat, reduceIte, reduceCtorEq, Nat.mul_one]; rfl) (by simp (disch := omega) only [go_sem, zeros, Zz.cut, List.append_assoc, List.length_append, Nat.reduceAdd, Nat.reduceMul, Nat.reduceSub, Nat.reduceLeDiff, Nat.reduceEqDiff, Int.reduceNeg, Int.reduceAdd, Int.reduceToNat, reduceIte, reduceCtorEq, Nat.mul_one, touch]; rfl) (by first | exact .inl rfl | exact .inr (apart_nil _) | (right; apply apart_mk; simp only [apartL, List.nil_append, List.cons_append, List.getElem?_cons_succ, List.getElem?_cons_zero, Tch.free, and_true, true_and]; first | done | omega)) (by simp only [pt8, pt0, pt1, pt2, pt3, pt4, pt5, pt6, pt7]; rfl) ?_)
      | (refine WT.bigN rfl rfl (by intro; simp (disch := omega) only [go_sem, zeros, Zz.cut, List.append_assoc, List.length_append, Nat.reduceAdd, Nat.reduceMul, Nat.reduceSub, Nat.reduceLeDiff, Nat.reduceEqDiff, Int.reduceNeg, Int.reduceAdd, Int.reduceToNat, reduceIte, reduceCtorEq, Nat.mul_one]; rfl) (by simp (disch := omega) only [go_sem, zeros, Zz.cut, List.append_assoc, List.length_append, Nat.reduceAdd, Nat.reduceMul, Nat.reduceSub, Nat.reduceLeDiff, Nat.reduceEqDiff, Int.reduceNeg, Int.reduceAdd, Int.reduceToNat, reduceIte, reduceCtorEq, Nat.mul_one, touch]; rfl) (by first | exact .inl rfl | exact .inr (apart_nil _) | (right; apply apart_mk; simp only [apartL, List.nil_append, List.cons_append, List.getElem?_cons_succ, List.getElem?_cons_zero, Tch.free, and_true, true_and]; first | done | omega)) ?_)
      | (refine WC.yes rfl ?_)
      | (refine WC.no rfl ?_)
      | (refine WC.skip ?_)
      | (refine WC.exit ?_)
      | (refine WC.ret ?_)
      | (refine WC.block ?_)
      | (refine WT.em2 rfl (by intro hp; simp only [hp, decide_true]; rfl) (by intro hp; simp only [hp, decide_false]; rfl) (fun hp => ?_) (fun hp => ?_) <;> try (exfalso; first | omega | contradiction))
      | (refine WO.em2 rfl (by intro hp; simp only [hp, decide_true]; rfl) (by intro hp; simp only [hp, decide_false]; rfl) (fun hp => ?_) (fun hp => ?_) <;> try (exfalso; first | omega | contradiction))
      | (refine WC.em2 rfl (fun hp => ?_) (fun hp => ?_) <;> try (exfalso; first | omega | contradiction)))
    exact ⟨m - 1, by omega, _, _, i + 1, _, _, rfl, rfl, rfl, rfl, rfl, rfl, by omega, by omega, by rw [List.range_succ, List.map_append]; exact a1⟩
  · have hin' : i = n.toNat := by omega
    subst hin'
    obtain ⟨g, n1, rfl, d1, d2, d3⟩ := hg.ref (by intro e; rw [List.map_eq_nil_iff, List.range_eq_nil] at e; omega)
    have hn1' : n1 = n.toNat := by simpa using d1.symm
    subst hn1'
    have hF := fam_of (fun c : List Int => c.map (AV.int .i64)) (g := g) d3
    have e0 : ((List.range n.toNat).map fun j : Nat => AV.int .i64 (j : Int)) = ((List.range n.toNat).map fun j : Nat => (j : Int)).map (.int .i64) := by simp
    rw [e0] at d2
    have eH : H = (fun x : List Int => H.set q (some ⟨g, x.map (AV.int .i64)⟩)) ((List.range n.toNat).map fun j : Nat => (j : Int)) ++ [] := by
      rw [List.append_nil]
      exact (set_same d2).symm
    repeat' (first
      | (refine WO.yes rfl ?_)
      | (refine WO.noE rfl (by simp only [pt8, pt0, pt1, pt2, pt3, pt4, pt5, pt6, pt7]; rfl) ?_)
      | (refine WO.opE (by intro; simp (disch := omega) only [go_sem, zeros, Zz.cut, List.append_assoc, List.length_append, Nat.reduceAdd, Nat.reduceMul, Nat.reduceSub, Nat.reduceLeDiff, Nat.reduceEqDiff, Int.reduceNeg, Int.reduceAdd, Int.reduceToNat, reduceIte, reduceCtorEq, Nat.mul_one]; rfl) (by simp only [pt8, pt0, pt1, pt2, pt3, pt4, pt5, pt6, pt7]; rfl) ?_)
      | (refine WO.opN (by intro; simp (disch := omega) only [go_sem, zeros, Zz.cut, List.append_assoc, List.length_append, Nat.reduceAdd, Nat.reduceMul, Nat.reduceSub, Nat.reduceLeDiff, Nat.reduceEqDiff, Int.reduceNeg, Int.reduceAdd, Int.reduceToNat, reduceIte, reduceCtorEq, Nat.mul_one]; rfl) ?_)
      | (refine WO.opE (by intro; exact ev_lenS (by simp only [go_sem]; first | rfl | assumption)) (by simp only [pt8, pt0, pt1, pt2, pt3, pt4, pt5, pt6, pt7]; rfl) ?_)
      | (refine WC.seq ?_)
      | (refine WC.region ?_)
      | (refine WO.nil ?_)
      | (simp only [fl1, fl2, fl3, fl4, fl5, fl6, fl7, fl8, fl9, fl10, Nat.reduceBEq])
      | (refine WC.calm rfl ?_)
      | (refine WC.drawT ?_)
      | (refine WT.nil ?_)
      | (refine WT.yes rfl ?_)
      | (refine WT.no rfl (by simp only [pt8, pt0, pt1, pt2, pt3, pt4, pt5, pt6, pt7]; rfl) ?_)
      | (refine WT.free rfl (by intro; simp (disch := omega) only [go_sem, zeros, Zz.cut, List.append_assoc, List.length_append, Nat.reduceAdd, Nat.reduceMul, Nat.reduceSub, Nat.reduceLeDiff, Nat.reduceEqDiff, Int.reduceNeg, Int.reduceAdd, Int.reduceToNat, reduceIte, reduceCtorEq, Nat.mul_one]; rfl) rfl (by simp only [pt8, pt0, pt1, pt2, pt3, pt4, pt5, pt6, pt7]; rfl) ?_)
      | (refine WT.big rfl rfl (by intro; simp (disch := omega) only [go_sem, zeros, Zz.cut, List.append_assoc, List.length_append, Nat.reduceAdd, Nat.reduceMul, Nat.reduceSub, Nat.reduceLeDiff, Nat.reduceEqDiff, Int.reduceNeg, Int.reduceAdd, Int.reduceToNat, reduceIte, reduceCtorEq, Nat.mul_one]; rfl) (by simp (disch := omega) only [go_sem, zeros, Zz.cut, List.append_assoc, List.length_append, Nat.reduceAdd, Nat.reduceMul, Nat.reduceSub, Nat.reduceLeDiff, Nat.reduceEqDiff, Int.reduceNeg, Int.reduceAdd, Int.reduceToNat, reduceIte, reduceCtorEq, Nat.mul_one, touch]; rfl) (by first | exact .inl rfl | exact .inr (apart_nil _) | (right; apply apart_mk; simp only [apartL, List.nil_append, List.cons_append, List.getElem?_cons_succ, List.getElem?_cons_zero, Tch.free, and_true, true_and]; first | done | omega)) (by simp only [pt8, pt0, pt1, pt2, pt3, pt4, pt5, pt6, pt7]; rfl) ?_)
      | (refine WT.bigN rfl rfl (by intro; simp (disch := omega) only [go_sem, zeros, Zz.cut, List.append_assoc, List.length_append, Nat.reduceAdd, Nat.reduceMul, Nat.reduceSub, Nat.reduceLeDiff, Nat.reduceEqDiff, Int.reduceNeg, Int.reduceAdd, Int.reduceToNat, reduceIte, reduceCtorEq, Nat.mul_one]; rfl) (by simp (disch := omega) only [go_sem, zeros, Zz.cut, List.append_assoc, List.length_append, Nat.reduceAdd, Nat.reduceMul, Nat.reduceSub, Nat.reduceLeDiff, Nat.reduceEqDiff, Int.reduceNeg, Int.reduceAdd, Int.reduceToNat, reduceIte, reduceCtorEq, Nat.mul_one, touch]; rfl) (by first | exact .inl rfl | exact .inr (apart_nil _) | (right; apply apart_mk; simp only [apartL, List.nil_append, List.cons_append, List.getElem?_cons_succ, List.getElem?_cons_zero, Tch.free, and_true, true_and]; first | done | omega)) ?_)
      | (refine WC.yes rfl ?_)
      | (refine WC.no rfl ?_)
      | (refine WC.skip ?_)
      | (refine WC.exit ?_)
      | (refine WC.ret ?_)
      | (refine WC.block ?_)
      | (refine WT.em2 rfl (by intro hp; simp only [hp, decide_true]; rfl) (by intro hp; simp only [hp, decide_false]; rfl) (fun hp => ?_) (fun hp => ?_) <;> try (exfalso; first | omega | contradiction))
      | (refine WO.em2 rfl (by intro hp; simp only [hp, decide_true]; rfl) (by intro hp; simp only [hp, decide_false]; rfl) (fun hp => ?_) (fun hp => ?_) <;> try (exfalso; first | omega | contradiction))
      | (refine WC.em2 rfl (fun hp => ?_) (fun hp => ?_) <;> try (exfalso; first | omega | contradiction)))
    rw [eH]
    generalize (fun x : List Int => H.set q (some ⟨g, x.map (AV.int .i64)⟩)) = A at *
    generalize hN : H.length = N at *
    clear eH d2 hg hN
    refine WC.loopI (fun m s => ∃ T R r c, s = ⟨T, A c ++ R, []⟩ ∧ T.length = 58 ∧ gt T 0 = .int .i64 n ∧ gt T 1 = l ∧ gt T 5 = .sref q g 0 1 n.toNat none ∧ gt T 7 = .int .i64 (r : Nat) ∧ (r : Int) ≤ n ∧ (m : Int) + r = n ∧ Names n rs (r * (2 * rs.length)) c) ?_ n.toNat _ ⟨_, _, 0, _, rfl, rfl, rfl, rfl, rfl, rfl, by omega, by omega, by simp, fun v hv => by simp [hv, Bf.run, nm, List.getD_eq_getElem?_getD]⟩
    clear g0 g1 g5 g6 f hm m
    rintro m _ ⟨T, R, r, c, rfl, hT, g0, g1, g5, g7, hr, hm, hc⟩
    obtain ⟨f, rfl⟩ := ex58 hT
    clear hT
    replace g0 : f 0 = .int .i64 n := g0
    replace g1 : f 1 = l := g1
    replace g5 : f 5 = .sref q g 0 1 n.toNat none := g5
    replace g7 : f 7 = .int .i64 (r : Nat) := g7
    simp only [g0, g1, g5, g7]
    repeat' (first
      | (refine WO.yes rfl ?_)
      | (refine WO.noE rfl (by simp only [pt8, pt0, pt1, pt2, pt3, pt4, pt5, pt6, pt7]; rfl) ?_)
      | (refine WO.opE (by intro; simp (disch := first | omega | (simp only [hF.len]) | (simp only [List.length_set]; omega)) only [go_sem, zeros, Zz.cut, List.append_assoc, List.length_append, Nat.reduceAdd, Nat.reduceMul, Nat.reduceSub, Nat.reduceLeDiff, Nat.reduceEqDiff, Int.reduceNeg, Int.reduceAdd, Int.reduceToNat, reduceIte, reduceCtorEq, Nat.mul_one, ia_sref, lk0, lk1, st0, st1, lkr00, str00, hF.len, hF.look, hF.set, int_at, int_over, hl.at, cut4]; rfl) (by simp only [pt8, pt0, pt1, pt2, pt3, pt4, pt5, pt6, pt7]; rfl) ?_)
      | (refine WO.opN (by intro; simp (disch := first | omega | (simp only [hF.len]) | (simp only [List.length_set]; omega)) only [go_sem, zeros, Zz.cut, List.append_assoc, List.length_append, Nat.reduceAdd, Nat.reduceMul, Nat.reduceSub, Nat.reduceLeDiff, Nat.reduceEqDiff, Int.reduceNeg, Int.reduceAdd, Int.reduceToNat, reduceIte, reduceCtorEq, Nat.mul_one, ia_sref, lk0, lk1, st0, st1, lkr00, str00, hF.len, hF.look, hF.set, int_at, int_over, hl.at, cut4]; rfl) ?_)
      | (refine WO.opE (by intro; exact ev_lenS (by simp only [go_sem]; first | rfl | assumption)) (by simp only [pt8, pt0, pt1, pt2, pt3, pt4, pt5, pt6, pt7]; rfl) ?_)
      | (refine WO.opE (by intro; exact ev_lenS (by simp only [go_sem]; exact hlen)) (by simp only [pt8, pt0, pt1, pt2, pt3, pt4, pt5, pt6, pt7]; rfl) ?_)
      | (refine WC.seq ?_)
      | (refine WC.region ?_)
      | (refine WO.nil ?_)
      | (simp only [fl1, fl2, fl3, fl4, fl5, fl6, fl7, fl8, fl9, fl10, Nat.reduceBEq])
      | (refine WC.calm rfl ?_)
      | (refine WC.drawT ?_)
      | (refine WT.nil ?_)
      | (refine WT.yes rfl ?_)
      | (refine WT.no rfl (by simp only [pt8, pt0, pt1, pt2, pt3, pt4, pt5, pt6, pt7]; rfl) ?_)
      | (refine WT.free rfl (by intro; simp (disch := first | omega | (simp only [hF.len]) | (simp only [List.length_set]; omega)) only [go_sem, zeros, Zz.cut, List.append_assoc, List.length_append, Nat.reduceAdd, Nat.reduceMul, Nat.reduceSub, Nat.reduceLeDiff, Nat.reduceEqDiff, Int.reduceNeg, Int.reduceAdd, Int.reduceToNat, reduceIte, reduceCtorEq, Nat.mul_one, ia_sref, lk0, lk1, st0, st1, lkr00, str00, hF.len, hF.look, hF.set, int_at, int_over, hl.at, cut4]; rfl) rfl (by simp only [pt8, pt0, pt1, pt2, pt3, pt4, pt5, pt6, pt7]; rfl) ?_)
      | (refine WT.big rfl rfl (by intro; simp (disch := first | omega | (simp only [hF.len]) | (simp only [List.length_set]; omega)) only [go_sem, zeros, Zz.cut, List.append_assoc, List.length_append, Nat.reduceAdd, Nat.reduceMul, Nat.reduceSub, Nat.reduceLeDiff, Nat.reduceEqDiff, Int.reduceNeg, Int.reduceAdd, Int.reduceToNat, reduceIte, reduceCtorEq, Nat.mul_one, ia_sref, lk0, lk1, st0, st1, lkr00, str00, hF.len, hF.look, hF.set, int_at, int_over, hl.at, cut4]; rfl) (by simp (disch := first | omega | (simp only [hF.len]) | (simp only [List.length_set]; omega)) only [go_sem, zeros, Zz.cut, List.append_assoc, List.length_append, Nat.reduceAdd, Nat.reduceMul, Nat.reduceSub, Nat.reduceLeDiff, Nat.reduceEqDiff, Int.reduceNeg, Int.reduceAdd, Int.reduceToNat, reduceIte, reduceCtorEq, Nat.mul_one, ia_sref, lk0, lk1, st0, st1, lkr00, str00, hF.len, hF.look, hF.set, int_at, int_over, hl.at, cut4, touch]; rfl) (by first | exact .inl rfl | exact .inr (apart_nil _) | (right; apply apart_mk; simp only [apartL, List.nil_append, List.cons_append, List.getElem?_cons_succ, List.getElem?_cons_zero, Tch.free, and_true, true_and]; first | done | omega)) (by simp only [pt8, pt0, pt1, pt2, pt3, pt4, pt5, pt6, pt7]; rfl) ?_)
      | (refine WT.bigN rfl rfl (by intro; simp (disch := first | omega | (simp only [hF.len]) | (simp only [List.length_set]; omega)) only [go_sem, zeros, Zz.cut, List.append_assoc, List.length_append, Nat.reduceAdd, Nat.reduceMul, Nat.reduceSub, Nat.reduceLeDiff, Nat.reduceEqDiff, Int.reduceNeg, Int.reduceAdd, Int.reduceToNat, reduceIte, reduceCtorEq, Nat.mul_one, ia_sref, lk0, lk1, st0, st1, lkr00, str00, hF.len, hF.look, hF.set, int_at, int_over, hl.at, cut4]; rfl) (by simp (disch := first | omega | (simp only [hF.len]) | (simp only [List.length_set]; omega)) only [go_sem, zeros, Zz.cut, List.append_assoc, List.length_append, Nat.reduceAdd, Nat.reduceMul, Nat.reduceSub, Nat.reduceLeDiff, Nat.reduceEqDiff, Int.reduceNeg, Int.reduceAdd, Int.reduceToNat, reduceIte, reduceCtorEq, Nat.mul_one, ia_sref, lk0, lk1, st0, st1, lkr00, str00, hF.len, hF.look, hF.set, int_at, int_over, hl.at, cut4, touch]; rfl) (by first | exact .inl rfl | exact .inr (apart_nil _) | (right; apply apart_mk; simp only [apartL, List.nil_append, List.cons_append, List.getElem?_cons_succ, List.getElem?_cons_zero, Tch.free, and_true, true_and]; first | done | omega)) ?_)
      | (refine WC.yes rfl ?_)
      | (refine WC.no rfl ?_)
      | (refine WC.skip ?_)
      | (refine WC.exit ?_)
      | (refine WC.ret ?_)
      | (refine WC.block ?_)
      | (refine WT.em2 rfl (by intro hp; simp only [hp, decide_true]; rfl) (by intro hp; simp only [hp, decide_false]; rfl) (fun hp => ?_) (fun hp => ?_) <;> try (exfalso; first | omega | contradiction))
      | (refine WO.em2 rfl (by intro hp; simp only [hp, decide_true]; rfl) (by intro hp; simp only [hp, decide_false]; rfl) (fun hp => ?_) (fun hp => ?_) <;> try (exfalso; first | omega | contradiction))
      | (refine WC.em2 rfl (fun hp => ?_) (fun hp => ?_) <;> try (exfalso; first | omega | contradiction)))
    · refine WC.loopI (fun m' s => ∃ T R i c, s = ⟨T, A c ++ R, []⟩ ∧ T.length = 58 ∧ gt T 0 = .int .i64 n ∧ gt T 1 = l ∧ gt T 5 = .sref q g 0 1 n.toNat none ∧ gt T 7 = .int .i64 (r : Nat) ∧ gt T 8 = .int .i64 (i : Nat) ∧ m' + i = rs.length ∧ Names n rs (r * (2 * rs.length) + 2 * i) c) ?_ rs.length _ ⟨_, _, 0, _, rfl, rfl, rfl, rfl, rfl, rfl, rfl, by omega, hc⟩
      clear g0 g1 g5 g7 f hc c
      rintro m' _ ⟨T, R, i, c, rfl, hT, g0, g1, g5, g7, g8, hm', hc⟩
      obtain ⟨f, rfl⟩ := ex58 hT
      clear hT
      replace g0 : f 0 = .int .i64 n := g0
      replace g1 : f 1 = l := g1
      replace g5 : f 5 = .sref q g 0 1 n.toNat none := g5
      replace g7 : f 7 = .int .i64 (r : Nat) := g7
      replace g8 : f 8 = .int .i64 (i : Nat) := g8
      simp only [g0, g1, g5, g7, g8]
      by_cases hi : i < rs.length
      · obtain ⟨o1, o2, o3, o4, o5, o6, o7, o8⟩ := hv.at hi
        have hcl := hc.1
        repeat' (first
          | (refine WO.yes rfl ?_)
          | (refine WO.noE rfl (by simp only [pt8, pt0, pt1, pt2, pt3, pt4, pt5, pt6, pt7]; rfl) ?_)
          | (refine WO.opE (by intro; simp (disch := first | omega | (simp only [hF.len]) | (simp only [List.length_set]; omega)) only [go_sem, zeros, Zz.cut, List.append_assoc, List.length_append, Nat.reduceAdd, Nat.reduceMul, Nat.reduceSub, Nat.reduceLeDiff, Nat.reduceEqDiff, Int.reduceNeg, Int.reduceAdd, Int.reduceToNat, reduceIte, reduceCtorEq, Nat.mul_one, ia_sref, lk0, lk1, st0, st1, lkr00, str00, hF.len, hF.look, hF.set, int_at, int_over, hl.at, cut4]; rfl) (by simp only [pt8, pt0, pt1, pt2, pt3, pt4, pt5, pt6, pt7]; rfl) ?_)
          | (refine WO.opN (by intro; simp (disch := first | omega | (simp only [hF.len]) | (simp only [List.length_set]; omega)) only [go_sem, zeros, Zz.cut, List.append_assoc, List.length_append, Nat.reduceAdd, Nat.reduceMul, Nat.reduceSub, Nat.reduceLeDiff, Nat.reduceEqDiff, Int.reduceNeg, Int.reduceAdd, Int.reduceToNat, reduceIte, reduceCtorEq, Nat.mul_one, ia_sref, lk0, lk1, st0, st1, lkr00, str00, hF.len, hF.look, hF.set, int_at, int_over, hl.at, cut4]; rfl) ?_)
          | (refine WO.opE (by intro; exact ev_lenS (by simp only [go_sem]; first | rfl | assumption)) (by simp only [pt8, pt0, pt1, pt2, pt3, pt4, pt5, pt6, pt7]; rfl) ?_)
          | (refine WO.opE (by intro; exact ev_lenS (by simp only [go_sem]; exact hlen)) (by simp only [pt8, pt0, pt1, pt2, pt3, pt4, pt5, pt6, pt7]; rfl) ?_)
          | (refine WC.seq ?_)
          | (refine WC.region ?_)
          | (refine WO.nil ?_)
          | (simp only [fl1, fl2, fl3, fl4, fl5, fl6, fl7, fl8, fl9, fl10, Nat.reduceBEq])
          | (refine WC.calm rfl ?_)
          | (refine WC.drawT ?_)
          | (refine WT.nil ?_)
          | (refine WT.yes rfl ?_)
          | (refine WT.no rfl (by simp only [pt8, pt0, pt1, pt2, pt3, pt4, pt5, pt6, pt7]; rfl) ?_)
          | (refine WT.free rfl (by intro; simp (disch := first | omega | (simp only [hF.len]) | (simp only [List.length_set]; omega)) only [go_sem, zeros, Zz.cut, List.append_assoc, List.length_append, Nat.reduceAdd, Nat.reduceMul, Nat.reduceSub, Nat.reduceLeDiff, Nat.reduceEqDiff, Int.reduceNeg, Int.reduceAdd, Int.reduceToNat, reduceIte, reduceCtorEq, Nat.mul_one, ia_sref, lk0, lk1, st0, st1, lkr00, str00, hF.len, hF.look, hF.set, int_at, int_over, hl.at, cut4]; rfl) rfl (by simp only [pt8, pt0, pt1, pt2, pt3, pt4, pt5, pt6, pt7]; rfl) ?_)
          | (refine WT.big rfl rfl (by intro; simp (disch := first | omega | (simp only [hF.len]) | (simp only [List.length_set]; omega)) only [go_sem, zeros, Zz.cut, List.append_assoc, List.length_append, Nat.reduceAdd, Nat.reduceMul, Nat.reduceSub, Nat.reduceLeDiff, Nat.reduceEqDiff, Int.reduceNeg, Int.reduceAdd, Int.reduceToNat, reduceIte, reduceCtorEq, Nat.mul_one, ia_sref, lk0, lk1, st0, st1, lkr00, str00, hF.len, hF.look, hF.set, int_at, int_over, hl.at, cut4]; rfl) (by simp (disch := first | omega | (simp only [hF.len]) | (simp only [List.length_set]; omega)) only [go_sem, zeros, Zz.cut, List.append_assoc, List.length_append, Nat.reduceAdd, Nat.reduceMul, Nat.reduceSub, Nat.reduceLeDiff, Nat.reduceEqDiff, Int.reduceNeg, Int.reduceAdd, Int.reduceToNat, reduceIte, reduceCtorEq, Nat.mul_one, ia_sref, lk0, lk1, st0, st1, lkr00, str00, hF.len, hF.look, hF.set, int_at, int_over, hl.at, cut4, touch]; rfl) (by first | exact .inl rfl | exact .inr (apart_nil _) | (right; apply apart_mk; simp only [apartL, List.nil_append, List.cons_append, List.getElem?_cons_succ, List.getElem?_cons_zero, Tch.free, and_true, true_and]; first | done | omega)) (by simp only [pt8, pt0, pt1, pt2, pt3, pt4, pt5, pt6, pt7]; rfl) ?_)
          | (refine WT.bigN rfl rfl (by intro; simp (disch := first | omega | (simp only [hF.len]) | (simp only [List.length_set]; omega)) only [go_sem, zeros, Zz.cut, List.append_assoc, List.length_append, Nat.reduceAdd, Nat.reduceMul, Nat.reduceSub, Nat.reduceLeDiff, Nat.reduceEqDiff, Int.reduceNeg, Int.reduceAdd, Int.reduceToNat, reduceIte, reduceCtorEq, Nat.mul_one, ia_sref, lk0, lk1, st0, st1, lkr00, str00, hF.len, hF.look, hF.set, int_at, int_over, hl.at, cut4]; rfl) (by simp (disch := first | omega | (simp only [hF.len]) | (simp only [List.length_set]; omega)) only [go_sem, zeros, Zz.cut, List.append_assoc, List.length_append, Nat.reduceAdd, Nat.reduceMul, Nat.reduceSub, Nat.reduceLeDiff, Nat.reduceEqDiff, Int.reduceNeg, Int.reduceAdd, Int.reduceToNat, reduceIte, reduceCtorEq, Nat.mul_one, ia_sref, lk0, lk1, st0, st1, lkr00, str00, hF.len, hF.look, hF.set, int_at, int_over, hl.at, cut4, touch]; rfl) (by first | exact .inl rfl | exact .inr (apart_nil _) | (right; apply apart_mk; simp only [apartL, List.nil_append, List.cons_append, List.getElem?_cons_succ, List.getElem?_cons_zero, Tch.free, and_true, true_and]; first | done | omega)) ?_)
          | (refine WC.yes rfl ?_)
          | (refine WC.no rfl ?_)
          | (refine WC.skip ?_)
          | (refine WC.exit ?_)
          | (refine WC.ret ?_)
          | (refine WC.block ?_)
          | (refine WT.em2 rfl (by intro hp; simp only [hp, decide_true]; rfl) (by intro hp; simp only [hp, decide_false]; rfl) (fun hp => ?_) (fun hp => ?_) <;> try (exfalso; first | omega | contradiction))
          | (refine WO.em2 rfl (by intro hp; simp only [hp, decide_true]; rfl) (by intro hp; simp only [hp, decide_false]; rfl) (fun hp => ?_) (fun hp => ?_) <;> try (exfalso; first | omega | contradiction))
          | (refine WC.em2 rfl (fun hp => ?_) (fun hp => ?_) <;> try (exfalso; first | omega | contradiction)))
        exact ⟨m' - 1, by omega, _, _, i + 1, _, rfl, rfl, rfl, rfl, rfl, rfl, rfl, by omega, hc.next hv hi⟩
      · have hi' : i = rs.length := by omega
        subst hi'
        repeat' (first
          | (refine WO.yes rfl ?_)
          | (refine WO.noE rfl (by simp only [pt8, pt0, pt1, pt2, pt3, pt4, pt5, pt6, pt7]; rfl) ?_)
          | (refine WO.opE (by intro; simp (disch := first | omega | (simp only [hF.len]) | (simp only [List.length_set]; omega)) only [go_sem, zeros, Zz.cut, List.append_assoc, List.length_append, Nat.reduceAdd, Nat.reduceMul, Nat.reduceSub, Nat.reduceLeDiff, Nat.reduceEqDiff, Int.reduceNeg, Int.reduceAdd, Int.reduceToNat, reduceIte, reduceCtorEq, Nat.mul_one, ia_sref, lk0, lk1, st0, st1, lkr00, str00, hF.len, hF.look, hF.set, int_at, int_over, hl.at, cut4]; rfl) (by simp only [pt8, pt0, pt1, pt2, pt3, pt4, pt5, pt6, pt7]; rfl) ?_)
          | (refine WO.opN (by intro; simp (disch := first | omega | (simp only [hF.len]) | (simp only [List.length_set]; omega)) only [go_sem, zeros, Zz.cut, List.append_assoc, List.length_append, Nat.reduceAdd, Nat.reduceMul, Nat.reduceSub, Nat.reduceLeDiff, Nat.reduceEqDiff, Int.reduceNeg, Int.reduceAdd, Int.reduceToNat, reduceIte, reduceCtorEq, Nat.mul_one, ia_sref, lk0, lk1, st0, st1, lkr00, str00, hF.len, hF.look, hF.set, int_at, int_over, hl.at, cut4]; rfl) ?_)
          | (refine WO.opE (by intro; exact ev_lenS (by simp only [go_sem]; first | rfl | assumption)) (by simp only [pt8, pt0, pt1, pt2, pt3, pt4, pt5, pt6, pt7]; rfl) ?_)
          | (refine WO.opE (by intro; exact ev_lenS (by simp only [go_sem]; exact hlen)) (by simp only [pt8, pt0, pt1, pt2, pt3, pt4, pt5, pt6, pt7]; rfl) ?_)
          | (refine WC.seq ?_)
          | (refine WC.region ?_)
          | (refine WO.nil ?_)
          | (simp only [fl1, fl2, fl3, fl4, fl5, fl6, fl7, fl8, fl9, fl10, Nat.reduceBEq])
          | (refine WC.calm rfl ?_)
          | (refine WC.drawT ?_)
          | (refine WT.nil ?_)
          | (refine WT.yes rfl ?_)
          | (refine WT.no rfl (by simp only [pt8, pt0, pt1, pt2, pt3, pt4, pt5, pt6, pt7]; rfl) ?_)
          | (refine WT.free rfl (by intro; simp (disch := first | omega | (simp only [hF.len]) | (simp only [List.length_set]; omega)) only [go_sem, zeros, Zz.cut, List.append_assoc, List.length_append, Nat.reduceAdd, Nat.reduceMul, Nat.reduceSub, Nat.reduceLeDiff, Nat.reduceEqDiff, Int.reduceNeg, Int.reduceAdd, Int.reduceToNat, reduceIte, reduceCtorEq, Nat.mul_one, ia_sref, lk0, lk1, st0, st1, lkr00, str00, hF.len, hF.look, hF.set, int_at, int_over, hl.at, cut4]; rfl) rfl (by simp only [pt8, pt0, pt1, pt2, pt3, pt4, pt5, pt6, pt7]; rfl) ?_)
          | (refine WT.big rfl rfl (by intro; simp (disch := first | omega | (simp only [hF.len]) | (simp only [List.length_set]; omega)) only [go_sem, zeros, Zz.cut, List.append_assoc, List.length_append, Nat.reduceAdd, Nat.reduceMul, Nat.reduceSub, Nat.reduceLeDiff, Nat.reduceEqDiff, Int.reduceNeg, Int.reduceAdd, Int.reduceToNat, reduceIte, reduceCtorEq, Nat.mul_one, ia_sref, lk0, lk1, st0, st1, lkr00, str00, hF.len, hF.look, hF.set, int_at, int_over, hl.at, cut4]; rfl) (by simp (disch := first | omega | (simp only [hF.len]) | (simp only [List.length_set]; omega)) only [go_sem, zeros, Zz.cut, List.append_assoc, List.length_append, Nat.reduceAdd, Nat.reduceMul, Nat.reduceSub, Nat.reduceLeDiff, Nat.reduceEqDiff, Int.reduceNeg, Int.reduceAdd, Int.reduceToNat, reduceIte, reduceCtorEq, Nat.mul_one, ia_sref, lk0, lk1, st0, st1, lkr00, str00, hF.len, hF.look, hF.set, int_at, int_over, hl.at, cut4, touch]; rfl) (by first | exact .inl rfl | exact .inr (apart_nil _) | (right; apply apart_mk; simp only [apartL, List.nil_append, List.cons_append, List.getElem?_cons_succ, List.getElem?_cons_zero, Tch.free, and_true, true_and]; first | done | omega)) (by simp only [pt8, pt0, pt1, pt2, pt3, pt4, pt5, pt6, pt7]; rfl) ?_)
          | (refine WT.bigN rfl rfl (by intro; simp (disch := first | omega | (simp only [hF.len]) | (simp only [List.length_set]; omega)) only [go_sem, zeros, Zz.cut, List.append_assoc, List.length_append, Nat.reduceAdd, Nat.reduceMul, Nat.reduceSub, Nat.reduceLeDiff, Nat.reduceEqDiff, Int.reduceNeg, Int.reduceAdd, Int.reduceToNat, reduceIte, reduceCtorEq, Nat.mul_one, ia_sref, lk0, lk1, st0, st1, lkr00, str00, hF.len, hF.look, hF.set, int_at, int_over, hl.at, cut4]; rfl) (by simp (disch := first | omega | (simp only [hF.len]) | (simp only [List.length_set]; omega)) only [go_sem, zeros, Zz.cut, List.append_assoc, List.length_append, Nat.reduceAdd, Nat.reduceMul, Nat.reduceSub, Nat.reduceLeDiff, Nat.reduceEqDiff, Int.reduceNeg, Int.reduceAdd, Int.reduceToNat, reduceIte, reduceCtorEq, Nat.mul_one, ia_sref, lk0, lk1, st0, st1, lkr00, str00, hF.len, hF.look, hF.set, int_at, int_over, hl.at, cut4, touch]; rfl) (by first | exact .inl rfl | exact .inr (apart_nil _) | (right; apply apart_mk; simp only [apartL, List.nil_append, List.cons_append, List.getElem?_cons_succ, List.getElem?_cons_zero, Tch.free, and_true, true_and]; first | done | omega)) ?_)
          | (refine WC.yes rfl ?_)
          | (refine WC.no rfl ?_)
          | (refine WC.skip ?_)
          | (refine WC.exit ?_)
          | (refine WC.ret ?_)
          | (refine WC.block ?_)
          | (refine WT.em2 rfl (by intro hp; simp only [hp, decide_true]; rfl) (by intro hp; simp only [hp, decide_false]; rfl) (fun hp => ?_) (fun hp => ?_) <;> try (exfalso; first | omega | contradiction))
          | (refine WO.em2 rfl (by intro hp; simp only [hp, decide_true]; rfl) (by intro hp; simp only [hp, decide_false]; rfl) (fun hp => ?_) (fun hp => ?_) <;> try (exfalso; first | omega | contradiction))
          | (refine WC.em2 rfl (fun hp => ?_) (fun hp => ?_) <;> try (exfalso; first | omega | contradiction)))
        exact ⟨m - 1, by omega, _, _, r + 1, c, rfl, rfl, rfl, rfl, rfl, rfl, by omega, by omega, by rw [show (r + 1) * (2 * rs.length) = r * (2 * rs.length) + 2 * rs.length from Nat.succ_mul _ _]; exact hc⟩
    · have hr' : r = n.toNat := by omega
      subst hr'
      have h1 := resC_ints (cap := none) (hF.look c R) hc.1
      refine ⟨_, rfl, c, hc, ?_⟩
      rw [hc.1]
      exact h1
theorem s22 {n : Int} {rs : List Rg} (hv : VL n rs) {l : AV} (hl : RdL l rs) : ∃ c : List Int, (c.length = n.toNat ∧ ∀ v, v < n.toNat → ∃ w : Nat, c.getD v 0 = w ∧ (w : Int) < n ∧ FirstOf rs v w) ∧ ∀ m, borrowE E19 22 [.int .i64 n, l] m = some (.sval false c.length (c.map (.int .i64)), m) := by
  obtain ⟨k, y, m', h, c, hc, hr⟩ := (f22 hv hl).ex
  refine ⟨c, ⟨hc.1, fun v hvn => ?_⟩, fun m => borrowE_of (pures_cons rfl (pures_cons hl.pureA rfl)) ⟨⟨k, y, m', h, hr⟩⟩⟩
  obtain ⟨w, w1, w2, w3⟩ := name_first hv (v := v) (by omega)
  exact ⟨w, by rw [hc.2 v hvn]; exact w1, w2, w3⟩

noncomputable def E20 : Env := E19.put 22 (borrowE E19 22)
theorem E20_ok : EnvOk Try.prog E20 := Env.put_ok E19_ok (borrowE_ok E19_ok (callable Try.func22 (by kernel_rfl)))
end Go.Proofs.Ytndaljjljmmlcaa

