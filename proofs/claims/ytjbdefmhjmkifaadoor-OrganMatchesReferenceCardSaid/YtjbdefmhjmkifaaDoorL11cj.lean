import Derived.Test.YtjbdefmhjmkifaaDoorIr11xc10
import Derived.Test.YtjbdefmhjmkifaaDoorL11ci
import Derived.Test.YtjbdefmhjmkifaaDoorL11cq

set_option linter.unusedSimpArgs false
set_option linter.unusedVariables false
namespace Go.Proofs.YtjbdefmhjmkifaaDoor
open Go.Zz
set_option maxRecDepth 100000
set_option maxHeartbeats 8000000
theorem cutA {y0 y1 y2 y3 y4 y5 y6 y7 y8 y9 : AV} : Zz.cut [y0, y1, y2, y3, y4, y5, y6, y7, y8, y9] 1 6 = some [y1, y2, y3, y4, y5, y6] := by simp [Zz.cut]
theorem cut3z {x0 x1 x2 : AV} {l : List AV} : Zz.cut (x0 :: x1 :: x2 :: l) 0 3 = some [x0, x1, x2] := by simp [Zz.cut]
theorem cut2z {x0 x1 : AV} {l : List AV} : Zz.cut (x0 :: x1 :: l) 0 2 = some [x0, x1] := by simp [Zz.cut]
/-- Plays. -/
theorem f22 {pv iv vv : AV} {ps : List Pipe} {ids : List Int} {vs : List V6} {sup tol w : Int} (hq : PpL pv ps) (hiv : IntS iv ids) (hvv : VL6 vv vs) (h12 : vs.length ≤ 1000) (hvs : okVs vs) (hv : VO ps sup tol) (hw : -100 ≤ w ∧ w ≤ 100) (himax : ids.length < 9223372036854775807) :
    WF C14 (.func 22 [] []) [.agg [pv, .int .i64 sup, .int .i64 tol], vv, iv, .int .i64 w] ⟨[], []⟩ fun y m' => y = .bool (decide (playsR ps sup tol vs ids w)) := by
  have hil := hiv.len
  have hvl := hvv.len
  have hmax : ps.length < 9223372036854775807 := by have := hv.2.1; omega
  have ht := hv.2.2.2
  have hps := hv.2.1
  by_cases hlen : ids.length = vs.length
  · have hlen1 := hlen
    refine WF.fnE rfl (fn_of Tryd.func22 cir22) (by show 4 ≤ 128; decide) ?_
    unfold ir22
    simp only [padTo, List.replicate, List.nil_append, List.append_nil, List.cons_append]
    repeat' (first | (refine WO.opE (by intro; simp (disch := omega) only [go_sem, zeros, Zz.look, Zz.over, Zz.cut, List.append_assoc, List.length_append, Nat.reduceAdd, Nat.reduceMul, Nat.reduceSub, Nat.reduceLeDiff, Nat.reduceEqDiff, Int.reduceNeg, Int.reduceAdd, Int.reduceToNat, reduceIte, reduceCtorEq]; rfl) (by simp only [pt8, pt0, pt1, pt2, pt3, pt4, pt5, pt6, pt7]; rfl) ?_) | (refine WO.opE (by intro; exact ev_lenS (by simp only [go_sem]; first | rfl | assumption)) (by simp only [pt8, pt0, pt1, pt2, pt3, pt4, pt5, pt6, pt7]; rfl) ?_) | (refine WC.seq ?_) | (refine WC.region ?_) | (refine WO.nil ?_) | (simp only [fl1, fl2, fl3, fl4, fl5, fl6, fl7, fl8, fl9, fl10, Nat.reduceBEq]) | (refine WC.skip ?_) | (refine WC.block ?_) | (refine WC.em2 rfl (fun hp => ?_) (fun hp => ?_) <;> try (exfalso; first | omega | contradiction)))
    refine WC.loopI (fun m s => ∃ T i R, s = ⟨T, some ⟨0, [pv, .int .i64 sup, .int .i64 tol]⟩ :: R, []⟩ ∧ T.length = 128 ∧ gt T 1 = vv ∧ gt T 2 = iv ∧ gt T 3 = .int .i64 w ∧ gt T 4 = .pref 0 0 0 ∧ gt T 9 = .int .i64 (i : Nat) ∧ m + i = ids.length ∧ ∀ j, j < i → noteP ps tol ids vs j) ?_ ids.length _ ⟨_, 0, [], rfl, rfl, rfl, rfl, rfl, rfl, rfl, by omega, fun j hj => by omega⟩
    rintro m _ ⟨T, i, R, rfl, hT, g1, g2, g3, g4, g9, hm, hi⟩
    obtain ⟨f, rfl⟩ := ex128 hT
    clear hT
    replace g1 : f 1 = vv := g1
    replace g2 : f 2 = iv := g2
    replace g3 : f 3 = .int .i64 w := g3
    replace g4 : f 4 = .pref 0 0 0 := g4
    replace g9 : f 9 = .int .i64 (i : Nat) := g9
    simp only [g1, g2, g3, g4, g9]
    by_cases hin : i < ids.length
    · have h54 := fun m => s54 (sup := sup) (tol := tol) (id := ids.getD i 0) (m := m) hq hmax
      have hnp : noteP ps tol ids vs i ↔ (pos ps (ids.getD i 0) < ps.length ∧ hasP (pipeOf ps (ids.getD i 0)) (nv vs i) tol ∧ ∀ n, n < i → ids.getD n 0 ≠ ids.getD i 0) := Iff.rfl
      have hno : ¬ noteP ps tol ids vs i → ¬ playsR ps sup tol vs ids w := fun h h' => h (h'.2.1 i hin)
      by_cases hpos : pos ps (ids.getD i 0) < ps.length
      · have hpi : posI ps (ids.getD i 0) = ((pos ps (ids.getD i 0) : Nat) : Int) := if_pos hpos
        rw [hpi] at h54
        have hpok := hv.pok (ids.getD i 0)
        have hvi := hvs.at (i := i) (by omega)
        have h55 := fun m => s55 (m := m) (sup := sup) hq hpok hvi ht.1 ht.2
        unfold pipeOf at h55 hpok
        generalize hpp : pos ps (ids.getD i 0) = pp at *
        repeat' (first | (refine WO.opE (by intro; simp (disch := omega) only [go_sem, zeros, List.append_assoc, List.length_append, ov_all6, ov_one0, ov_all2, Nat.reduceAdd, Nat.reduceMul, Nat.reduceSub, Nat.reduceLeDiff, Nat.reduceEqDiff, Int.reduceNeg, Int.reduceAdd, Int.reduceToNat, reduceIte, reduceCtorEq, hq.at, hiv.atI, hvv.at, cut10, cut6, V6.cells, Pipe.cells, lk0]; rfl) (by simp only [pt8, pt0, pt1, pt2, pt3, pt4, pt5, pt6, pt7]; rfl) ?_) | (refine WO.opE (by intro; exact ev_lenS (by simp only [go_sem]; first | rfl | assumption)) (by simp only [pt8, pt0, pt1, pt2, pt3, pt4, pt5, pt6, pt7]; rfl) ?_) | (refine WT.spec rfl rfl (fun V => h54 _) (by simp only [pt8, pt0, pt1, pt2, pt3, pt4, pt5, pt6, pt7]; rfl) ?_) | (refine WT.spec rfl rfl (fun V => h55 _) (by simp only [pt8, pt0, pt1, pt2, pt3, pt4, pt5, pt6, pt7]; rfl) ?_) | (refine WC.seq ?_) | (refine WC.region ?_) | (refine WO.nil ?_) | (simp only [fl1, fl2, fl3, fl4, fl5, fl6, fl7, fl8, fl9, fl10, Nat.reduceBEq]) | (refine WC.drawT ?_) | (refine WT.nil ?_) | (refine WT.free rfl (by intro; simp (disch := omega) only [go_sem, zeros, List.append_assoc, List.length_append, ov_all6, ov_one0, ov_all2, Nat.reduceAdd, Nat.reduceMul, Nat.reduceSub, Nat.reduceLeDiff, Nat.reduceEqDiff, Int.reduceNeg, Int.reduceAdd, Int.reduceToNat, reduceIte, reduceCtorEq, hq.at, hiv.atI, hvv.at, cut10, cut6, V6.cells, Pipe.cells, lk0]; rfl) rfl (by simp only [pt8, pt0, pt1, pt2, pt3, pt4, pt5, pt6, pt7]; rfl) ?_) | (refine WT.big rfl rfl (by intro; simp (disch := omega) only [go_sem, zeros, List.append_assoc, List.length_append, ov_all6, ov_one0, ov_all2, Nat.reduceAdd, Nat.reduceMul, Nat.reduceSub, Nat.reduceLeDiff, Nat.reduceEqDiff, Int.reduceNeg, Int.reduceAdd, Int.reduceToNat, reduceIte, reduceCtorEq, hq.at, hiv.atI, hvv.at, cut10, cut6, V6.cells, Pipe.cells, lk0]; rfl) (by simp (disch := omega) only [go_sem, zeros, List.append_assoc, List.length_append, ov_all6, ov_one0, ov_all2, Nat.reduceAdd, Nat.reduceMul, Nat.reduceSub, Nat.reduceLeDiff, Nat.reduceEqDiff, Int.reduceNeg, Int.reduceAdd, Int.reduceToNat, reduceIte, reduceCtorEq, hq.at, hiv.atI, hvv.at, cut10, cut6, V6.cells, Pipe.cells, lk0, touch]; rfl) (by first | exact .inl rfl | exact .inr (apart_nil _) | exact .inr trivial | (right; apply apart_mk; simp only [apartL, List.nil_append, List.cons_append, List.getElem?_cons_succ, List.getElem?_cons_zero, Tch.free, and_true, true_and]; first | done | omega)) (by simp only [pt8, pt0, pt1, pt2, pt3, pt4, pt5, pt6, pt7]; rfl) ?_) | (refine WC.no rfl ?_) | (refine WC.skip ?_) | (refine WC.block ?_) | (refine WC.em2 rfl (fun hp => ?_) (fun hp => ?_) <;> try (exfalso; first | omega | contradiction)))
        refine WC.loopI (fun m s => ∃ T n b R, s = ⟨T, some ⟨0, [pv, .int .i64 sup, .int .i64 tol]⟩ :: R, []⟩ ∧ T.length = 128 ∧ gt T 1 = vv ∧ gt T 2 = iv ∧ gt T 3 = .int .i64 w ∧ gt T 4 = .pref 0 0 0 ∧ gt T 9 = .int .i64 (i : Nat) ∧ gt T 11 = .bool b ∧ gt T 12 = .int .i64 (n : Nat) ∧ m + n = i ∧ (b = true ↔ hasP (nth ps pp) (nv vs i) tol ∧ ∀ j, j < n → ids.getD j 0 ≠ ids.getD i 0)) ?_ i _ ⟨_, 0, decide (hasP (nth ps pp) (nv vs i) tol), _, rfl, rfl, rfl, rfl, rfl, rfl, rfl, rfl, rfl, by omega, by
          rw [decide_eq_true_iff]
          exact ⟨fun h => ⟨h, fun j hj => by omega⟩, fun h => h.1⟩⟩
        rintro m1 _ ⟨T, n, b, R, rfl, hT, g1, g2, g3, g4, g9, g11, g12, hm1, hb⟩
        obtain ⟨f, rfl⟩ := ex128 hT
        clear hT
        replace g1 : f 1 = vv := g1
        replace g2 : f 2 = iv := g2
        replace g3 : f 3 = .int .i64 w := g3
        replace g4 : f 4 = .pref 0 0 0 := g4
        replace g9 : f 9 = .int .i64 (i : Nat) := g9
        replace g11 : f 11 = .bool b := g11
        replace g12 : f 12 = .int .i64 (n : Nat) := g12
        simp only [g1, g2, g3, g4, g9, g11, g12]
        by_cases hnn : n < i
        · have hbs : ∀ c : Bool, (c = true ↔ (b = true ∧ ids.getD n 0 ≠ ids.getD i 0)) → (c = true ↔ hasP (nth ps pp) (nv vs i) tol ∧ ∀ j, j < n + 1 → ids.getD j 0 ≠ ids.getD i 0) := fun c hc => by
            rw [hc, hb]
            constructor
            · rintro ⟨⟨h1, h2⟩, h3⟩
              exact ⟨h1, fun j hj => by
                by_cases e : j = n
                · subst e; exact h3
                · exact h2 j (by omega)⟩
            · rintro ⟨h1, h2⟩
              exact ⟨⟨h1, fun j hj => h2 j (by omega)⟩, h2 n (by omega)⟩
          cases b
          · skip
            repeat' (first | (refine WO.noE rfl (by simp only [pt8, pt0, pt1, pt2, pt3, pt4, pt5, pt6, pt7]; rfl) ?_) | (refine WO.opE (by intro; simp (disch := omega) only [go_sem, zeros, List.append_assoc, List.length_append, ov_all6, ov_one0, ov_all2, Nat.reduceAdd, Nat.reduceMul, Nat.reduceSub, Nat.reduceLeDiff, Nat.reduceEqDiff, Int.reduceNeg, Int.reduceAdd, Int.reduceToNat, reduceIte, reduceCtorEq, hiv.atI]; rfl) (by simp only [pt8, pt0, pt1, pt2, pt3, pt4, pt5, pt6, pt7]; rfl) ?_) | (refine WC.seq ?_) | (refine WC.region ?_) | (refine WO.nil ?_) | (simp only [fl1, fl2, fl3, fl4, fl5, fl6, fl7, fl8, fl9, fl10, Nat.reduceBEq]) | (refine WC.calm rfl ?_) | (refine WC.skip ?_) | (refine WC.block ?_) | (refine WC.em2 rfl (fun hp => ?_) (fun hp => ?_) <;> try (exfalso; first | omega | contradiction)))
            exact ⟨m1 - 1, by omega, _, n + 1, false, _, rfl, rfl, rfl, rfl, rfl, rfl, rfl, rfl, rfl, by omega, hbs _ (by simp)⟩
          repeat' (first | (refine WO.yes rfl ?_) | (refine WO.opE (by intro; simp (disch := omega) only [go_sem, zeros, List.append_assoc, List.length_append, ov_all6, ov_one0, ov_all2, Nat.reduceAdd, Nat.reduceMul, Nat.reduceSub, Nat.reduceLeDiff, Nat.reduceEqDiff, Int.reduceNeg, Int.reduceAdd, Int.reduceToNat, reduceIte, reduceCtorEq, hiv.atI]; rfl) (by simp only [pt8, pt0, pt1, pt2, pt3, pt4, pt5, pt6, pt7]; rfl) ?_) | (refine WC.seq ?_) | (refine WC.region ?_) | (refine WO.nil ?_) | (simp only [fl1, fl2, fl3, fl4, fl5, fl6, fl7, fl8, fl9, fl10, Nat.reduceBEq]) | (refine WC.calm rfl ?_) | (refine WC.skip ?_) | (refine WC.block ?_) | (refine WC.em2 rfl (fun hp => ?_) (fun hp => ?_) <;> try (exfalso; first | omega | contradiction)))
          exact ⟨m1 - 1, by omega, _, n + 1, decide (ids.getD n 0 ≠ ids.getD i 0), _, rfl, rfl, rfl, rfl, rfl, rfl, rfl, by simp only [gt8, gt0, gt1, gt2, gt3, gt4, gt5, gt6, gt7], rfl, by omega, hbs _ (by simp)⟩
        · have hni : n = i := by omega
          subst hni
          cases b
          · skip
            repeat' (first | (refine WO.opE (by intro; simp (disch := omega) only [go_sem, zeros, List.append_assoc, List.length_append, ov_all6, ov_one0, ov_all2, Nat.reduceAdd, Nat.reduceMul, Nat.reduceSub, Nat.reduceLeDiff, Nat.reduceEqDiff, Int.reduceNeg, Int.reduceAdd, Int.reduceToNat, reduceIte, reduceCtorEq]; rfl) (by simp only [pt8, pt0, pt1, pt2, pt3, pt4, pt5, pt6, pt7]; rfl) ?_) | (refine WC.seq ?_) | (refine WC.region ?_) | (refine WO.nil ?_) | (simp only [fl1, fl2, fl3, fl4, fl5, fl6, fl7, fl8, fl9, fl10, Nat.reduceBEq]) | (refine WC.yes rfl ?_) | (refine WC.exit ?_) | (refine WC.ret ?_) | (refine WC.em2 rfl (fun hp => ?_) (fun hp => ?_) <;> try (exfalso; first | omega | contradiction)))
            refine ⟨_, rfl, ?_⟩
            simp only [oneRes, gt8, gt0, gt1, gt2, gt3, gt4, gt5, gt6, gt7, AV.bool.injEq]
            symm
            rw [decide_eq_false_iff_not]
            refine hno fun h => ?_
            have := hb.2 ⟨by have := h.2.1; unfold pipeOf at this; rw [hpp] at this; exact this, h.2.2⟩
            cases this
          repeat' (first | (refine WO.opE (by intro; simp (disch := omega) only [go_sem, zeros, List.append_assoc, List.length_append, ov_all6, ov_one0, ov_all2, Nat.reduceAdd, Nat.reduceMul, Nat.reduceSub, Nat.reduceLeDiff, Nat.reduceEqDiff, Int.reduceNeg, Int.reduceAdd, Int.reduceToNat, reduceIte, reduceCtorEq]; rfl) (by simp only [pt8, pt0, pt1, pt2, pt3, pt4, pt5, pt6, pt7]; rfl) ?_) | (refine WC.seq ?_) | (refine WC.region ?_) | (refine WO.nil ?_) | (simp only [fl1, fl2, fl3, fl4, fl5, fl6, fl7, fl8, fl9, fl10, Nat.reduceBEq]) | (refine WC.no rfl ?_) | (refine WC.skip ?_) | (refine WC.exit ?_) | (refine WC.em2 rfl (fun hp => ?_) (fun hp => ?_) <;> try (exfalso; first | omega | contradiction)))
          have hn2 := hb.1 rfl
          exact ⟨m - 1, by omega, _, n + 1, _, rfl, rfl, rfl, rfl, rfl, rfl, rfl, by omega, fun j hj => by
            by_cases e : j = n
            · subst e
              exact ⟨by rw [hpp]; exact hpos, by unfold pipeOf; rw [hpp]; exact hn2.1, hn2.2⟩
            · exact hi j (by omega)⟩
      · have hpi : posI ps (ids.getD i 0) = -1 := if_neg hpos
        rw [hpi] at h54
        repeat' (first | (refine WO.opE (by intro; simp (disch := omega) only [go_sem, zeros, List.append_assoc, List.length_append, ov_all6, ov_one0, ov_all2, Nat.reduceAdd, Nat.reduceMul, Nat.reduceSub, Nat.reduceLeDiff, Nat.reduceEqDiff, Int.reduceNeg, Int.reduceAdd, Int.reduceToNat, reduceIte, reduceCtorEq, hq.at, hiv.atI, hvv.at]; rfl) (by simp only [pt8, pt0, pt1, pt2, pt3, pt4, pt5, pt6, pt7]; rfl) ?_) | (refine WO.opE (by intro; exact ev_lenS (by simp only [go_sem]; first | rfl | assumption)) (by simp only [pt8, pt0, pt1, pt2, pt3, pt4, pt5, pt6, pt7]; rfl) ?_) | (refine WT.spec rfl rfl (fun V => h54 _) (by simp only [pt8, pt0, pt1, pt2, pt3, pt4, pt5, pt6, pt7]; rfl) ?_) | (refine WC.seq ?_) | (refine WC.region ?_) | (refine WO.nil ?_) | (simp only [fl1, fl2, fl3, fl4, fl5, fl6, fl7, fl8, fl9, fl10, Nat.reduceBEq]) | (refine WC.drawT ?_) | (refine WT.nil ?_) | (refine WT.free rfl (by intro; simp (disch := omega) only [go_sem, zeros, List.append_assoc, List.length_append, ov_all6, ov_one0, ov_all2, Nat.reduceAdd, Nat.reduceMul, Nat.reduceSub, Nat.reduceLeDiff, Nat.reduceEqDiff, Int.reduceNeg, Int.reduceAdd, Int.reduceToNat, reduceIte, reduceCtorEq, hq.at, hiv.atI, hvv.at]; rfl) rfl (by simp only [pt8, pt0, pt1, pt2, pt3, pt4, pt5, pt6, pt7]; rfl) ?_) | (refine WT.big rfl rfl (by intro; simp (disch := omega) only [go_sem, zeros, List.append_assoc, List.length_append, ov_all6, ov_one0, ov_all2, Nat.reduceAdd, Nat.reduceMul, Nat.reduceSub, Nat.reduceLeDiff, Nat.reduceEqDiff, Int.reduceNeg, Int.reduceAdd, Int.reduceToNat, reduceIte, reduceCtorEq, hq.at, hiv.atI, hvv.at]; rfl) (by simp (disch := omega) only [go_sem, zeros, List.append_assoc, List.length_append, ov_all6, ov_one0, ov_all2, Nat.reduceAdd, Nat.reduceMul, Nat.reduceSub, Nat.reduceLeDiff, Nat.reduceEqDiff, Int.reduceNeg, Int.reduceAdd, Int.reduceToNat, reduceIte, reduceCtorEq, hq.at, hiv.atI, hvv.at, touch]; rfl) (by first | exact .inl rfl | exact .inr (apart_nil _) | exact .inr trivial | (right; apply apart_mk; simp only [apartL, List.nil_append, List.cons_append, List.getElem?_cons_succ, List.getElem?_cons_zero, Tch.free, and_true, true_and]; first | done | omega)) (by simp only [pt8, pt0, pt1, pt2, pt3, pt4, pt5, pt6, pt7]; rfl) ?_) | (refine WC.yes rfl ?_) | (refine WC.skip ?_) | (refine WC.ret ?_) | (refine WC.block ?_) | (refine WC.em2 rfl (fun hp => ?_) (fun hp => ?_) <;> try (exfalso; first | omega | contradiction)))
        refine ⟨_, rfl, ?_⟩
        simp only [oneRes, gt8, gt0, gt1, gt2, gt3, gt4, gt5, gt6, gt7, AV.bool.injEq]
        symm
        rw [decide_eq_false_iff_not]
        exact hno fun h => hpos h.1
    · have hie : i = ids.length := by omega
      subst hie
      have hh : Has ps ids := fun j hj => (hi j hj).1
      have h56 := fun m => s56 (m := m) hq hiv hv hh (by omega)
      have hlb := lacks_bnd hv (ids := ids) (by omega)
      repeat' (first | (refine WO.opE (by intro; simp (disch := omega) only [go_sem, zeros, List.append_assoc, List.length_append, ov_all6, ov_one0, ov_all2, Nat.reduceAdd, Nat.reduceMul, Nat.reduceSub, Nat.reduceLeDiff, Nat.reduceEqDiff, Int.reduceNeg, Int.reduceAdd, Int.reduceToNat, reduceIte, reduceCtorEq, lk0]; rfl) (by simp only [pt8, pt0, pt1, pt2, pt3, pt4, pt5, pt6, pt7]; rfl) ?_) | (refine WO.opE (by intro; exact ev_lenS (by simp only [go_sem]; first | rfl | assumption)) (by simp only [pt8, pt0, pt1, pt2, pt3, pt4, pt5, pt6, pt7]; rfl) ?_) | (refine WO.specE rfl rfl (h56 _) (by simp only [pt8, pt0, pt1, pt2, pt3, pt4, pt5, pt6, pt7]; rfl) ?_) | (refine WC.seq ?_) | (refine WC.region ?_) | (refine WO.nil ?_) | (simp only [fl1, fl2, fl3, fl4, fl5, fl6, fl7, fl8, fl9, fl10, Nat.reduceBEq]) | (refine WC.exit ?_) | (refine WC.block ?_) | (refine WC.em2 rfl (fun hp => ?_) (fun hp => ?_) <;> try (exfalso; first | omega | contradiction)))
      refine WC.loopI (fun m s => ∃ T i R, s = ⟨T, some ⟨0, [pv, .int .i64 sup, .int .i64 tol]⟩ :: R, []⟩ ∧ T.length = 128 ∧ gt T 1 = vv ∧ gt T 2 = iv ∧ gt T 3 = .int .i64 w ∧ gt T 4 = .pref 0 0 0 ∧ gt T 13 = .int .i64 (lacks ps sup ids) ∧ gt T 14 = .int .i64 (i : Nat) ∧ m + i = ids.length ∧ ∀ j, j < i → tuneP (pipeOf ps (ids.getD j 0)) (nv vs j) tol (lacks ps sup ids) w) ?_ ids.length _ ⟨_, 0, _, rfl, rfl, rfl, rfl, rfl, rfl, rfl, rfl, by omega, fun j hj => by omega⟩
      clear hm
      rintro m _ ⟨T, i, R, rfl, hT, g1, g2, g3, g4, g13, g14, hm, hj3⟩
      obtain ⟨f, rfl⟩ := ex128 hT
      clear hT
      replace g1 : f 1 = vv := g1
      replace g2 : f 2 = iv := g2
      replace g3 : f 3 = .int .i64 w := g3
      replace g4 : f 4 = .pref 0 0 0 := g4
      replace g13 : f 13 = .int .i64 (lacks ps sup ids) := g13
      replace g14 : f 14 = .int .i64 (i : Nat) := g14
      simp only [g1, g2, g3, g4, g13, g14]
      by_cases hin : i < ids.length
      · have h54 := fun m => s54 (sup := sup) (tol := tol) (id := ids.getD i 0) (m := m) hq hmax
        have hpos := hh i hin
        have hpi : posI ps (ids.getD i 0) = ((pos ps (ids.getD i 0) : Nat) : Int) := if_pos hpos
        rw [hpi] at h54
        have hpok := hv.pok (ids.getD i 0)
        have hat := (hv.at (ids.getD i 0)).2.2
        have hvi := hvs.at (i := i) (by omega)
        have h57 := fun m => s57v hvi (m := m)
        have h58 := fun m => s58 (a := (pipeOf ps (ids.getD i 0)).p) (b := (nv vs i).of) (m := m)
        have eg : gapV (pipeOf ps (ids.getD i 0)).p (nv vs i).of = .tuple [.agg [.int .i64 (gLo (pipeOf ps (ids.getD i 0)).p (nv vs i).of), .int .i64 (gHi (pipeOf ps (ids.getD i 0)).p (nv vs i).of)], .int .i64 0] := if_pos ⟨hpok, of_ok hvi⟩
        rw [eg] at h58
        obtain ⟨g1, g2, g3⟩ := gap_bnd hpok (of_ok hvi)
        have m1 := mul_bnd hat.2.2.1 hat.2.2.2 hw.1 hw.2
        have m2 := mul_bnd hat.1 hat.2.1 (b := lacks ps sup ids) (B := 1000000000) (by omega) (by omega)
        have h59 := fun m => s59 (m := m) (p := pipeOf ps (ids.getD i 0)) (l := lacks ps sup ids) (w := w) hat hw (by omega)
        have htun : tuneP (pipeOf ps (ids.getD i 0)) (nv vs i) tol (lacks ps sup ids) w ↔ sur (gLo (pipeOf ps (ids.getD i 0)).p (nv vs i).of + shiftOf (pipeOf ps (ids.getD i 0)) (lacks ps sup ids) w) (gHi (pipeOf ps (ids.getD i 0)).p (nv vs i).of + shiftOf (pipeOf ps (ids.getD i 0)) (lacks ps sup ids) w) ((0 - tol) * 10000) (tol * 10000) = 1 := by
          rw [sur_one]
          unfold tuneP
          constructor <;> rintro ⟨t1, t2⟩ <;> constructor <;> omega
        have hsh : shiftOf (pipeOf ps (ids.getD i 0)) (lacks ps sup ids) w = (pipeOf ps (ids.getD i 0)).warm * w - (pipeOf ps (ids.getD i 0)).sag * lacks ps sup ids := rfl
        have h60 := fun m => s60 (a := gLo (pipeOf ps (ids.getD i 0)).p (nv vs i).of + shiftOf (pipeOf ps (ids.getD i 0)) (lacks ps sup ids) w) (b := gHi (pipeOf ps (ids.getD i 0)).p (nv vs i).of + shiftOf (pipeOf ps (ids.getD i 0)) (lacks ps sup ids) w) (lo := (0 - tol) * 10000) (hi := tol * 10000) (m := m)
        have hn0 : ¬ tuneP (pipeOf ps (ids.getD i 0)) (nv vs i) tol (lacks ps sup ids) w → ¬ playsR ps sup tol vs ids w := fun h h' => h (h'.2.2 i hin)
        generalize hS : sur (gLo (pipeOf ps (ids.getD i 0)).p (nv vs i).of + shiftOf (pipeOf ps (ids.getD i 0)) (lacks ps sup ids) w) (gHi (pipeOf ps (ids.getD i 0)).p (nv vs i).of + shiftOf (pipeOf ps (ids.getD i 0)) (lacks ps sup ids) w) ((0 - tol) * 10000) (tol * 10000) = S at *
        generalize shiftOf (pipeOf ps (ids.getD i 0)) (lacks ps sup ids) w = sh at *
        have epp : pipeOf ps (ids.getD i 0) = nth ps (pos ps (ids.getD i 0)) := rfl
        rw [epp] at hpok hat h58 h59 h60 g1 g2 g3
        generalize hpp : pos ps (ids.getD i 0) = pp at *
        repeat' (first | (refine WO.opE (by intro; simp (disch := omega) only [go_sem, Zz.look, zeros, List.append_assoc, List.length_append, ov_all6, ov_one0, ov_all2, Nat.reduceAdd, Nat.reduceMul, Nat.reduceSub, Nat.reduceLeDiff, Nat.reduceEqDiff, Int.reduceNeg, Int.reduceAdd, Int.reduceToNat, reduceIte, reduceCtorEq, hq.at, hiv.atI, hvv.at, cut10, cut6, cutA, cut3z, cut2z, V6.cells, Pipe.cells, over10, app_g0, app_g1, app_g2, app_g3, app_g4, app_s0, app_s1, app_s2, app_s3, app_s4]; rfl) (by simp only [pt8, pt0, pt1, pt2, pt3, pt4, pt5, pt6, pt7]; rfl) ?_) | (refine WO.opN (by intro; simp (disch := omega) only [go_sem, Zz.look, zeros, List.append_assoc, List.length_append, ov_all6, ov_one0, ov_all2, Nat.reduceAdd, Nat.reduceMul, Nat.reduceSub, Nat.reduceLeDiff, Nat.reduceEqDiff, Int.reduceNeg, Int.reduceAdd, Int.reduceToNat, reduceIte, reduceCtorEq, hq.at, hiv.atI, hvv.at, cut10, cut6, cutA, cut3z, cut2z, V6.cells, Pipe.cells, over10, app_g0, app_g1, app_g2, app_g3, app_g4, app_s0, app_s1, app_s2, app_s3, app_s4]; rfl) ?_) | (refine WO.opE (by intro; exact ev_lenS (by simp only [go_sem]; first | rfl | assumption)) (by simp only [pt8, pt0, pt1, pt2, pt3, pt4, pt5, pt6, pt7]; rfl) ?_) | (refine WT.spec rfl rfl (fun V => h54 _) (by simp only [pt8, pt0, pt1, pt2, pt3, pt4, pt5, pt6, pt7]; rfl) ?_) | (refine WO.specE rfl rfl (h57 _) (by simp only [pt8, pt0, pt1, pt2, pt3, pt4, pt5, pt6, pt7]; rfl) ?_) | (refine WO.specE rfl rfl (h58 _) (by simp only [pt8, pt0, pt1, pt2, pt3, pt4, pt5, pt6, pt7]; rfl) ?_) | (refine WO.specE rfl rfl (h59 _) (by simp only [pt8, pt0, pt1, pt2, pt3, pt4, pt5, pt6, pt7]; rfl) ?_) | (refine WO.specE rfl rfl (h60 _) (by simp only [pt8, pt0, pt1, pt2, pt3, pt4, pt5, pt6, pt7]; rfl) ?_) | (refine WC.seq ?_) | (refine WC.region ?_) | (refine WO.nil ?_) | (simp only [fl1, fl2, fl3, fl4, fl5, fl6, fl7, fl8, fl9, fl10, Nat.reduceBEq]) | (refine WC.drawT ?_) | (refine WT.nil ?_) | (refine WT.free rfl (by intro; simp (disch := omega) only [go_sem, Zz.look, zeros, List.append_assoc, List.length_append, ov_all6, ov_one0, ov_all2, Nat.reduceAdd, Nat.reduceMul, Nat.reduceSub, Nat.reduceLeDiff, Nat.reduceEqDiff, Int.reduceNeg, Int.reduceAdd, Int.reduceToNat, reduceIte, reduceCtorEq, hq.at, hiv.atI, hvv.at, cut10, cut6, cutA, cut3z, cut2z, V6.cells, Pipe.cells, over10, app_g0, app_g1, app_g2, app_g3, app_g4, app_s0, app_s1, app_s2, app_s3, app_s4]; rfl) rfl (by simp only [pt8, pt0, pt1, pt2, pt3, pt4, pt5, pt6, pt7]; rfl) ?_) | (refine WT.big rfl rfl (by intro; simp (disch := omega) only [go_sem, Zz.look, zeros, List.append_assoc, List.length_append, ov_all6, ov_one0, ov_all2, Nat.reduceAdd, Nat.reduceMul, Nat.reduceSub, Nat.reduceLeDiff, Nat.reduceEqDiff, Int.reduceNeg, Int.reduceAdd, Int.reduceToNat, reduceIte, reduceCtorEq, hq.at, hiv.atI, hvv.at, cut10, cut6, cutA, cut3z, cut2z, V6.cells, Pipe.cells, over10, app_g0, app_g1, app_g2, app_g3, app_g4, app_s0, app_s1, app_s2, app_s3, app_s4]; rfl) (by simp (disch := omega) only [go_sem, Zz.look, zeros, List.append_assoc, List.length_append, ov_all6, ov_one0, ov_all2, Nat.reduceAdd, Nat.reduceMul, Nat.reduceSub, Nat.reduceLeDiff, Nat.reduceEqDiff, Int.reduceNeg, Int.reduceAdd, Int.reduceToNat, reduceIte, reduceCtorEq, hq.at, hiv.atI, hvv.at, cut10, cut6, cutA, cut3z, cut2z, V6.cells, Pipe.cells, over10, app_g0, app_g1, app_g2, app_g3, app_g4, app_s0, app_s1, app_s2, app_s3, app_s4, touch]; rfl) (by first | exact .inl rfl | exact .inr (apart_nil _) | exact .inr trivial | (right; apply apart_mk; simp only [apartL, List.nil_append, List.cons_append, List.getElem?_cons_succ, List.getElem?_cons_zero, Tch.free, and_true, true_and]; first | done | omega)) (by simp only [pt8, pt0, pt1, pt2, pt3, pt4, pt5, pt6, pt7]; rfl) ?_) | (refine WT.bigN rfl rfl (by intro; simp (disch := omega) only [go_sem, Zz.look, zeros, List.append_assoc, List.length_append, ov_all6, ov_one0, ov_all2, Nat.reduceAdd, Nat.reduceMul, Nat.reduceSub, Nat.reduceLeDiff, Nat.reduceEqDiff, Int.reduceNeg, Int.reduceAdd, Int.reduceToNat, reduceIte, reduceCtorEq, hq.at, hiv.atI, hvv.at, cut10, cut6, cutA, cut3z, cut2z, V6.cells, Pipe.cells, over10, app_g0, app_g1, app_g2, app_g3, app_g4, app_s0, app_s1, app_s2, app_s3, app_s4]; rfl) (by simp (disch := omega) only [go_sem, Zz.look, zeros, List.append_assoc, List.length_append, ov_all6, ov_one0, ov_all2, Nat.reduceAdd, Nat.reduceMul, Nat.reduceSub, Nat.reduceLeDiff, Nat.reduceEqDiff, Int.reduceNeg, Int.reduceAdd, Int.reduceToNat, reduceIte, reduceCtorEq, hq.at, hiv.atI, hvv.at, cut10, cut6, cutA, cut3z, cut2z, V6.cells, Pipe.cells, over10, app_g0, app_g1, app_g2, app_g3, app_g4, app_s0, app_s1, app_s2, app_s3, app_s4, touch]; rfl) (by first | exact .inl rfl | exact .inr (apart_nil _) | exact .inr trivial | (right; apply apart_mk; simp only [apartL, List.nil_append, List.cons_append, List.getElem?_cons_succ, List.getElem?_cons_zero, Tch.free, and_true, true_and]; first | done | omega)) ?_) | (refine WC.skip ?_) | (refine WC.ret ?_) | (refine WC.block ?_) | (refine WC.em2 rfl (fun hp => ?_) (fun hp => ?_) <;> try (exfalso; first | omega | contradiction)))
        · refine ⟨_, rfl, ?_⟩
          simp only [oneRes, gt8, gt0, gt1, gt2, gt3, gt4, gt5, gt6, gt7, AV.bool.injEq]
          symm
          rw [decide_eq_false_iff_not]
          exact hn0 fun h => absurd (htun.1 h) (by assumption)
        · exact ⟨m - 1, by omega, _, i + 1, _, rfl, rfl, rfl, rfl, rfl, rfl, rfl, rfl, by omega, fun j hj => by
            by_cases e : j = i
            · subst e; exact htun.2 (by omega)
            · exact hj3 j (by omega)⟩
      · have hie : i = ids.length := by omega
        subst hie
        repeat' (first | (refine WO.opE (by intro; simp (disch := omega) only [go_sem, zeros, List.append_assoc, List.length_append, ov_all6, ov_one0, ov_all2, Nat.reduceAdd, Nat.reduceMul, Nat.reduceSub, Nat.reduceLeDiff, Nat.reduceEqDiff, Int.reduceNeg, Int.reduceAdd, Int.reduceToNat, reduceIte, reduceCtorEq]; rfl) (by simp only [pt8, pt0, pt1, pt2, pt3, pt4, pt5, pt6, pt7]; rfl) ?_) | (refine WO.opE (by intro; exact ev_lenS (by simp only [go_sem]; first | rfl | assumption)) (by simp only [pt8, pt0, pt1, pt2, pt3, pt4, pt5, pt6, pt7]; rfl) ?_) | (refine WC.seq ?_) | (refine WC.region ?_) | (refine WO.nil ?_) | (simp only [fl1, fl2, fl3, fl4, fl5, fl6, fl7, fl8, fl9, fl10, Nat.reduceBEq]) | (refine WC.exit ?_) | (refine WC.ret ?_) | (refine WC.em2 rfl (fun hp => ?_) (fun hp => ?_) <;> try (exfalso; first | omega | contradiction)))
        refine ⟨_, rfl, ?_⟩
        simp only [oneRes, gt8, gt0, gt1, gt2, gt3, gt4, gt5, gt6, gt7, AV.bool.injEq]
        symm
        rw [decide_eq_true_iff]
        exact ⟨hlen, hi, hj3⟩
  · have hlen1 := hlen
    refine WF.fnE rfl (fn_of Tryd.func22 cir22) (by show 4 ≤ 128; decide) ?_
    unfold ir22
    simp only [padTo, List.replicate, List.nil_append, List.append_nil, List.cons_append]
    repeat' (first | (refine WO.opE (by intro; simp (disch := omega) only [go_sem, zeros, Zz.look, Zz.over, Zz.cut, List.append_assoc, List.length_append, Nat.reduceAdd, Nat.reduceMul, Nat.reduceSub, Nat.reduceLeDiff, Nat.reduceEqDiff, Int.reduceNeg, Int.reduceAdd, Int.reduceToNat, reduceIte, reduceCtorEq]; rfl) (by simp only [pt8, pt0, pt1, pt2, pt3, pt4, pt5, pt6, pt7]; rfl) ?_) | (refine WO.opE (by intro; exact ev_lenS (by simp only [go_sem]; first | rfl | assumption)) (by simp only [pt8, pt0, pt1, pt2, pt3, pt4, pt5, pt6, pt7]; rfl) ?_) | (refine WC.seq ?_) | (refine WC.region ?_) | (refine WO.nil ?_) | (simp only [fl1, fl2, fl3, fl4, fl5, fl6, fl7, fl8, fl9, fl10, Nat.reduceBEq]) | (refine WC.ret ?_) | (refine WC.em2 rfl (fun hp => ?_) (fun hp => ?_) <;> try (exfalso; first | omega | contradiction)))
    refine ⟨_, rfl, ?_⟩
    simp only [oneRes, gt8, gt0, gt1, gt2, gt3, gt4, gt5, gt6, gt7, AV.bool.injEq]
    symm
    rw [decide_eq_false_iff_not]
    exact fun h => hlen h.1
noncomputable def C15 : Env := C14.put 22 (borrowE C14 22)
theorem C15_ok : EnvOk Tryd.prog C15 := Env.put_ok C14_ok (borrowE_ok C14_ok (callable Tryd.func22 (by kernel_rfl)))

noncomputable def C16 : Env := C15.put 18 (borrowE E38 18)
theorem C16_ok : EnvOk Tryd.prog C16 := Env.put_ok C15_ok (borrowE_ok E38_ok (callable Tryd.func18 (by kernel_rfl)))
end Go.Proofs.YtjbdefmhjmkifaaDoor

