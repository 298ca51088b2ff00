import Derived.Test.YtjbdefmhjmkifaaDoorIr11xc10
import Derived.Test.YtjbdefmhjmkifaaDoorL11z

set_option linter.unusedSimpArgs false
set_option linter.unusedVariables false
namespace Go.Proofs.YtjbdefmhjmkifaaDoor
open Go.Zz
set_option maxRecDepth 100000
set_option maxHeartbeats 4000000
/-! ### Few, with notes -/
theorem slice3 {vv : AV} {vs : List V6} (h : VL6 vv vs) : ∃ x', VL6 x' (vs.take 3) ∧ (∀ H, sliceAV H 6 vv none (some (.int .i64 (min (vs.length : Int) 3))) none = some x') ∧ ∀ H, resC H x' = some x' := by
  obtain ⟨h0, ⟨rfl, h1⟩ | ⟨f, rfl⟩⟩ := h
  · have e : vs = [] := by simpa using h1
    subst e
    exact ⟨.snil, ⟨by simp, .inl ⟨rfl, rfl⟩⟩, fun H => rfl, fun H => rfl⟩
  · have hl : ((vs.map V6.cells).flatten).length = vs.length * 6 := by rw [flat_len h0, List.length_map]
    have hm : (min (vs.length : Int) 3).toNat = (vs.take 3).length := by rw [List.length_take]; omega
    have ht : ((vs.take 3).map V6.cells).flatten = ((vs.map V6.cells).flatten).take ((vs.take 3).length * 6) := by
      have e : vs = vs.take 3 ++ vs.drop 3 := (List.take_append_drop 3 vs).symm
      have h2 : (((vs.take 3).map V6.cells).flatten).length = (vs.take 3).length * 6 := by
        rw [flat_len (k := 6) (fun c hc => by obtain ⟨v, _, rfl⟩ := List.mem_map.1 hc; rfl), List.length_map]
      conv => rhs; arg 2; rw [e, List.map_append, List.flatten_append]
      rw [← h2, List.take_left]
    refine ⟨.sval (match (if f then some vs.length else none : Option Nat) with | some c => c == (vs.take 3).length | none => false) (vs.take 3).length ((vs.take 3).map V6.cells).flatten, ⟨fun c hc => by obtain ⟨v, _, rfl⟩ := List.mem_map.1 hc; rfl, .inr ⟨_, by rw [List.length_map]⟩⟩, fun H => ?_, fun H => ?_⟩
    · rw [List.length_map]
      simp only [sliceAV, if_pos hl, bnds, bndO, bnd]
      have hc : (if f = true then some vs.length else none : Option Nat).getD vs.length = vs.length := by cases f <;> rfl
      rw [hc, if_pos ⟨by omega, by omega⟩, hm]
      simp only [Option.map_some, Nat.sub_zero, Nat.zero_mul, List.drop_zero, ht]
      cases f <;> rfl
    · have e2 : (((vs.take 3).map V6.cells).flatten).all flatAV = true := by
        rw [List.all_eq_true]
        intro v hv
        obtain ⟨c, hc, hvc⟩ := List.mem_flatten.1 hv
        obtain ⟨p, _, rfl⟩ := List.mem_map.1 hc
        simp only [V6.cells, List.mem_cons, List.not_mem_nil, or_false] at hvc
        rcases hvc with rfl | rfl | rfl | rfl | rfl | rfl <;> rfl
      simp only [Zz.resC, e2, if_true]
theorem res_fewv {H : Hp} {v x y : AV} {a b : Int} (h : resC H v = some x) (hy : resC H y = some y) : resV H (.tuple [.agg [v, .int .i64 a, .int .i64 b], y]) = some (.tuple [.agg [x, .int .i64 a, .int .i64 b], y]) := by
  have e : resA H (.agg [v, .int .i64 a, .int .i64 b]) = some (.agg [x, .int .i64 a, .int .i64 b]) := by
    simp only [resA, resL, h, resC_int]
  have e2 : resA H y = some y := by
    cases y <;> first | exact hy | (simp [Zz.resC] at hy)
  simp only [resV, resT, e, e2]
theorem f18v {pv : AV} {ps : List Pipe} {sup tol : Int} (hq : PpL pv ps) (hmax : ps.length < 9223372036854775807) {vv x' : AV} {vs : List V6} (hvv : VL6 vv vs) (hvmax : vs.length < 9223372036854775807) (hsl : ∀ H, sliceAV H 6 vv none (some (.int .i64 (min (vs.length : Int) 3))) none = some x') (hres : ∀ H, resC H x' = some x') : WF E38 (.func 18 [] []) [.agg [pv, .int .i64 sup, .int .i64 tol], vv] ⟨[], []⟩ fun y m' => ∃ x, PpL x (fewL ps) ∧ resV m'.heap y = some (.tuple [.agg [x, .int .i64 sup, .int .i64 tol], x']) := by
  have hlen := hq.len
  have hvl := hvv.len
  have hpc := SL.cells hq
  have hpc2 := hpc
  unfold AV.cells at hpc2
  refine WF.fnE rfl (fn_of Tryd.func18 cir18) (by show 2 ≤ 45; decide) ?_
  unfold ir18
  simp only [padTo, List.replicate, List.nil_append, List.append_nil, List.cons_append]
  repeat' (first | (refine WO.opE (by intro; simp (disch := omega) only [go_sem, zeros, Zz.look, Zz.over, Zz.cut, List.append_assoc, List.length_append, Nat.reduceAdd, Nat.reduceMul, Nat.reduceSub, Nat.reduceLeDiff, Nat.reduceEqDiff, Int.reduceNeg, Int.reduceAdd, Int.reduceToNat, reduceIte, reduceCtorEq, hpc2, List.map_cons, List.map_nil]; rfl) (by simp only [pt8, pt0, pt1, pt2, pt3, pt4, pt5, pt6, pt7]; rfl) ?_) | (refine WC.seq ?_) | (refine WC.region ?_) | (refine WO.nil ?_) | (simp only [fl1, fl2, fl3, fl4, fl5, fl6, fl7, fl8, fl9, fl10, Nat.reduceBEq]) | (refine WC.block ?_))
  refine WC.loopI (fun m s => ∃ T H i v q, s = ⟨T, H, []⟩ ∧ T.length = 45 ∧ gt T 1 = vv ∧ gt T 2 = .pref 0 0 0 ∧ gt T 4 = .pref 1 0 0 ∧ gt T 5 = .snil ∧ gt T 6 = v ∧ gt T 7 = .int .i64 (i : Nat) ∧ m + i = min ps.length 10 ∧ Zz.look H 0 0 = some [pv, .int .i64 sup, .int .i64 tol] ∧ Zz.look H 1 0 = some [.snil, .int .i64 0, .int .i64 0] ∧ GS 10 H v q (flat ((ps.take i).map fewP)) ∧ 2 ≤ q) ?_ (min ps.length 10) _ ⟨_, _, 0, _, 2, rfl, rfl, rfl, rfl, rfl, rfl, rfl, rfl, by omega, rfl, rfl, .inl ⟨rfl, rfl⟩, by omega⟩
  rintro m _ ⟨T, H, i, v, q, rfl, hT, g1, g2, g4, g5, g6, g7, hm, k0, k1, hg, hq1⟩
  obtain ⟨f, rfl⟩ := ex45 hT
  clear hT
  replace g1 : f 1 = vv := g1
  replace g2 : f 2 = .pref 0 0 0 := g2
  replace g4 : f 4 = .pref 1 0 0 := g4
  replace g5 : f 5 = .snil := g5
  replace g6 : f 6 = v := g6
  replace g7 : f 7 = .int .i64 (i : Nat) := g7
  simp only [g1, g2, g4, g5, g6, g7]
  have l0 := look_lt k0
  have l1 := look_lt k1
  by_cases hin : i < ps.length ∧ i < 10
  · obtain ⟨hin1, hin2⟩ := hin
    have hl : ((ps.take i).map fewP).length = i := by rw [List.length_map, List.length_take, Nat.min_eq_left (Nat.le_of_lt hin1)]
    have hfl := flat_length ((ps.take i).map fewP)
    obtain ⟨v', q', H1, e1, a1, a2, a3, a4⟩ := (hg.more [some ⟨0, (nth ps i).cells⟩]).append (L := []) (bytes := 80) (n := 1) (cap := some 1) (id := H.length) (lk0 rfl) rfl Nat.one_pos (by omega) ⟨by rw [hfl, hl]; omega, by rw [hfl, hl]; omega⟩
    have t1 : flat ((ps.take i).map fewP) ++ (nth ps i).cells = flat ((ps.take i).map fewP ++ [nth ps i]) := by
      unfold flat
      rw [List.map_append, List.flatten_append]
      simp
    rw [t1] at a1
    have hql : ((ps.take i).map fewP ++ [nth ps i]).length = i + 1 := by rw [List.length_append, hl]; rfl
    have hst := few_step hin1
    have hn : nth ((ps.take i).map fewP ++ [nth ps i]) i = nth ps i := by
      unfold nth
      rw [List.getD_eq_getElem?_getD, List.getElem?_append_right (by omega), hl, Nat.sub_self]
      rfl
    have w1 := get_of_cut2 (cut_wind (ps := (ps.take i).map fewP ++ [nth ps i]) (i := i) (by omega))
    have w2 := over_wind (ps := (ps.take i).map fewP ++ [nth ps i]) (i := i) (by omega) (min (nth ps i).wind 100)
    rw [hn] at w1
    rw [hst] at w2
    have hfq := flat_length ((ps.take i).map fewP ++ [nth ps i])
    rw [hql] at hfq
    generalize (ps.take i).map fewP ++ [nth ps i] = qs at a1 w1 w2 hfq
    obtain ⟨g, n, rfl, b1, b2, b3⟩ := a1.ref (by intro h; rw [h] at hfq; simp at hfq)
    have hni : n = i + 1 := by omega
    subst hni
    have hkk : ∀ j, j < H.length → j ≠ q → H1[j]? = H[j]? := fun j h1 h2 => by rw [a4 j (by simp; omega) h2, List.getElem?_append_left h1]
    have hsA : storeAt H1 q' g (i * 10 + 7) [.int .i64 (min (nth ps i).wind 100)] = some (H1.set q' (some ⟨g, flat ((ps.take (i + 1)).map fewP)⟩)) := by
      simp only [storeAt, b2, Option.bind_eq_bind, Option.bind_some, w2, setBlk]
    repeat' (first | (refine WO.yes rfl ?_) | (refine WO.opE (by intro; simp (disch := omega) only [go_sem, zeros, List.append_assoc, List.length_append, ov_one0, Nat.reduceAdd, Nat.reduceMul, Nat.reduceSub, Nat.reduceLeDiff, Nat.reduceEqDiff, Int.reduceNeg, Int.reduceAdd, Int.reduceToNat, reduceIte, reduceCtorEq, hq.at, cut10, lk0, st0, k0, k1, look_left, over10, Pipe.cells, b2, w1, w2, ia_sref, fillP, app_g0, app_g1, app_g2, app_g3, app_g4, app_s0, app_s1, app_s2, app_s3, app_s4]; rfl) (by simp only [pt8, pt0, pt1, pt2, pt3, pt4, pt5, pt6, pt7]; rfl) ?_) | (refine WO.opN (by intro; simp (disch := omega) only [go_sem, zeros, List.append_assoc, List.length_append, ov_one0, Nat.reduceAdd, Nat.reduceMul, Nat.reduceSub, Nat.reduceLeDiff, Nat.reduceEqDiff, Int.reduceNeg, Int.reduceAdd, Int.reduceToNat, reduceIte, reduceCtorEq, hq.at, cut10, lk0, st0, k0, k1, look_left, over10, Pipe.cells, b2, w1, w2, ia_sref, fillP, app_g0, app_g1, app_g2, app_g3, app_g4, app_s0, app_s1, app_s2, app_s3, app_s4]; rfl) ?_) | (refine WO.opE (by intro; exact ev_lenS (by simp only [go_sem]; first | rfl | assumption)) (by simp only [pt8, pt0, pt1, pt2, pt3, pt4, pt5, pt6, pt7]; rfl) ?_) | (refine WO.opE (by intro; rw [ev_append]; exact e1) (by simp only [pt8, pt0, pt1, pt2, pt3, pt4, pt5, pt6, pt7]; rfl) ?_) | (refine WC.seq ?_) | (refine WC.region ?_) | (refine WO.nil ?_) | (simp only [fl1, fl2, fl3, fl4, fl5, fl6, fl7, fl8, fl9, fl10, Nat.reduceBEq]) | (refine WC.skip ?_) | (refine WC.block ?_) | (refine WO.em2 rfl (by intro hp; simp only [hp, decide_true]; rfl) (by intro hp; simp only [hp, decide_false]; rfl) (fun hp => ?_) (fun hp => ?_) <;> try (exfalso; first | omega | contradiction)) | (refine WC.em2 rfl (fun hp => ?_) (fun hp => ?_) <;> try (exfalso; first | omega | contradiction)))
    have hq2 : 2 ≤ q' := by
      simp only [List.length_append, List.length_cons, List.length_nil] at a2
      omega
    refine ⟨m - 1, by omega, _, _, i + 1, _, q', rfl, rfl, rfl, rfl, rfl, rfl, rfl, rfl, by omega, ?_, ?_, ?_, hq2⟩
    · exact (look_of_get (List.getElem?_set_ne (by omega))).trans ((look_of_get (hkk 0 (by omega) (by omega))).trans k0)
    · exact (look_of_get (List.getElem?_set_ne (by omega))).trans ((look_of_get (hkk 1 (by omega) (by omega))).trans k1)
    · refine .inr (.inr ⟨g, i + 1, rfl, ?_, by omega, look_set b3⟩)
      rw [flat_length, List.length_map, List.length_take]
      omega
  · have hi' : i = min ps.length 10 := by omega
    have efew : (ps.take i).map fewP = fewL ps := by
      unfold fewL
      subst hi'
      congr 1
      rw [List.take_eq_take_iff]
      omega
    rw [efew] at hg
    have sA : storeAt H 0 0 0 [v] = some (H.set 0 (some ⟨0, [v, .int .i64 sup, .int .i64 tol]⟩)) := by
      simp only [storeAt, k0, Option.bind_eq_bind, Option.bind_some, setBlk]
      rfl
    have kA : Zz.look (H.set 0 (some ⟨0, [v, .int .i64 sup, .int .i64 tol]⟩)) 0 0 = some [v, .int .i64 sup, .int .i64 tol] := look_set l0
    have kB : Zz.look (H.set 0 (some ⟨0, [v, .int .i64 sup, .int .i64 tol]⟩)) 1 0 = some [.snil, .int .i64 0, .int .i64 0] := (look_of_get (List.getElem?_set_ne (by omega))).trans k1
    have sB : storeAt (H.set 0 (some ⟨0, [v, .int .i64 sup, .int .i64 tol]⟩)) 1 0 0 [v, .int .i64 sup, .int .i64 tol] = some ((H.set 0 (some ⟨0, [v, .int .i64 sup, .int .i64 tol]⟩)).set 1 (some ⟨0, [v, .int .i64 sup, .int .i64 tol]⟩)) := by
      simp only [storeAt, kB, Option.bind_eq_bind, Option.bind_some, setBlk]
      rfl
    have hvc : v.cells = some [v] := by rcases hg with ⟨rfl, _⟩ | ⟨g, rfl, _⟩ | ⟨g, n, rfl, _⟩ <;> rfl
    unfold AV.cells at hvc
    have cut3 : ∀ a b c : AV, Zz.cut [a, b, c] 0 3 = some [a, b, c] := fun a b c => by simp [Zz.cut]
    have hin' := hin
    obtain ⟨_, ⟨rfl, _⟩ | ⟨fl, rfl⟩⟩ := hvv
    · skip
      repeat' (first | (refine WO.yes rfl ?_) | (refine WO.noE rfl (by simp only [pt8, pt0, pt1, pt2, pt3, pt4, pt5, pt6, pt7]; rfl) ?_) | (refine WO.opE (by intro; simp (disch := omega) only [go_sem, zeros, List.append_assoc, List.length_append, ov_one0, Nat.reduceAdd, Nat.reduceMul, Nat.reduceSub, Nat.reduceLeDiff, Nat.reduceEqDiff, Int.reduceNeg, Int.reduceAdd, Int.reduceToNat, reduceIte, reduceCtorEq, k0, k1, kA, kB, hvc, cut3, ov_all3, hsl, Option.map_none, Option.map_some]; rfl) (by simp only [pt8, pt0, pt1, pt2, pt3, pt4, pt5, pt6, pt7]; rfl) ?_) | (refine WO.opN (by intro; simp (disch := omega) only [go_sem, zeros, List.append_assoc, List.length_append, ov_one0, Nat.reduceAdd, Nat.reduceMul, Nat.reduceSub, Nat.reduceLeDiff, Nat.reduceEqDiff, Int.reduceNeg, Int.reduceAdd, Int.reduceToNat, reduceIte, reduceCtorEq, k0, k1, kA, kB, hvc, cut3, ov_all3, hsl, Option.map_none, Option.map_some]; rfl) ?_) | (refine WO.opE (by intro; exact ev_lenS (by simp only [go_sem]; first | rfl | assumption)) (by simp only [pt8, pt0, pt1, pt2, pt3, pt4, pt5, pt6, pt7]; rfl) ?_) | (refine WT.free rfl (by intro; exact ev_lenS hvl) rfl (by simp only [pt8, pt0, pt1, pt2, pt3, pt4, pt5, pt6, pt7]; rfl) ?_) | (refine WC.seq ?_) | (refine WC.region ?_) | (refine WO.nil ?_) | (simp only [fl1, fl2, fl3, fl4, fl5, fl6, fl7, fl8, fl9, fl10, Nat.reduceBEq]) | (refine WC.drawT ?_) | (refine WT.nil ?_) | (refine WT.free rfl (by intro; simp (disch := omega) only [go_sem, zeros, List.append_assoc, List.length_append, ov_one0, Nat.reduceAdd, Nat.reduceMul, Nat.reduceSub, Nat.reduceLeDiff, Nat.reduceEqDiff, Int.reduceNeg, Int.reduceAdd, Int.reduceToNat, reduceIte, reduceCtorEq, k0, k1, kA, kB, hvc, cut3, ov_all3, hsl, Option.map_none, Option.map_some]; rfl) rfl (by simp only [pt8, pt0, pt1, pt2, pt3, pt4, pt5, pt6, pt7]; rfl) ?_) | (refine WT.big rfl rfl (by intro; simp (disch := omega) only [go_sem, zeros, List.append_assoc, List.length_append, ov_one0, Nat.reduceAdd, Nat.reduceMul, Nat.reduceSub, Nat.reduceLeDiff, Nat.reduceEqDiff, Int.reduceNeg, Int.reduceAdd, Int.reduceToNat, reduceIte, reduceCtorEq, k0, k1, kA, kB, hvc, cut3, ov_all3, hsl, Option.map_none, Option.map_some]; rfl) (by simp (disch := omega) only [go_sem, zeros, List.append_assoc, List.length_append, ov_one0, Nat.reduceAdd, Nat.reduceMul, Nat.reduceSub, Nat.reduceLeDiff, Nat.reduceEqDiff, Int.reduceNeg, Int.reduceAdd, Int.reduceToNat, reduceIte, reduceCtorEq, k0, k1, kA, kB, hvc, cut3, ov_all3, hsl, Option.map_none, Option.map_some, touch]; rfl) (by first | exact .inl rfl | exact .inr (apart_nil _) | (right; apply apart_mk; simp only [apartL, List.nil_append, List.cons_append, List.getElem?_cons_succ, List.getElem?_cons_zero, Tch.free, and_true, true_and]; first | done | omega)) (by simp only [pt8, pt0, pt1, pt2, pt3, pt4, pt5, pt6, pt7]; rfl) ?_) | (refine WT.bigN rfl rfl (by intro; simp (disch := omega) only [go_sem, zeros, List.append_assoc, List.length_append, ov_one0, Nat.reduceAdd, Nat.reduceMul, Nat.reduceSub, Nat.reduceLeDiff, Nat.reduceEqDiff, Int.reduceNeg, Int.reduceAdd, Int.reduceToNat, reduceIte, reduceCtorEq, k0, k1, kA, kB, hvc, cut3, ov_all3, hsl, Option.map_none, Option.map_some]; rfl) (by simp (disch := omega) only [go_sem, zeros, List.append_assoc, List.length_append, ov_one0, Nat.reduceAdd, Nat.reduceMul, Nat.reduceSub, Nat.reduceLeDiff, Nat.reduceEqDiff, Int.reduceNeg, Int.reduceAdd, Int.reduceToNat, reduceIte, reduceCtorEq, k0, k1, kA, kB, hvc, cut3, ov_all3, hsl, Option.map_none, Option.map_some, touch]; rfl) (by first | exact .inl rfl | exact .inr (apart_nil _) | (right; apply apart_mk; simp only [apartL, List.nil_append, List.cons_append, List.getElem?_cons_succ, List.getElem?_cons_zero, Tch.free, and_true, true_and]; first | done | omega)) ?_) | (refine WC.no rfl ?_) | (refine WC.exit ?_) | (refine WC.ret ?_) | (refine WO.em2 rfl (by intro hp; simp only [hp, decide_true]; rfl) (by intro hp; simp only [hp, decide_false]; rfl) (fun hp => ?_) (fun hp => ?_) <;> try (exfalso; first | omega | contradiction)) | (refine WC.em2 rfl (fun hp => ?_) (fun hp => ?_) <;> try (exfalso; first | omega | contradiction)))
      all_goals
        have kC : Zz.look ((H.set 0 (some ⟨0, [v, .int .i64 sup, .int .i64 tol]⟩)).set 1 (some ⟨0, [v, .int .i64 sup, .int .i64 tol]⟩)) 1 0 = some [v, .int .i64 sup, .int .i64 tol] := look_set (by rw [List.length_set]; omega)
        have hg2 := (hg.frame (H' := H.set 0 (some ⟨0, [v, .int .i64 sup, .int .i64 tol]⟩)) (q1 := 0) (fun j _ hne => List.getElem?_set_ne (Ne.symm hne)) (by omega)).frame (H' := (H.set 0 (some ⟨0, [v, .int .i64 sup, .int .i64 tol]⟩)).set 1 (some ⟨0, [v, .int .i64 sup, .int .i64 tol]⟩)) (q1 := 1) (fun j _ hne => List.getElem?_set_ne (Ne.symm hne)) (by omega)
        obtain ⟨x, x1, x2⟩ := gs_pipes hg2
        refine ⟨_, by simp only [evRes, gt8, gt0, gt1, gt2, gt3, gt4, gt5, gt6, gt7, loadAV, loadCs, kC, cut3, if_true, Option.bind_some, Option.map_some]; rfl, x, x1, ?_⟩
        exact res_fewv x2 (hres _)
    · skip
      repeat' (first | (refine WO.yes rfl ?_) | (refine WO.noE rfl (by simp only [pt8, pt0, pt1, pt2, pt3, pt4, pt5, pt6, pt7]; rfl) ?_) | (refine WO.opE (by intro; simp (disch := omega) only [go_sem, zeros, List.append_assoc, List.length_append, ov_one0, Nat.reduceAdd, Nat.reduceMul, Nat.reduceSub, Nat.reduceLeDiff, Nat.reduceEqDiff, Int.reduceNeg, Int.reduceAdd, Int.reduceToNat, reduceIte, reduceCtorEq, k0, k1, kA, kB, hvc, cut3, ov_all3, hsl, Option.map_none, Option.map_some]; rfl) (by simp only [pt8, pt0, pt1, pt2, pt3, pt4, pt5, pt6, pt7]; rfl) ?_) | (refine WO.opN (by intro; simp (disch := omega) only [go_sem, zeros, List.append_assoc, List.length_append, ov_one0, Nat.reduceAdd, Nat.reduceMul, Nat.reduceSub, Nat.reduceLeDiff, Nat.reduceEqDiff, Int.reduceNeg, Int.reduceAdd, Int.reduceToNat, reduceIte, reduceCtorEq, k0, k1, kA, kB, hvc, cut3, ov_all3, hsl, Option.map_none, Option.map_some]; rfl) ?_) | (refine WO.opE (by intro; exact ev_lenS (by simp only [go_sem]; first | rfl | assumption)) (by simp only [pt8, pt0, pt1, pt2, pt3, pt4, pt5, pt6, pt7]; rfl) ?_) | (refine WT.free rfl (by intro; exact ev_lenS hvl) rfl (by simp only [pt8, pt0, pt1, pt2, pt3, pt4, pt5, pt6, pt7]; rfl) ?_) | (refine WC.seq ?_) | (refine WC.region ?_) | (refine WO.nil ?_) | (simp only [fl1, fl2, fl3, fl4, fl5, fl6, fl7, fl8, fl9, fl10, Nat.reduceBEq]) | (refine WC.drawT ?_) | (refine WT.nil ?_) | (refine WT.free rfl (by intro; simp (disch := omega) only [go_sem, zeros, List.append_assoc, List.length_append, ov_one0, Nat.reduceAdd, Nat.reduceMul, Nat.reduceSub, Nat.reduceLeDiff, Nat.reduceEqDiff, Int.reduceNeg, Int.reduceAdd, Int.reduceToNat, reduceIte, reduceCtorEq, k0, k1, kA, kB, hvc, cut3, ov_all3, hsl, Option.map_none, Option.map_some]; rfl) rfl (by simp only [pt8, pt0, pt1, pt2, pt3, pt4, pt5, pt6, pt7]; rfl) ?_) | (refine WT.big rfl rfl (by intro; simp (disch := omega) only [go_sem, zeros, List.append_assoc, List.length_append, ov_one0, Nat.reduceAdd, Nat.reduceMul, Nat.reduceSub, Nat.reduceLeDiff, Nat.reduceEqDiff, Int.reduceNeg, Int.reduceAdd, Int.reduceToNat, reduceIte, reduceCtorEq, k0, k1, kA, kB, hvc, cut3, ov_all3, hsl, Option.map_none, Option.map_some]; rfl) (by simp (disch := omega) only [go_sem, zeros, List.append_assoc, List.length_append, ov_one0, Nat.reduceAdd, Nat.reduceMul, Nat.reduceSub, Nat.reduceLeDiff, Nat.reduceEqDiff, Int.reduceNeg, Int.reduceAdd, Int.reduceToNat, reduceIte, reduceCtorEq, k0, k1, kA, kB, hvc, cut3, ov_all3, hsl, Option.map_none, Option.map_some, touch]; rfl) (by first | exact .inl rfl | exact .inr (apart_nil _) | (right; apply apart_mk; simp only [apartL, List.nil_append, List.cons_append, List.getElem?_cons_succ, List.getElem?_cons_zero, Tch.free, and_true, true_and]; first | done | omega)) (by simp only [pt8, pt0, pt1, pt2, pt3, pt4, pt5, pt6, pt7]; rfl) ?_) | (refine WT.bigN rfl rfl (by intro; simp (disch := omega) only [go_sem, zeros, List.append_assoc, List.length_append, ov_one0, Nat.reduceAdd, Nat.reduceMul, Nat.reduceSub, Nat.reduceLeDiff, Nat.reduceEqDiff, Int.reduceNeg, Int.reduceAdd, Int.reduceToNat, reduceIte, reduceCtorEq, k0, k1, kA, kB, hvc, cut3, ov_all3, hsl, Option.map_none, Option.map_some]; rfl) (by simp (disch := omega) only [go_sem, zeros, List.append_assoc, List.length_append, ov_one0, Nat.reduceAdd, Nat.reduceMul, Nat.reduceSub, Nat.reduceLeDiff, Nat.reduceEqDiff, Int.reduceNeg, Int.reduceAdd, Int.reduceToNat, reduceIte, reduceCtorEq, k0, k1, kA, kB, hvc, cut3, ov_all3, hsl, Option.map_none, Option.map_some, touch]; rfl) (by first | exact .inl rfl | exact .inr (apart_nil _) | (right; apply apart_mk; simp only [apartL, List.nil_append, List.cons_append, List.getElem?_cons_succ, List.getElem?_cons_zero, Tch.free, and_true, true_and]; first | done | omega)) ?_) | (refine WC.no rfl ?_) | (refine WC.exit ?_) | (refine WC.ret ?_) | (refine WO.em2 rfl (by intro hp; simp only [hp, decide_true]; rfl) (by intro hp; simp only [hp, decide_false]; rfl) (fun hp => ?_) (fun hp => ?_) <;> try (exfalso; first | omega | contradiction)) | (refine WC.em2 rfl (fun hp => ?_) (fun hp => ?_) <;> try (exfalso; first | omega | contradiction)))
      all_goals
        have kC : Zz.look ((H.set 0 (some ⟨0, [v, .int .i64 sup, .int .i64 tol]⟩)).set 1 (some ⟨0, [v, .int .i64 sup, .int .i64 tol]⟩)) 1 0 = some [v, .int .i64 sup, .int .i64 tol] := look_set (by rw [List.length_set]; omega)
        have hg2 := (hg.frame (H' := H.set 0 (some ⟨0, [v, .int .i64 sup, .int .i64 tol]⟩)) (q1 := 0) (fun j _ hne => List.getElem?_set_ne (Ne.symm hne)) (by omega)).frame (H' := (H.set 0 (some ⟨0, [v, .int .i64 sup, .int .i64 tol]⟩)).set 1 (some ⟨0, [v, .int .i64 sup, .int .i64 tol]⟩)) (q1 := 1) (fun j _ hne => List.getElem?_set_ne (Ne.symm hne)) (by omega)
        obtain ⟨x, x1, x2⟩ := gs_pipes hg2
        refine ⟨_, by simp only [evRes, gt8, gt0, gt1, gt2, gt3, gt4, gt5, gt6, gt7, loadAV, loadCs, kC, cut3, if_true, Option.bind_some, Option.map_some]; rfl, x, x1, ?_⟩
        exact res_fewv x2 (hres _)
theorem s18v {pv vv : AV} {ps : List Pipe} {vs : List V6} {sup tol : Int} (hq : PpL pv ps) (hmax : ps.length < 9223372036854775807) (hvv : VL6 vv vs) (hvmax : vs.length < 9223372036854775807) : ∃ x x', PpL x (fewL ps) ∧ VL6 x' (vs.take 3) ∧ ∀ m, borrowE E38 18 [.agg [pv, .int .i64 sup, .int .i64 tol], vv] m = some (.tuple [.agg [x, .int .i64 sup, .int .i64 tol], x'], m) := by
  obtain ⟨x', y1, y2, y3⟩ := slice3 hvv
  obtain ⟨n, y, m', h1, x, x1, x2⟩ := (f18v (sup := sup) (tol := tol) hq hmax hvv hvmax y2 y3).ex
  exact ⟨x, x', x1, y1, fun m => borrowE_of (pures_cons (pure3 hq.pureC) (pures_cons hvv.pureA rfl)) ⟨⟨n, y, m', h1, x2⟩⟩⟩
end Go.Proofs.YtjbdefmhjmkifaaDoor

