import Derived.Test.YtjbdefmhjmkifaaDoorIr11xc10
import Derived.Test.YtjbdefmhjmkifaaDoorL11dc
import Derived.Test.YtjbdefmhjmkifaaDoorL11zb

set_option linter.unusedSimpArgs false
set_option linter.unusedVariables false
namespace Go.Proofs.YtjbdefmhjmkifaaDoor
open Go.Zz
set_option maxRecDepth 100000
set_option maxHeartbeats 8000000
/-- The reference's steady. -/
theorem f67 {pv iv : AV} {ps : List Pipe} {ids : List Int} {sup tol l w : Int} (hq : PpL pv ps) (hiv : IntS iv ids) (himax : ids.length < 9223372036854775807) (hv : VO ps sup tol) (hh : Has ps ids) (hw : -100 ≤ w ∧ w ≤ 100) (hl : 0 ≤ l ∧ l ≤ 1000000000) :
    WF D5 (.func 67 [] []) [.agg [pv, .int .i64 sup, .int .i64 tol], iv, .int .i64 l, .int .i64 w] ⟨[], []⟩ fun y m' => y = .bool (decide (Stead ps tol ids l w)) := by
  have hil := hiv.len
  have ht := hv.2.2.2
  have hmax : ps.length < 9223372036854775807 := by have := hv.2.1; omega
  refine WF.fnE rfl (fn_of Tryd.func67 cir67) (by show 4 ≤ 43; decide) ?_
  unfold ir67
  simp only [padTo, List.replicate, List.nil_append, List.append_nil, List.cons_append]
  repeat' (first | (refine WO.opE (by intro; simp (disch := omega) only [go_sem, zeros, Zz.look, List.append_assoc, List.length_append, ov_all6, ov_one0, Nat.reduceAdd, Nat.reduceMul, Nat.reduceSub, Nat.reduceLeDiff, Nat.reduceEqDiff, Int.reduceNeg, Int.reduceAdd, Int.reduceToNat, reduceIte, reduceCtorEq]; rfl) (by simp only [pt8, pt0, pt1, pt2, pt3, pt4, pt5, pt6, pt7]; rfl) ?_) | (refine WC.seq ?_) | (refine WC.region ?_) | (refine WO.nil ?_) | (simp only [fl1, fl2, fl3, fl4, fl5, fl6, fl7, fl8, fl9, fl10, Nat.reduceBEq]) | (refine WC.block ?_))
  refine WC.loopI (fun m s => ∃ T i, s = ⟨T, [some ⟨0, [pv, .int .i64 sup, .int .i64 tol]⟩], []⟩ ∧ T.length = 43 ∧ gt T 1 = iv ∧ gt T 2 = .int .i64 l ∧ gt T 3 = .int .i64 w ∧ gt T 4 = .pref 0 0 0 ∧ gt T 9 = .int .i64 (i : Nat) ∧ m + i = ids.length ∧ ∀ j, j < i → within1 ps tol l w (ids.getD j 0)) ?_ ids.length _ ⟨_, 0, rfl, rfl, rfl, rfl, rfl, rfl, rfl, by omega, fun j hj => by omega⟩
  rintro m _ ⟨T, i, rfl, hT, g1, g2, g3, g4, g9, hm, hi⟩
  obtain ⟨f, rfl⟩ := ex43 hT
  clear hT
  replace g1 : f 1 = iv := g1
  replace g2 : f 2 = .int .i64 l := g2
  replace g3 : f 3 = .int .i64 w := g3
  replace g4 : f 4 = .pref 0 0 0 := g4
  replace g9 : f 9 = .int .i64 (i : Nat) := g9
  simp only [g1, g2, g3, g4, g9]
  by_cases hin : i < ids.length
  · have hpos := hh i hin
    have h54 := fun m => s54 (sup := sup) (tol := tol) (id := ids.getD i 0) (m := m) hq hmax
    have hpi : posI ps (ids.getD i 0) = ((pos ps (ids.getD i 0) : Nat) : Int) := if_pos hpos
    rw [hpi] at h54
    have hat := (hv.at (ids.getD i 0)).2.2
    have h59 := fun m => s59 (m := m) (p := pipeOf ps (ids.getD i 0)) (l := l) (w := w) hat hw hl
    have hwi : within1 ps tol l w (ids.getD i 0) ↔ ((0 - tol) * 10000 ≤ shiftOf (pipeOf ps (ids.getD i 0)) l w ∧ shiftOf (pipeOf ps (ids.getD i 0)) l w ≤ tol * 10000) := by
      unfold within1
      exact ⟨fun h => by have := h hpos; omega, fun h _ => by omega⟩
    generalize shiftOf (pipeOf ps (ids.getD i 0)) l w = sh at *
    have epp : pipeOf ps (ids.getD i 0) = nth ps (pos ps (ids.getD i 0)) := rfl
    rw [epp] at h59
    generalize pos ps (ids.getD i 0) = pp at *
    repeat' (first | (refine WO.yes rfl ?_) | (refine WO.noE rfl (by simp only [pt8, pt0, pt1, pt2, pt3, pt4, pt5, pt6, pt7]; rfl) ?_) | (refine WO.opE (by intro; simp (disch := omega) only [go_sem, zeros, Zz.look, List.append_assoc, List.length_append, ov_all6, ov_one0, Nat.reduceAdd, Nat.reduceMul, Nat.reduceSub, Nat.reduceLeDiff, Nat.reduceEqDiff, Int.reduceNeg, Int.reduceAdd, Int.reduceToNat, reduceIte, reduceCtorEq, hq.at, hiv.atI, cut10, Pipe.cells]; rfl) (by simp only [pt8, pt0, pt1, pt2, pt3, pt4, pt5, pt6, pt7]; rfl) ?_) | (refine WO.opE (by intro; exact ev_lenS (by simp only [go_sem]; first | rfl | assumption)) (by simp only [pt8, pt0, pt1, pt2, pt3, pt4, pt5, pt6, pt7]; rfl) ?_) | (refine WT.spec rfl rfl (fun V => h54 _) (by simp only [pt8, pt0, pt1, pt2, pt3, pt4, pt5, pt6, pt7]; rfl) ?_) | (refine WT.spec rfl rfl (fun V => h59 _) (by simp only [pt8, pt0, pt1, pt2, pt3, pt4, pt5, pt6, pt7]; rfl) ?_) | (refine WC.seq ?_) | (refine WC.region ?_) | (refine WO.nil ?_) | (simp only [fl1, fl2, fl3, fl4, fl5, fl6, fl7, fl8, fl9, fl10, Nat.reduceBEq]) | (refine WC.drawT ?_) | (refine WT.nil ?_) | (refine WT.free rfl (by intro; simp (disch := omega) only [go_sem, zeros, Zz.look, List.append_assoc, List.length_append, ov_all6, ov_one0, Nat.reduceAdd, Nat.reduceMul, Nat.reduceSub, Nat.reduceLeDiff, Nat.reduceEqDiff, Int.reduceNeg, Int.reduceAdd, Int.reduceToNat, reduceIte, reduceCtorEq, hq.at, hiv.atI, cut10, Pipe.cells]; rfl) rfl (by simp only [pt8, pt0, pt1, pt2, pt3, pt4, pt5, pt6, pt7]; rfl) ?_) | (refine WT.big rfl rfl (by intro; simp (disch := omega) only [go_sem, zeros, Zz.look, List.append_assoc, List.length_append, ov_all6, ov_one0, Nat.reduceAdd, Nat.reduceMul, Nat.reduceSub, Nat.reduceLeDiff, Nat.reduceEqDiff, Int.reduceNeg, Int.reduceAdd, Int.reduceToNat, reduceIte, reduceCtorEq, hq.at, hiv.atI, cut10, Pipe.cells]; rfl) (by simp (disch := omega) only [go_sem, zeros, Zz.look, List.append_assoc, List.length_append, ov_all6, ov_one0, Nat.reduceAdd, Nat.reduceMul, Nat.reduceSub, Nat.reduceLeDiff, Nat.reduceEqDiff, Int.reduceNeg, Int.reduceAdd, Int.reduceToNat, reduceIte, reduceCtorEq, hq.at, hiv.atI, cut10, Pipe.cells, touch]; rfl) (by first | exact .inl rfl | exact .inr (apart_nil _) | exact .inr trivial | (right; apply apart_mk; simp only [apartL, List.nil_append, List.cons_append, List.getElem?_cons_succ, List.getElem?_cons_zero, Tch.free, and_true, true_and]; first | done | omega)) (by simp only [pt8, pt0, pt1, pt2, pt3, pt4, pt5, pt6, pt7]; rfl) ?_) | (refine WC.yes rfl ?_) | (refine WC.skip ?_) | (refine WC.ret ?_) | (refine WC.block ?_) | (refine WO.em2 rfl (by intro hp; simp only [hp, decide_true]; rfl) (by intro hp; simp only [hp, decide_false]; rfl) (fun hp => ?_) (fun hp => ?_) <;> try (exfalso; first | omega | contradiction)) | (refine WC.em2 rfl (fun hp => ?_) (fun hp => ?_) <;> try (exfalso; first | omega | contradiction)))
    iterate 2
      (· refine ⟨_, rfl, ?_⟩
         simp only [oneRes, gt8, gt0, gt1, gt2, gt3, gt4, gt5, gt6, gt7, AV.bool.injEq]
         symm
         rw [decide_eq_false_iff_not]
         intro h
         have := hwi.1 (h i hin)
         omega)
    exact ⟨m - 1, by omega, _, i + 1, rfl, rfl, rfl, rfl, rfl, rfl, rfl, by omega, fun j hj => by
      by_cases e : j = i
      · subst e; exact hwi.2 (by omega)
      · exact hi j (by omega)⟩
  · have hi' : i = ids.length := by omega
    subst hi'
    repeat' (first | (refine WO.opE (by intro; simp (disch := omega) only [go_sem, zeros, Zz.look, List.append_assoc, List.length_append, ov_all6, ov_one0, Nat.reduceAdd, Nat.reduceMul, Nat.reduceSub, Nat.reduceLeDiff, Nat.reduceEqDiff, Int.reduceNeg, Int.reduceAdd, Int.reduceToNat, reduceIte, reduceCtorEq]; rfl) (by simp only [pt8, pt0, pt1, pt2, pt3, pt4, pt5, pt6, pt7]; rfl) ?_) | (refine WO.opE (by intro; exact ev_lenS (by simp only [go_sem]; first | rfl | assumption)) (by simp only [pt8, pt0, pt1, pt2, pt3, pt4, pt5, pt6, pt7]; rfl) ?_) | (refine WC.seq ?_) | (refine WC.region ?_) | (refine WO.nil ?_) | (simp only [fl1, fl2, fl3, fl4, fl5, fl6, fl7, fl8, fl9, fl10, Nat.reduceBEq]) | (refine WC.exit ?_) | (refine WC.ret ?_) | (refine WC.em2 rfl (fun hp => ?_) (fun hp => ?_) <;> try (exfalso; first | omega | contradiction)))
    refine ⟨_, rfl, ?_⟩
    simp only [oneRes, gt8, gt0, gt1, gt2, gt3, gt4, gt5, gt6, gt7, AV.bool.injEq]
    symm
    rw [decide_eq_true_iff]
    exact hi
theorem s67 {pv iv : AV} {ps : List Pipe} {ids : List Int} {sup tol l w : Int} (hq : PpL pv ps) (hiv : IntS iv ids) (himax : ids.length < 9223372036854775807) (hv : VO ps sup tol) (hh : Has ps ids) (hw : -100 ≤ w ∧ w ≤ 100) (hl : 0 ≤ l ∧ l ≤ 1000000000) {m : Mem} :
    borrowE D5 67 [.agg [pv, .int .i64 sup, .int .i64 tol], iv, .int .i64 l, .int .i64 w] m = some (.bool (decide (Stead ps tol ids l w)), m) :=
  borrowE_of (pures_cons (pure3 hq.pureC) (pures_cons hiv.pureA (pures_cons rfl (pures_cons rfl rfl)))) ((f67 hq hiv himax hv hh hw hl).mono fun y m' h => by rw [h]; rfl)

noncomputable def D6 : Env := D5.put 67 (borrowE D5 67)
theorem D6_ok : EnvOk Tryd.prog D6 := Env.put_ok D5_ok (borrowE_ok D5_ok (callable Tryd.func67 (by kernel_rfl)))
/-- The reference's Steady. -/
theorem f31 {pv iv : AV} {ps : List Pipe} {ids : List Int} {sup tol w : Int} (hq : PpL pv ps) (hmax : ps.length < 9223372036854775807) (hiv : IntS iv ids) (himax : ids.length < 9223372036854775807) :
    WF D6 (.func 31 [] []) [.agg [pv, .int .i64 sup, .int .i64 tol], iv, .int .i64 w] ⟨[], []⟩ fun y m' => y = .tuple [.bool (decide (setE ps sup tol ids w = 0 ∧ Stead ps tol ids (lacks ps sup ids) w)), .int .i64 (setE ps sup tol ids w)] := by
  have hil := hiv.len
  have h25 := fun m => s25 (sup := sup) (tol := tol) (m := m) hq hmax hiv himax
  rw [setE_warm]
  by_cases hw : -100 ≤ w ∧ w ≤ 100
  · rw [if_pos hw]
    by_cases h0 : setE ps sup tol ids 0 = 0
    · obtain ⟨hv, _, hr, hh⟩ := setE_ok.1 h0
      have hl := ris_len hv hr hh
      have hlb := lacks_bnd hv (ids := ids) (by omega)
      simp only [h0, if_true, true_and] at h25 ⊢
      have h56 := fun m => s56x (m := m) hq hiv hv hh (by omega) (hiv.byVal _)
      have h67 := fun m => s67 (m := m) hq hiv himax hv hh hw (l := lacks ps sup ids) (by omega)
      refine WF.fnE rfl (fn_of Tryd.func31 cir31) (by show 3 ≤ 35; decide) ?_
      unfold ir31
      simp only [padTo, List.replicate, List.nil_append, List.append_nil, List.cons_append]
      repeat' (first | (refine WO.yes rfl ?_) | (refine WO.opE (by intro; simp (disch := omega) only [go_sem, zeros, Zz.look, List.append_assoc, List.length_append, ov_all6, ov_one0, Nat.reduceAdd, Nat.reduceMul, Nat.reduceSub, Nat.reduceLeDiff, Nat.reduceEqDiff, Int.reduceNeg, Int.reduceAdd, Int.reduceToNat, reduceIte, reduceCtorEq]; rfl) (by simp only [pt8, pt0, pt1, pt2, pt3, pt4, pt5, pt6, pt7]; rfl) ?_) | (refine WO.specE rfl rfl (h25 _) (by simp only [pt8, pt0, pt1, pt2, pt3, pt4, pt5, pt6, pt7]; rfl) ?_) | (refine WO.specE rfl rfl (s63) (by simp only [pt8, pt0, pt1, pt2, pt3, pt4, pt5, pt6, pt7]; rfl) ?_) | (refine WT.spec rfl rfl (fun V => h56 _) (by simp only [pt8, pt0, pt1, pt2, pt3, pt4, pt5, pt6, pt7]; rfl) ?_) | (refine WT.spec rfl rfl (fun V => h67 _) (by simp only [pt8, pt0, pt1, pt2, pt3, pt4, pt5, pt6, pt7]; rfl) ?_) | (refine WC.seq ?_) | (refine WC.region ?_) | (refine WO.nil ?_) | (simp only [fl1, fl2, fl3, fl4, fl5, fl6, fl7, fl8, fl9, fl10, Nat.reduceBEq]) | (refine WC.drawT ?_) | (refine WT.nil ?_) | (refine WT.free rfl (by intro; simp (disch := omega) only [go_sem, zeros, Zz.look, List.append_assoc, List.length_append, ov_all6, ov_one0, Nat.reduceAdd, Nat.reduceMul, Nat.reduceSub, Nat.reduceLeDiff, Nat.reduceEqDiff, Int.reduceNeg, Int.reduceAdd, Int.reduceToNat, reduceIte, reduceCtorEq]; rfl) rfl (by simp only [pt8, pt0, pt1, pt2, pt3, pt4, pt5, pt6, pt7]; rfl) ?_) | (refine WT.big rfl rfl (by intro; simp (disch := omega) only [go_sem, zeros, Zz.look, List.append_assoc, List.length_append, ov_all6, ov_one0, Nat.reduceAdd, Nat.reduceMul, Nat.reduceSub, Nat.reduceLeDiff, Nat.reduceEqDiff, Int.reduceNeg, Int.reduceAdd, Int.reduceToNat, reduceIte, reduceCtorEq]; rfl) (by simp (disch := omega) only [go_sem, zeros, Zz.look, List.append_assoc, List.length_append, ov_all6, ov_one0, Nat.reduceAdd, Nat.reduceMul, Nat.reduceSub, Nat.reduceLeDiff, Nat.reduceEqDiff, Int.reduceNeg, Int.reduceAdd, Int.reduceToNat, reduceIte, reduceCtorEq, touch]; rfl) (by first | exact .inl rfl | exact .inr (apart_nil _) | exact .inr trivial | (right; apply apart_mk; simp only [apartL, List.nil_append, List.cons_append, List.getElem?_cons_succ, List.getElem?_cons_zero, Tch.free, and_true, true_and]; first | done | omega)) (by simp only [pt8, pt0, pt1, pt2, pt3, pt4, pt5, pt6, pt7]; rfl) ?_) | (refine WC.no rfl ?_) | (refine WC.skip ?_) | (refine WC.ret ?_) | (refine WC.em2 rfl (fun hp => ?_) (fun hp => ?_) <;> try (exfalso; first | omega | contradiction)))
      all_goals exact ⟨_, rfl, rfl⟩
    · rw [decide_eq_false (fun h => h0 h.1)]
      rw [if_neg h0] at h25
      generalize setE ps sup tol ids 0 = e at *
      refine WF.fnE rfl (fn_of Tryd.func31 cir31) (by show 3 ≤ 35; decide) ?_
      unfold ir31
      simp only [padTo, List.replicate, List.nil_append, List.append_nil, List.cons_append]
      repeat' (first | (refine WO.yes rfl ?_) | (refine WO.noE rfl (by simp only [pt8, pt0, pt1, pt2, pt3, pt4, pt5, pt6, pt7]; rfl) ?_) | (refine WO.opE (by intro; simp (disch := omega) only [go_sem, zeros, Zz.look, List.append_assoc, List.length_append, ov_all6, ov_one0, Nat.reduceAdd, Nat.reduceMul, Nat.reduceSub, Nat.reduceLeDiff, Nat.reduceEqDiff, Int.reduceNeg, Int.reduceAdd, Int.reduceToNat, reduceIte, reduceCtorEq]; rfl) (by simp only [pt8, pt0, pt1, pt2, pt3, pt4, pt5, pt6, pt7]; rfl) ?_) | (refine WO.specE rfl rfl (h25 _) (by simp only [pt8, pt0, pt1, pt2, pt3, pt4, pt5, pt6, pt7]; rfl) ?_) | (refine WO.specE rfl rfl (s63) (by simp only [pt8, pt0, pt1, pt2, pt3, pt4, pt5, pt6, pt7]; rfl) ?_) | (refine WC.seq ?_) | (refine WC.region ?_) | (refine WO.nil ?_) | (simp only [fl1, fl2, fl3, fl4, fl5, fl6, fl7, fl8, fl9, fl10, Nat.reduceBEq]) | (refine WC.yes rfl ?_) | (refine WC.skip ?_) | (refine WC.ret ?_) | (refine WO.em2 rfl (by intro hp; simp only [hp, decide_true]; rfl) (by intro hp; simp only [hp, decide_false]; rfl) (fun hp => ?_) (fun hp => ?_) <;> try (exfalso; first | omega | contradiction)) | (refine WC.em2 rfl (fun hp => ?_) (fun hp => ?_) <;> try (exfalso; first | omega | contradiction)))
      all_goals first
        | exact ⟨_, rfl, rfl⟩
        | (obtain rfl : e = 1 := by omega
           exact ⟨_, rfl, rfl⟩)
  · have hw1 := hw
    rw [if_neg hw, decide_eq_false (fun h => absurd h.1 (by decide))]
    generalize setE ps sup tol ids 0 = e at *
    refine WF.fnE rfl (fn_of Tryd.func31 cir31) (by show 3 ≤ 35; decide) ?_
    unfold ir31
    simp only [padTo, List.replicate, List.nil_append, List.append_nil, List.cons_append]
    repeat' (first | (refine WO.yes rfl ?_) | (refine WO.noE rfl (by simp only [pt8, pt0, pt1, pt2, pt3, pt4, pt5, pt6, pt7]; rfl) ?_) | (refine WO.opE (by intro; simp (disch := omega) only [go_sem, zeros, Zz.look, List.append_assoc, List.length_append, ov_all6, ov_one0, Nat.reduceAdd, Nat.reduceMul, Nat.reduceSub, Nat.reduceLeDiff, Nat.reduceEqDiff, Int.reduceNeg, Int.reduceAdd, Int.reduceToNat, reduceIte, reduceCtorEq]; rfl) (by simp only [pt8, pt0, pt1, pt2, pt3, pt4, pt5, pt6, pt7]; rfl) ?_) | (refine WO.specE rfl rfl (h25 _) (by simp only [pt8, pt0, pt1, pt2, pt3, pt4, pt5, pt6, pt7]; rfl) ?_) | (refine WO.specE rfl rfl (s63) (by simp only [pt8, pt0, pt1, pt2, pt3, pt4, pt5, pt6, pt7]; rfl) ?_) | (refine WC.seq ?_) | (refine WC.region ?_) | (refine WO.nil ?_) | (simp only [fl1, fl2, fl3, fl4, fl5, fl6, fl7, fl8, fl9, fl10, Nat.reduceBEq]) | (refine WC.yes rfl ?_) | (refine WC.ret ?_) | (refine WO.em2 rfl (by intro hp; simp only [hp, decide_true]; rfl) (by intro hp; simp only [hp, decide_false]; rfl) (fun hp => ?_) (fun hp => ?_) <;> try (exfalso; first | omega | contradiction)) | (refine WC.em2 rfl (fun hp => ?_) (fun hp => ?_) <;> try (exfalso; first | omega | contradiction)))
    all_goals exact ⟨_, rfl, rfl⟩
theorem s31 {pv iv : AV} {ps : List Pipe} {ids : List Int} {sup tol w : Int} (hq : PpL pv ps) (hmax : ps.length < 9223372036854775807) (hiv : IntS iv ids) (himax : ids.length < 9223372036854775807) {m : Mem} :
    borrowE D6 31 [.agg [pv, .int .i64 sup, .int .i64 tol], iv, .int .i64 w] m = some (.tuple [.bool (decide (setE ps sup tol ids w = 0 ∧ Stead ps tol ids (lacks ps sup ids) w)), .int .i64 (setE ps sup tol ids w)], m) :=
  borrowE_of (pures_cons (pure3 hq.pureC) (pures_cons hiv.pureA (pures_cons rfl rfl))) ((f31 hq hmax hiv himax).mono fun y m' h => by rw [h]; rfl)

noncomputable def D7 : Env := D6.put 31 (borrowE D6 31)
theorem D7_ok : EnvOk Tryd.prog D7 := Env.put_ok D6_ok (borrowE_ok D6_ok (callable Tryd.func31 (by kernel_rfl)))
/-- The reference's Need. -/
theorem f32 {pv iv : AV} {ps : List Pipe} {ids : List Int} {sup tol w : Int} (hq : PpL pv ps) (hmax : ps.length < 9223372036854775807) (hiv : IntS iv ids) (himax : ids.length < 9223372036854775807) :
    WF D7 (.func 32 [] []) [.agg [pv, .int .i64 sup, .int .i64 tol], iv, .int .i64 w] ⟨[], []⟩ fun y m' => y = .tuple [.int .i64 (needV ps sup tol ids w).1, .int .i64 (needV ps sup tol ids w).2] := by
  have hil := hiv.len
  have h25 := fun m => s25 (sup := sup) (tol := tol) (m := m) hq hmax hiv himax
  unfold needV
  rw [setE_warm]
  by_cases hw : -100 ≤ w ∧ w ≤ 100
  · rw [if_pos hw]
    by_cases h0 : setE ps sup tol ids 0 = 0
    · obtain ⟨hv, _, hr, hh⟩ := setE_ok.1 h0
      have hl := ris_len hv hr hh
      have hD := demN_bnd hv ids ids.length (Nat.le_refl _)
      have eD : demN ps ids ids.length = dem ps ids := rfl
      rw [eD] at hD
      have hN := lackN_bnd (ps := ps) (tol := tol) (ids := ids) (w := w) hD.1 ids.length
      have hge : ∀ l, 0 ≤ l → l ≤ dem ps ids → Stead ps tol ids l w → l ≤ lackN ps tol ids w (dem ps ids) ids.length ∧ Stead ps tol ids (lackN ps tol ids w (dem ps ids) ids.length) w := fun l l0 l1 hs => ⟨lackN_ge l1 hh hs l0 _ (Nat.le_refl _), stead_lackN hv l1 hh hs l0⟩
      simp only [h0, if_true] at h25 ⊢
      generalize lackN ps tol ids w (dem ps ids) ids.length = N at *
      refine WF.fnE rfl (fn_of Tryd.func32 cir32) (by show 3 ≤ 44; decide) ?_
      unfold ir32
      simp only [padTo, List.replicate, List.nil_append, List.append_nil, List.cons_append]
      repeat' (first | (refine WO.yes rfl ?_) | (refine WO.opE (by intro; simp (disch := omega) only [go_sem, zeros, Zz.look, List.append_assoc, List.length_append, ov_all6, ov_one0, Nat.reduceAdd, Nat.reduceMul, Nat.reduceSub, Nat.reduceLeDiff, Nat.reduceEqDiff, Int.reduceNeg, Int.reduceAdd, Int.reduceToNat, reduceIte, reduceCtorEq]; rfl) (by simp only [pt8, pt0, pt1, pt2, pt3, pt4, pt5, pt6, pt7]; rfl) ?_) | (refine WO.specE rfl rfl (h25 _) (by simp only [pt8, pt0, pt1, pt2, pt3, pt4, pt5, pt6, pt7]; rfl) ?_) | (refine WO.specE rfl rfl (s63) (by simp only [pt8, pt0, pt1, pt2, pt3, pt4, pt5, pt6, pt7]; rfl) ?_) | (refine WC.seq ?_) | (refine WC.region ?_) | (refine WO.nil ?_) | (simp only [fl1, fl2, fl3, fl4, fl5, fl6, fl7, fl8, fl9, fl10, Nat.reduceBEq]) | (refine WC.no rfl ?_) | (refine WC.skip ?_) | (refine WC.block ?_) | (refine WC.em2 rfl (fun hp => ?_) (fun hp => ?_) <;> try (exfalso; first | omega | contradiction)))
      refine WC.loopI (fun m st => ∃ T s, st = ⟨T, [some ⟨0, [pv, .int .i64 sup, .int .i64 tol]⟩], []⟩ ∧ T.length = 44 ∧ gt T 1 = iv ∧ gt T 2 = .int .i64 w ∧ gt T 3 = .pref 0 0 0 ∧ gt T 8 = .int .i64 (dem ps ids) ∧ gt T 11 = .int .i64 (s : Nat) ∧ m + s = (dem ps ids).toNat + 1 ∧ ∀ j : Nat, j < s → ¬ Stead ps tol ids (dem ps ids - j) w) ?_ ((dem ps ids).toNat + 1) _ ⟨_, 0, rfl, rfl, rfl, rfl, rfl, rfl, rfl, by omega, fun j hj => by omega⟩
      rintro m _ ⟨T, s, rfl, hT, g1, g2, g3, g8, g11, hm, hi⟩
      obtain ⟨f, rfl⟩ := ex44 hT
      clear hT
      replace g1 : f 1 = iv := g1
      replace g2 : f 2 = .int .i64 w := g2
      replace g3 : f 3 = .pref 0 0 0 := g3
      replace g8 : f 8 = .int .i64 (dem ps ids) := g8
      replace g11 : f 11 = .int .i64 (s : Nat) := g11
      simp only [g1, g2, g3, g8, g11]
      by_cases hin : (s : Int) ≤ dem ps ids
      · have h67 := fun m => s67 (m := m) hq hiv himax hv hh hw (l := dem ps ids - s) (by omega)
        by_cases hs : Stead ps tol ids (dem ps ids - s) w
        · rw [decide_eq_true hs] at h67
          obtain ⟨g1, g2⟩ := hge _ (by omega) (by omega) hs
          have hNs : N = dem ps ids - s := by
            rcases Int.lt_or_le (dem ps ids - s) N with h | h
            · exact absurd (by rw [show dem ps ids - ((dem ps ids - N).toNat : Nat) = N by omega]; exact g2) (hi (dem ps ids - N).toNat (by omega))
            · omega
          rw [if_pos g2]
          have hr : dem ps ids - N = s := by omega
          rw [hr]
          repeat' (first | (refine WO.opE (by intro; simp (disch := omega) only [go_sem, zeros, Zz.look, List.append_assoc, List.length_append, ov_all6, ov_one0, Nat.reduceAdd, Nat.reduceMul, Nat.reduceSub, Nat.reduceLeDiff, Nat.reduceEqDiff, Int.reduceNeg, Int.reduceAdd, Int.reduceToNat, reduceIte, reduceCtorEq]; rfl) (by simp only [pt8, pt0, pt1, pt2, pt3, pt4, pt5, pt6, pt7]; rfl) ?_) | (refine WO.specE rfl rfl (h67 _) (by simp only [pt8, pt0, pt1, pt2, pt3, pt4, pt5, pt6, pt7]; rfl) ?_) | (refine WC.seq ?_) | (refine WC.region ?_) | (refine WO.nil ?_) | (simp only [fl1, fl2, fl3, fl4, fl5, fl6, fl7, fl8, fl9, fl10, Nat.reduceBEq]) | (refine WC.yes rfl ?_) | (refine WC.skip ?_) | (refine WC.ret ?_) | (refine WC.block ?_) | (refine WC.em2 rfl (fun hp => ?_) (fun hp => ?_) <;> try (exfalso; first | omega | contradiction)))
          exact ⟨_, rfl, rfl⟩
        · rw [decide_eq_false hs] at h67
          repeat' (first | (refine WO.opE (by intro; simp (disch := omega) only [go_sem, zeros, Zz.look, List.append_assoc, List.length_append, ov_all6, ov_one0, Nat.reduceAdd, Nat.reduceMul, Nat.reduceSub, Nat.reduceLeDiff, Nat.reduceEqDiff, Int.reduceNeg, Int.reduceAdd, Int.reduceToNat, reduceIte, reduceCtorEq]; rfl) (by simp only [pt8, pt0, pt1, pt2, pt3, pt4, pt5, pt6, pt7]; rfl) ?_) | (refine WO.specE rfl rfl (h67 _) (by simp only [pt8, pt0, pt1, pt2, pt3, pt4, pt5, pt6, pt7]; rfl) ?_) | (refine WC.seq ?_) | (refine WC.region ?_) | (refine WO.nil ?_) | (simp only [fl1, fl2, fl3, fl4, fl5, fl6, fl7, fl8, fl9, fl10, Nat.reduceBEq]) | (refine WC.no rfl ?_) | (refine WC.skip ?_) | (refine WC.block ?_) | (refine WC.em2 rfl (fun hp => ?_) (fun hp => ?_) <;> try (exfalso; first | omega | contradiction)))
          exact ⟨m - 1, by omega, _, s + 1, rfl, rfl, rfl, rfl, rfl, rfl, rfl, by omega, fun j hj => by
            by_cases e : j = s
            · subst e; exact hs
            · exact hi j (by omega)⟩
      · have hns : ¬ Stead ps tol ids N w := fun h => hi (dem ps ids - N).toNat (by omega) (by rw [show dem ps ids - ((dem ps ids - N).toNat : Nat) = N by omega]; exact h)
        rw [if_neg hns]
        repeat' (first | (refine WO.opE (by intro; simp (disch := omega) only [go_sem, zeros, Zz.look, List.append_assoc, List.length_append, ov_all6, ov_one0, Nat.reduceAdd, Nat.reduceMul, Nat.reduceSub, Nat.reduceLeDiff, Nat.reduceEqDiff, Int.reduceNeg, Int.reduceAdd, Int.reduceToNat, reduceIte, reduceCtorEq]; rfl) (by simp only [pt8, pt0, pt1, pt2, pt3, pt4, pt5, pt6, pt7]; rfl) ?_) | (refine WC.seq ?_) | (refine WC.region ?_) | (refine WO.nil ?_) | (simp only [fl1, fl2, fl3, fl4, fl5, fl6, fl7, fl8, fl9, fl10, Nat.reduceBEq]) | (refine WC.exit ?_) | (refine WC.ret ?_) | (refine WC.em2 rfl (fun hp => ?_) (fun hp => ?_) <;> try (exfalso; first | omega | contradiction)))
        exact ⟨_, rfl, rfl⟩
    · rw [if_neg h0]
      rw [if_neg h0] at h25
      generalize setE ps sup tol ids 0 = e at *
      refine WF.fnE rfl (fn_of Tryd.func32 cir32) (by show 3 ≤ 44; decide) ?_
      unfold ir32
      simp only [padTo, List.replicate, List.nil_append, List.append_nil, List.cons_append]
      repeat' (first | (refine WO.yes rfl ?_) | (refine WO.noE rfl (by simp only [pt8, pt0, pt1, pt2, pt3, pt4, pt5, pt6, pt7]; rfl) ?_) | (refine WO.opE (by intro; simp (disch := omega) only [go_sem, zeros, Zz.look, List.append_assoc, List.length_append, ov_all6, ov_one0, Nat.reduceAdd, Nat.reduceMul, Nat.reduceSub, Nat.reduceLeDiff, Nat.reduceEqDiff, Int.reduceNeg, Int.reduceAdd, Int.reduceToNat, reduceIte, reduceCtorEq]; rfl) (by simp only [pt8, pt0, pt1, pt2, pt3, pt4, pt5, pt6, pt7]; rfl) ?_) | (refine WO.specE rfl rfl (h25 _) (by simp only [pt8, pt0, pt1, pt2, pt3, pt4, pt5, pt6, pt7]; rfl) ?_) | (refine WO.specE rfl rfl (s63) (by simp only [pt8, pt0, pt1, pt2, pt3, pt4, pt5, pt6, pt7]; rfl) ?_) | (refine WC.seq ?_) | (refine WC.region ?_) | (refine WO.nil ?_) | (simp only [fl1, fl2, fl3, fl4, fl5, fl6, fl7, fl8, fl9, fl10, Nat.reduceBEq]) | (refine WC.yes rfl ?_) | (refine WC.skip ?_) | (refine WC.ret ?_) | (refine WO.em2 rfl (by intro hp; simp only [hp, decide_true]; rfl) (by intro hp; simp only [hp, decide_false]; rfl) (fun hp => ?_) (fun hp => ?_) <;> try (exfalso; first | omega | contradiction)) | (refine WC.em2 rfl (fun hp => ?_) (fun hp => ?_) <;> try (exfalso; first | omega | contradiction)))
      all_goals first
        | exact ⟨_, rfl, rfl⟩
        | (obtain rfl : e = 1 := by omega
           exact ⟨_, rfl, rfl⟩)
  · have hw1 := hw
    rw [if_neg hw, if_neg (by decide)]
    generalize setE ps sup tol ids 0 = e at *
    refine WF.fnE rfl (fn_of Tryd.func32 cir32) (by show 3 ≤ 44; decide) ?_
    unfold ir32
    simp only [padTo, List.replicate, List.nil_append, List.append_nil, List.cons_append]
    repeat' (first | (refine WO.yes rfl ?_) | (refine WO.noE rfl (by simp only [pt8, pt0, pt1, pt2, pt3, pt4, pt5, pt6, pt7]; rfl) ?_) | (refine WO.opE (by intro; simp (disch := omega) only [go_sem, zeros, Zz.look, List.append_assoc, List.length_append, ov_all6, ov_one0, Nat.reduceAdd, Nat.reduceMul, Nat.reduceSub, Nat.reduceLeDiff, Nat.reduceEqDiff, Int.reduceNeg, Int.reduceAdd, Int.reduceToNat, reduceIte, reduceCtorEq]; rfl) (by simp only [pt8, pt0, pt1, pt2, pt3, pt4, pt5, pt6, pt7]; rfl) ?_) | (refine WO.specE rfl rfl (h25 _) (by simp only [pt8, pt0, pt1, pt2, pt3, pt4, pt5, pt6, pt7]; rfl) ?_) | (refine WO.specE rfl rfl (s63) (by simp only [pt8, pt0, pt1, pt2, pt3, pt4, pt5, pt6, pt7]; rfl) ?_) | (refine WC.seq ?_) | (refine WC.region ?_) | (refine WO.nil ?_) | (simp only [fl1, fl2, fl3, fl4, fl5, fl6, fl7, fl8, fl9, fl10, Nat.reduceBEq]) | (refine WC.yes rfl ?_) | (refine WC.ret ?_) | (refine WO.em2 rfl (by intro hp; simp only [hp, decide_true]; rfl) (by intro hp; simp only [hp, decide_false]; rfl) (fun hp => ?_) (fun hp => ?_) <;> try (exfalso; first | omega | contradiction)) | (refine WC.em2 rfl (fun hp => ?_) (fun hp => ?_) <;> try (exfalso; first | omega | contradiction)))
    all_goals exact ⟨_, rfl, rfl⟩
theorem s32 {pv iv : AV} {ps : List Pipe} {ids : List Int} {sup tol w : Int} (hq : PpL pv ps) (hmax : ps.length < 9223372036854775807) (hiv : IntS iv ids) (himax : ids.length < 9223372036854775807) {m : Mem} :
    borrowE D7 32 [.agg [pv, .int .i64 sup, .int .i64 tol], iv, .int .i64 w] m = some (.tuple [.int .i64 (needV ps sup tol ids w).1, .int .i64 (needV ps sup tol ids w).2], m) :=
  borrowE_of (pures_cons (pure3 hq.pureC) (pures_cons hiv.pureA (pures_cons rfl rfl))) ((f32 hq hmax hiv himax).mono fun y m' h => by rw [h]; rfl)

noncomputable def D8 : Env := D7.put 32 (borrowE D7 32)
theorem D8_ok : EnvOk Tryd.prog D8 := Env.put_ok D7_ok (borrowE_ok D7_ok (callable Tryd.func32 (by kernel_rfl)))
end Go.Proofs.YtjbdefmhjmkifaaDoor

