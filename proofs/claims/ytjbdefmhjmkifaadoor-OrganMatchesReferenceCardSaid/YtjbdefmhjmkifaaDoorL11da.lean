import Derived.Test.YtjbdefmhjmkifaaDoorIr11xc10
import Derived.Test.YtjbdefmhjmkifaaDoorL11cj

set_option linter.unusedSimpArgs false
set_option linter.unusedVariables false
namespace Go.Proofs.YtjbdefmhjmkifaaDoor
open Go.Zz
set_option maxRecDepth 100000
set_option maxHeartbeats 8000000
theorem s56x {pv iv iv' : AV} {ps : List Pipe} {ids : List Int} {sup tol : Int} (hq : PpL pv ps) (hiv : IntS iv ids) (hv : VO ps sup tol) (hh : Has ps ids) (hl : ids.length ≤ 1000000) {m : Mem} (h : Zz.byVal m.heap iv' = some iv) : borrowX C1 56 [.agg [pv, .int .i64 sup, .int .i64 tol], iv'] m = some (.int .i64 (lacks ps sup ids), m) :=
  borrowX_of (byVals_cons (byO hq) (byVals_cons h rfl)) ((f56 hq hiv hv hh hl).mono fun y m' h => by rw [h]; rfl)

noncomputable def D0 : Env := C16.put 56 (borrowX C1 56)
theorem D0_ok : EnvOk Tryd.prog D0 := Env.put_ok C16_ok (borrowX_ok C1_ok (callable Tryd.func56 (by kernel_rfl)))
/-! ### The reference's checks -/
theorem f63 {w : Int} : WF E38 (.func 63 [] []) [.int .i64 w] ⟨[], []⟩ fun y m' => y = .bool (decide (-100 ≤ w ∧ w ≤ 100)) := by
  refine WF.fnE rfl (fn_of Tryd.func63 cir63) (by show 1 ≤ 9; decide) ?_
  unfold ir63
  simp only [padTo, List.replicate, List.nil_append, List.append_nil, List.cons_append]
  repeat' (first | (refine WO.yes rfl ?_) | (refine WO.noE rfl (by simp only [pt8, pt0, pt1, pt2, pt3, pt4, pt5, pt6, pt7]; rfl) ?_) | (refine WO.opE (by intro; simp (disch := omega) only [go_sem, zeros, Zz.look, List.append_assoc, List.length_append, ov_all6, ov_one0, Nat.reduceAdd, Nat.reduceMul, Nat.reduceSub, Nat.reduceLeDiff, Nat.reduceEqDiff, Int.reduceNeg, Int.reduceAdd, Int.reduceToNat, reduceIte, reduceCtorEq]; rfl) (by simp only [pt8, pt0, pt1, pt2, pt3, pt4, pt5, pt6, pt7]; rfl) ?_) | (refine WC.seq ?_) | (refine WC.region ?_) | (refine WO.nil ?_) | (simp only [fl1, fl2, fl3, fl4, fl5, fl6, fl7, fl8, fl9, fl10, Nat.reduceBEq]) | (refine WC.ret ?_) | (refine WO.em2 rfl (by intro hp; simp only [hp, decide_true]; rfl) (by intro hp; simp only [hp, decide_false]; rfl) (fun hp => ?_) (fun hp => ?_) <;> try (exfalso; first | omega | contradiction)))
  all_goals refine ⟨_, rfl, ?_⟩
  all_goals simp only [oneRes, St.mem, AV.bool.injEq, gt8, gt0, gt1, gt2, gt3, gt4, gt5, gt6, gt7]
  all_goals first
    | (symm; rw [decide_eq_true_iff]; omega)
    | (symm; rw [decide_eq_false_iff_not]; omega)
    | (rw [decide_eq_decide]; omega)
theorem s63 {w : Int} {m : Mem} : borrowE E38 63 [.int .i64 w] m = some (.bool (decide (-100 ≤ w ∧ w ≤ 100)), m) := borrowE_of rfl (f63.mono fun y m' h => by rw [h]; rfl)

noncomputable def D1 : Env := D0.put 63 (borrowE E38 63)
theorem D1_ok : EnvOk Tryd.prog D1 := Env.put_ok D0_ok (borrowE_ok E38_ok (callable Tryd.func63 (by kernel_rfl)))
theorem f24 {pv : AV} {ps : List Pipe} {sup tol : Int} (hq : PpL pv ps) (hmax : ps.length < 9223372036854775807) : WF D1 (.func 24 [] []) [.agg [pv, .int .i64 sup, .int .i64 tol]] ⟨[], []⟩ fun y m' => y = .bool (decide (VO ps sup tol)) := by
  have hlen := hq.len
  have hvo : VO ps sup tol ↔ ((∀ i, i < ps.length → okI ps i) ∧ ps.length ≤ 120 ∧ (0 ≤ sup ∧ sup ≤ 1000000) ∧ (0 ≤ tol ∧ tol ≤ 50000)) := Iff.rfl
  by_cases hb : ps.length ≤ 120 ∧ (0 ≤ sup ∧ sup ≤ 1000000) ∧ (0 ≤ tol ∧ tol ≤ 50000)
  · have hb1 := hb
    refine WF.fnE rfl (fn_of Tryd.func24 cir24) (by show 1 ≤ 101; decide) ?_
    unfold ir24
    simp only [padTo, List.replicate, List.nil_append, List.append_nil, List.cons_append]
    repeat' (first | (refine WO.yes rfl ?_) | (refine WO.opE (by intro; simp (disch := omega) only [go_sem, zeros, Zz.look, List.append_assoc, List.length_append, ov_all6, ov_one0, Nat.reduceAdd, Nat.reduceMul, Nat.reduceSub, Nat.reduceLeDiff, Nat.reduceEqDiff, Int.reduceNeg, Int.reduceAdd, Int.reduceToNat, reduceIte, reduceCtorEq]; rfl) (by simp only [pt8, pt0, pt1, pt2, pt3, pt4, pt5, pt6, pt7]; rfl) ?_) | (refine WO.opE (by intro; exact ev_lenS (by simp only [go_sem]; first | rfl | assumption)) (by simp only [pt8, pt0, pt1, pt2, pt3, pt4, pt5, pt6, pt7]; rfl) ?_) | (refine WC.seq ?_) | (refine WC.region ?_) | (refine WO.nil ?_) | (simp only [fl1, fl2, fl3, fl4, fl5, fl6, fl7, fl8, fl9, fl10, Nat.reduceBEq]) | (refine WC.skip ?_) | (refine WC.block ?_) | (refine WO.em2 rfl (by intro hp; simp only [hp, decide_true]; rfl) (by intro hp; simp only [hp, decide_false]; rfl) (fun hp => ?_) (fun hp => ?_) <;> try (exfalso; first | omega | contradiction)) | (refine WC.em2 rfl (fun hp => ?_) (fun hp => ?_) <;> try (exfalso; first | omega | contradiction)))
    refine WC.loopI (fun m s => ∃ T R i, s = ⟨T, some ⟨0, [pv, .int .i64 sup, .int .i64 tol]⟩ :: R, []⟩ ∧ T.length = 101 ∧ gt T 1 = .pref 0 0 0 ∧ gt T 3 = .int .i64 (i : Nat) ∧ m + i = ps.length ∧ (∀ j, j < i → okI ps j) ∧ 0 ≤ lastId ps i) ?_ ps.length _ ⟨_, [], 0, rfl, rfl, rfl, rfl, by omega, fun j hj => by omega, by simp [lastId]⟩
    rintro m _ ⟨T, R, i, rfl, hT, g1, g3, hm, hi, hlast⟩
    obtain ⟨f, rfl⟩ := ex101 hT
    clear hT
    replace g1 : f 1 = .pref 0 0 0 := g1
    replace g3 : f 3 = .int .i64 (i : Nat) := g3
    simp only [g1, g3]
    by_cases hin : i < ps.length
    · have ok : okI ps i ↔ (lastId ps i < (nth ps i).id ∧ (nth ps i).id ≤ 1000 ∧ wi6 (nth ps i).p0 (nth ps i).p1 (nth ps i).p2 (nth ps i).p3 (nth ps i).p4 (nth ps i).p5 576 ∧ (0 ≤ (nth ps i).wind ∧ (nth ps i).wind ≤ 1000) ∧ (0 ≤ (nth ps i).sag ∧ (nth ps i).sag ≤ 100000000) ∧ (0 ≤ (nth ps i).warm ∧ (nth ps i).warm ≤ 100000000)) := Iff.rfl
      have e1 : lastId ps (i + 1) = (nth ps i).id := by simp [lastId]
      have e0 : i = 0 → lastId ps i = 0 := fun h => by subst h; rfl
      have e2 : i ≠ 0 → lastId ps i = (nth ps (i - 1)).id := fun h => by simp [lastId, h]
      have e3 : ((i : Int) - 1).toNat = i - 1 := by omega
      have hno : ¬ okI ps i → ¬ VO ps sup tol := fun h h' => h (h'.1 i hin)
      generalize lastId ps i = la at *
      by_cases hi0 : i = 0
      · have e00 := e0 hi0
        repeat' (first | (refine WO.yes rfl ?_) | (refine WO.noE rfl (by simp only [pt8, pt0, pt1, pt2, pt3, pt4, pt5, pt6, pt7]; rfl) ?_) | (refine WO.opE (by intro; simp (disch := omega) only [go_sem, zeros, Zz.look, List.append_assoc, List.length_append, ov_all6, ov_one0, Nat.reduceAdd, Nat.reduceMul, Nat.reduceSub, Nat.reduceLeDiff, Nat.reduceEqDiff, Int.reduceNeg, Int.reduceAdd, Int.reduceToNat, reduceIte, reduceCtorEq, hq.at, cut10, cutA, over10, e3, app_g0, app_g1, app_g2, app_g3, app_g4, app_s0, app_s1, app_s2, app_s3, app_s4]; rfl) (by simp only [pt8, pt0, pt1, pt2, pt3, pt4, pt5, pt6, pt7]; rfl) ?_) | (refine WO.opN (by intro; simp (disch := omega) only [go_sem, zeros, Zz.look, List.append_assoc, List.length_append, ov_all6, ov_one0, Nat.reduceAdd, Nat.reduceMul, Nat.reduceSub, Nat.reduceLeDiff, Nat.reduceEqDiff, Int.reduceNeg, Int.reduceAdd, Int.reduceToNat, reduceIte, reduceCtorEq, hq.at, cut10, cutA, over10, e3, app_g0, app_g1, app_g2, app_g3, app_g4, app_s0, app_s1, app_s2, app_s3, app_s4]; rfl) ?_) | (refine WO.opE (by intro; exact ev_lenS (by simp only [go_sem]; first | rfl | assumption)) (by simp only [pt8, pt0, pt1, pt2, pt3, pt4, pt5, pt6, pt7]; rfl) ?_) | (refine WO.specE rfl rfl (s61) (by simp only [pt8, pt0, pt1, pt2, pt3, pt4, pt5, pt6, pt7]; rfl) ?_) | (refine WC.seq ?_) | (refine WC.region ?_) | (refine WO.nil ?_) | (simp only [fl1, fl2, fl3, fl4, fl5, fl6, fl7, fl8, fl9, fl10, Nat.reduceBEq]) | (refine WC.calm rfl ?_) | (refine WC.yes rfl ?_) | (refine WC.no rfl ?_) | (refine WC.skip ?_) | (refine WC.ret ?_) | (refine WC.block ?_) | (refine WO.em2 rfl (by intro hp; simp only [hp, decide_true]; rfl) (by intro hp; simp only [hp, decide_false]; rfl) (fun hp => ?_) (fun hp => ?_) <;> try (exfalso; first | omega | contradiction)) | (refine WC.em2 rfl (fun hp => ?_) (fun hp => ?_) <;> try (exfalso; first | omega | contradiction)))
        all_goals first
          | (refine ⟨_, rfl, ?_⟩
             simp only [oneRes, gt8, gt0, gt1, gt2, gt3, gt4, gt5, gt6, gt7, AV.bool.injEq]
             symm
             rw [decide_eq_false_iff_not]
             refine hno fun h => ?_
             have h1 := ok.1 h
             first | omega | exact absurd h1.2.2.1 (by assumption))
          | exact ⟨m - 1, by omega, _, _, i + 1, rfl, rfl, rfl, rfl, by omega, fun j hj => by
              by_cases e : j = i
              · subst e; exact ok.2 ⟨by omega, by omega, Decidable.of_not_not ‹_›, ⟨by omega, by omega⟩, ⟨by omega, by omega⟩, ⟨by omega, by omega⟩⟩
              · exact hi j (by omega), by rw [e1]; omega⟩
      · have e22 := e2 hi0
        repeat' (first | (refine WO.yes rfl ?_) | (refine WO.noE rfl (by simp only [pt8, pt0, pt1, pt2, pt3, pt4, pt5, pt6, pt7]; rfl) ?_) | (refine WO.opE (by intro; simp (disch := omega) only [go_sem, zeros, Zz.look, List.append_assoc, List.length_append, ov_all6, ov_one0, Nat.reduceAdd, Nat.reduceMul, Nat.reduceSub, Nat.reduceLeDiff, Nat.reduceEqDiff, Int.reduceNeg, Int.reduceAdd, Int.reduceToNat, reduceIte, reduceCtorEq, hq.at, cut10, cutA, over10, e3, app_g0, app_g1, app_g2, app_g3, app_g4, app_s0, app_s1, app_s2, app_s3, app_s4]; rfl) (by simp only [pt8, pt0, pt1, pt2, pt3, pt4, pt5, pt6, pt7]; rfl) ?_) | (refine WO.opN (by intro; simp (disch := omega) only [go_sem, zeros, Zz.look, List.append_assoc, List.length_append, ov_all6, ov_one0, Nat.reduceAdd, Nat.reduceMul, Nat.reduceSub, Nat.reduceLeDiff, Nat.reduceEqDiff, Int.reduceNeg, Int.reduceAdd, Int.reduceToNat, reduceIte, reduceCtorEq, hq.at, cut10, cutA, over10, e3, app_g0, app_g1, app_g2, app_g3, app_g4, app_s0, app_s1, app_s2, app_s3, app_s4]; rfl) ?_) | (refine WO.opE (by intro; exact ev_lenS (by simp only [go_sem]; first | rfl | assumption)) (by simp only [pt8, pt0, pt1, pt2, pt3, pt4, pt5, pt6, pt7]; rfl) ?_) | (refine WO.specE rfl rfl (s61) (by simp only [pt8, pt0, pt1, pt2, pt3, pt4, pt5, pt6, pt7]; rfl) ?_) | (refine WC.seq ?_) | (refine WC.region ?_) | (refine WO.nil ?_) | (simp only [fl1, fl2, fl3, fl4, fl5, fl6, fl7, fl8, fl9, fl10, Nat.reduceBEq]) | (refine WC.calm rfl ?_) | (refine WC.yes rfl ?_) | (refine WC.skip ?_) | (refine WC.ret ?_) | (refine WC.block ?_) | (refine WO.em2 rfl (by intro hp; simp only [hp, decide_true]; rfl) (by intro hp; simp only [hp, decide_false]; rfl) (fun hp => ?_) (fun hp => ?_) <;> try (exfalso; first | omega | contradiction)) | (refine WC.em2 rfl (fun hp => ?_) (fun hp => ?_) <;> try (exfalso; first | omega | contradiction)))
        all_goals first
          | (refine ⟨_, rfl, ?_⟩
             simp only [oneRes, gt8, gt0, gt1, gt2, gt3, gt4, gt5, gt6, gt7, AV.bool.injEq]
             symm
             rw [decide_eq_false_iff_not]
             refine hno fun h => ?_
             have h1 := ok.1 h
             first | omega | exact absurd h1.2.2.1 (by assumption))
          | exact ⟨m - 1, by omega, _, _, i + 1, rfl, rfl, rfl, rfl, by omega, fun j hj => by
              by_cases e : j = i
              · subst e; exact ok.2 ⟨by omega, by omega, Decidable.of_not_not ‹_›, ⟨by omega, by omega⟩, ⟨by omega, by omega⟩, ⟨by omega, by omega⟩⟩
              · exact hi j (by omega), by rw [e1]; omega⟩
    · have hi' : i = ps.length := by omega
      subst hi'
      repeat' (first | (refine WO.opE (by intro; simp (disch := omega) only [go_sem, zeros, Zz.look, List.append_assoc, List.length_append, ov_all6, ov_one0, Nat.reduceAdd, Nat.reduceMul, Nat.reduceSub, Nat.reduceLeDiff, Nat.reduceEqDiff, Int.reduceNeg, Int.reduceAdd, Int.reduceToNat, reduceIte, reduceCtorEq]; rfl) (by simp only [pt8, pt0, pt1, pt2, pt3, pt4, pt5, pt6, pt7]; rfl) ?_) | (refine WO.opE (by intro; exact ev_lenS (by simp only [go_sem]; first | rfl | assumption)) (by simp only [pt8, pt0, pt1, pt2, pt3, pt4, pt5, pt6, pt7]; rfl) ?_) | (refine WC.seq ?_) | (refine WC.region ?_) | (refine WO.nil ?_) | (simp only [fl1, fl2, fl3, fl4, fl5, fl6, fl7, fl8, fl9, fl10, Nat.reduceBEq]) | (refine WC.exit ?_) | (refine WC.ret ?_) | (refine WC.em2 rfl (fun hp => ?_) (fun hp => ?_) <;> try (exfalso; first | omega | contradiction)))
      refine ⟨_, rfl, ?_⟩
      simp only [oneRes, gt8, gt0, gt1, gt2, gt3, gt4, gt5, gt6, gt7, AV.bool.injEq]
      symm
      rw [decide_eq_true_iff]
      exact ⟨hi, hb⟩
  · have hb1 := hb
    refine WF.fnE rfl (fn_of Tryd.func24 cir24) (by show 1 ≤ 101; decide) ?_
    unfold ir24
    simp only [padTo, List.replicate, List.nil_append, List.append_nil, List.cons_append]
    repeat' (first | (refine WO.yes rfl ?_) | (refine WO.noE rfl (by simp only [pt8, pt0, pt1, pt2, pt3, pt4, pt5, pt6, pt7]; rfl) ?_) | (refine WO.opE (by intro; simp (disch := omega) only [go_sem, zeros, Zz.look, List.append_assoc, List.length_append, ov_all6, ov_one0, Nat.reduceAdd, Nat.reduceMul, Nat.reduceSub, Nat.reduceLeDiff, Nat.reduceEqDiff, Int.reduceNeg, Int.reduceAdd, Int.reduceToNat, reduceIte, reduceCtorEq]; rfl) (by simp only [pt8, pt0, pt1, pt2, pt3, pt4, pt5, pt6, pt7]; rfl) ?_) | (refine WO.opE (by intro; exact ev_lenS (by simp only [go_sem]; first | rfl | assumption)) (by simp only [pt8, pt0, pt1, pt2, pt3, pt4, pt5, pt6, pt7]; rfl) ?_) | (refine WC.seq ?_) | (refine WC.region ?_) | (refine WO.nil ?_) | (simp only [fl1, fl2, fl3, fl4, fl5, fl6, fl7, fl8, fl9, fl10, Nat.reduceBEq]) | (refine WC.yes rfl ?_) | (refine WC.ret ?_) | (refine WO.em2 rfl (by intro hp; simp only [hp, decide_true]; rfl) (by intro hp; simp only [hp, decide_false]; rfl) (fun hp => ?_) (fun hp => ?_) <;> try (exfalso; first | omega | contradiction)) | (refine WC.em2 rfl (fun hp => ?_) (fun hp => ?_) <;> try (exfalso; first | omega | contradiction)))
    all_goals
      refine ⟨_, rfl, ?_⟩
      simp only [oneRes, gt8, gt0, gt1, gt2, gt3, gt4, gt5, gt6, gt7, AV.bool.injEq]
      symm
      rw [decide_eq_false_iff_not]
      exact fun h => hb h.2
theorem s24 {pv : AV} {ps : List Pipe} {sup tol : Int} (hq : PpL pv ps) (hmax : ps.length < 9223372036854775807) {m : Mem} : borrowE D1 24 [.agg [pv, .int .i64 sup, .int .i64 tol]] m = some (.bool (decide (VO ps sup tol)), m) :=
  borrowE_of (pures_cons (pure3 hq.pureC) rfl) ((f24 hq hmax).mono fun y m' h => by rw [h]; rfl)

noncomputable def D2 : Env := D1.put 24 (borrowE D1 24)
theorem D2_ok : EnvOk Tryd.prog D2 := Env.put_ok D1_ok (borrowE_ok D1_ok (callable Tryd.func24 (by kernel_rfl)))
def rsE (ps : List Pipe) (ids : List Int) : Int := if Ris ids then if Has ps ids then 0 else 4 else 1
theorem f62 {pv iv : AV} {ps : List Pipe} {ids : List Int} {sup tol : Int} (hq : PpL pv ps) (hmax : ps.length < 9223372036854775807) (hiv : IntS iv ids) (himax : ids.length < 9223372036854775807) : WF D2 (.func 62 [] []) [.agg [pv, .int .i64 sup, .int .i64 tol], iv] ⟨[], []⟩ fun y m' => y = .int .i64 (rsE ps ids) := by
  have hil := hiv.len
  refine WF.fnE rfl (fn_of Tryd.func62 cir62) (by show 2 ≤ 38; decide) ?_
  unfold ir62
  simp only [padTo, List.replicate, List.nil_append, List.append_nil, List.cons_append]
  repeat' (first | (refine WO.opE (by intro; simp (disch := omega) only [go_sem, zeros, Zz.look, List.append_assoc, List.length_append, ov_all6, ov_one0, Nat.reduceAdd, Nat.reduceMul, Nat.reduceSub, Nat.reduceLeDiff, Nat.reduceEqDiff, Int.reduceNeg, Int.reduceAdd, Int.reduceToNat, reduceIte, reduceCtorEq]; rfl) (by simp only [pt8, pt0, pt1, pt2, pt3, pt4, pt5, pt6, pt7]; rfl) ?_) | (refine WC.seq ?_) | (refine WC.region ?_) | (refine WO.nil ?_) | (simp only [fl1, fl2, fl3, fl4, fl5, fl6, fl7, fl8, fl9, fl10, Nat.reduceBEq]) | (refine WC.block ?_))
  refine WC.loopI (fun m s => ∃ T i, s = ⟨T, [some ⟨0, [pv, .int .i64 sup, .int .i64 tol]⟩], []⟩ ∧ T.length = 38 ∧ gt T 1 = iv ∧ gt T 2 = .pref 0 0 0 ∧ gt T 5 = .int .i64 (i : Nat) ∧ m + i = ids.length + 1 ∧ 1 ≤ i ∧ ∀ j, j + 1 < i → ids.getD j 0 < ids.getD (j + 1) 0) ?_ ids.length _ ⟨_, 1, rfl, rfl, rfl, rfl, rfl, by omega, by omega, fun j hj => by omega⟩
  rintro m _ ⟨T, i, rfl, hT, g1, g2, g5, hm, hi1, hi⟩
  obtain ⟨f, rfl⟩ := ex38 hT
  clear hT
  replace g1 : f 1 = iv := g1
  replace g2 : f 2 = .pref 0 0 0 := g2
  replace g5 : f 5 = .int .i64 (i : Nat) := g5
  simp only [g1, g2, g5]
  by_cases hin : i < ids.length
  · have e3 : ((i : Int) - 1).toNat = i - 1 := by omega
    repeat' (first | (refine WO.opE (by intro; simp (disch := omega) only [go_sem, zeros, Zz.look, List.append_assoc, List.length_append, ov_all6, ov_one0, Nat.reduceAdd, Nat.reduceMul, Nat.reduceSub, Nat.reduceLeDiff, Nat.reduceEqDiff, Int.reduceNeg, Int.reduceAdd, Int.reduceToNat, reduceIte, reduceCtorEq, hiv.atI, e3]; rfl) (by simp only [pt8, pt0, pt1, pt2, pt3, pt4, pt5, pt6, pt7]; rfl) ?_) | (refine WO.opE (by intro; exact ev_lenS (by simp only [go_sem]; first | rfl | assumption)) (by simp only [pt8, pt0, pt1, pt2, pt3, pt4, pt5, pt6, pt7]; rfl) ?_) | (refine WC.seq ?_) | (refine WC.region ?_) | (refine WO.nil ?_) | (simp only [fl1, fl2, fl3, fl4, fl5, fl6, fl7, fl8, fl9, fl10, Nat.reduceBEq]) | (refine WC.calm rfl ?_) | (refine WC.skip ?_) | (refine WC.ret ?_) | (refine WC.block ?_) | (refine WC.em2 rfl (fun hp => ?_) (fun hp => ?_) <;> try (exfalso; first | omega | contradiction)))
    · refine ⟨_, rfl, ?_⟩
      simp only [oneRes, gt8, gt0, gt1, gt2, gt3, gt4, gt5, gt6, gt7]
      unfold rsE
      rw [if_neg fun h => ?_]
      have := h (i - 1) (by omega)
      rw [show i - 1 + 1 = i by omega] at this
      omega
    · exact ⟨m - 1, by omega, _, i + 1, rfl, rfl, rfl, rfl, rfl, by omega, by omega, fun j hj => by
        by_cases e : j + 1 = i
        · obtain rfl : j = i - 1 := by omega
          rw [e]
          omega
        · exact hi j (by omega)⟩
  · have hr : Ris ids := fun j hj => hi j (by omega)
    have he : rsE ps ids = if Has ps ids then 0 else 4 := if_pos hr
    rw [he]
    clear hm hi
    repeat' (first | (refine WO.opE (by intro; simp (disch := omega) only [go_sem, zeros, Zz.look, List.append_assoc, List.length_append, ov_all6, ov_one0, Nat.reduceAdd, Nat.reduceMul, Nat.reduceSub, Nat.reduceLeDiff, Nat.reduceEqDiff, Int.reduceNeg, Int.reduceAdd, Int.reduceToNat, reduceIte, reduceCtorEq]; rfl) (by simp only [pt8, pt0, pt1, pt2, pt3, pt4, pt5, pt6, pt7]; rfl) ?_) | (refine WO.opE (by intro; exact ev_lenS (by simp only [go_sem]; first | rfl | assumption)) (by simp only [pt8, pt0, pt1, pt2, pt3, pt4, pt5, pt6, pt7]; rfl) ?_) | (refine WC.seq ?_) | (refine WC.region ?_) | (refine WO.nil ?_) | (simp only [fl1, fl2, fl3, fl4, fl5, fl6, fl7, fl8, fl9, fl10, Nat.reduceBEq]) | (refine WC.exit ?_) | (refine WC.block ?_) | (refine WC.em2 rfl (fun hp => ?_) (fun hp => ?_) <;> try (exfalso; first | omega | contradiction)))
    refine WC.loopI (fun m s => ∃ T i, s = ⟨T, [some ⟨0, [pv, .int .i64 sup, .int .i64 tol]⟩], []⟩ ∧ T.length = 38 ∧ gt T 1 = iv ∧ gt T 2 = .pref 0 0 0 ∧ gt T 6 = .int .i64 (i : Nat) ∧ m + i = ids.length ∧ ∀ j, j < i → pos ps (ids.getD j 0) < ps.length) ?_ ids.length _ ⟨_, 0, rfl, rfl, rfl, rfl, rfl, by omega, fun j hj => by omega⟩
    rintro m _ ⟨T, i, rfl, hT, g1, g2, g6, hm, hi⟩
    obtain ⟨f, rfl⟩ := ex38 hT
    clear hT
    replace g1 : f 1 = iv := g1
    replace g2 : f 2 = .pref 0 0 0 := g2
    replace g6 : f 6 = .int .i64 (i : Nat) := g6
    simp only [g1, g2, g6]
    by_cases hin : i < ids.length
    · have h54 := fun m => s54 (sup := sup) (tol := tol) (id := ids.getD i 0) (m := m) hq hmax
      have hpi : posI ps (ids.getD i 0) = if pos ps (ids.getD i 0) < ps.length then (pos ps (ids.getD i 0) : Int) else -1 := rfl
      have hpi0 : pos ps (ids.getD i 0) < ps.length ↔ 0 ≤ posI ps (ids.getD i 0) := by rw [hpi]; split <;> omega
      generalize posI ps (ids.getD i 0) = pI at *
      repeat' (first | (refine WO.opE (by intro; simp (disch := omega) only [go_sem, zeros, Zz.look, List.append_assoc, List.length_append, ov_all6, ov_one0, Nat.reduceAdd, Nat.reduceMul, Nat.reduceSub, Nat.reduceLeDiff, Nat.reduceEqDiff, Int.reduceNeg, Int.reduceAdd, Int.reduceToNat, reduceIte, reduceCtorEq, hiv.atI]; rfl) (by simp only [pt8, pt0, pt1, pt2, pt3, pt4, pt5, pt6, pt7]; rfl) ?_) | (refine WO.opE (by intro; exact ev_lenS (by simp only [go_sem]; first | rfl | assumption)) (by simp only [pt8, pt0, pt1, pt2, pt3, pt4, pt5, pt6, pt7]; rfl) ?_) | (refine WT.spec rfl rfl (fun V => h54 _) (by simp only [pt8, pt0, pt1, pt2, pt3, pt4, pt5, pt6, pt7]; rfl) ?_) | (refine WC.seq ?_) | (refine WC.region ?_) | (refine WO.nil ?_) | (simp only [fl1, fl2, fl3, fl4, fl5, fl6, fl7, fl8, fl9, fl10, Nat.reduceBEq]) | (refine WC.drawT ?_) | (refine WT.nil ?_) | (refine WT.free rfl (by intro; simp (disch := omega) only [go_sem, zeros, Zz.look, List.append_assoc, List.length_append, ov_all6, ov_one0, Nat.reduceAdd, Nat.reduceMul, Nat.reduceSub, Nat.reduceLeDiff, Nat.reduceEqDiff, Int.reduceNeg, Int.reduceAdd, Int.reduceToNat, reduceIte, reduceCtorEq, hiv.atI]; rfl) rfl (by simp only [pt8, pt0, pt1, pt2, pt3, pt4, pt5, pt6, pt7]; rfl) ?_) | (refine WT.big rfl rfl (by intro; simp (disch := omega) only [go_sem, zeros, Zz.look, List.append_assoc, List.length_append, ov_all6, ov_one0, Nat.reduceAdd, Nat.reduceMul, Nat.reduceSub, Nat.reduceLeDiff, Nat.reduceEqDiff, Int.reduceNeg, Int.reduceAdd, Int.reduceToNat, reduceIte, reduceCtorEq, hiv.atI]; rfl) (by simp (disch := omega) only [go_sem, zeros, Zz.look, List.append_assoc, List.length_append, ov_all6, ov_one0, Nat.reduceAdd, Nat.reduceMul, Nat.reduceSub, Nat.reduceLeDiff, Nat.reduceEqDiff, Int.reduceNeg, Int.reduceAdd, Int.reduceToNat, reduceIte, reduceCtorEq, hiv.atI, touch]; rfl) (by first | exact .inl rfl | exact .inr (apart_nil _) | exact .inr trivial | (right; apply apart_mk; simp only [apartL, List.nil_append, List.cons_append, List.getElem?_cons_succ, List.getElem?_cons_zero, Tch.free, and_true, true_and]; first | done | omega)) (by simp only [pt8, pt0, pt1, pt2, pt3, pt4, pt5, pt6, pt7]; rfl) ?_) | (refine WC.skip ?_) | (refine WC.ret ?_) | (refine WC.block ?_) | (refine WC.em2 rfl (fun hp => ?_) (fun hp => ?_) <;> try (exfalso; first | omega | contradiction)))
      · refine ⟨_, rfl, ?_⟩
        simp only [oneRes, gt8, gt0, gt1, gt2, gt3, gt4, gt5, gt6, gt7]
        rw [if_neg fun h => by have := hpi0.1 (h i hin); omega]
      · exact ⟨m - 1, by omega, _, i + 1, rfl, rfl, rfl, rfl, rfl, by omega, fun j hj => by
          by_cases e : j = i
          · subst e; exact hpi0.2 (by omega)
          · exact hi j (by omega)⟩
    · have hi' : i = ids.length := by omega
      subst hi'
      repeat' (first | (refine WO.opE (by intro; simp (disch := omega) only [go_sem, zeros, Zz.look, List.append_assoc, List.length_append, ov_all6, ov_one0, Nat.reduceAdd, Nat.reduceMul, Nat.reduceSub, Nat.reduceLeDiff, Nat.reduceEqDiff, Int.reduceNeg, Int.reduceAdd, Int.reduceToNat, reduceIte, reduceCtorEq]; rfl) (by simp only [pt8, pt0, pt1, pt2, pt3, pt4, pt5, pt6, pt7]; rfl) ?_) | (refine WO.opE (by intro; exact ev_lenS (by simp only [go_sem]; first | rfl | assumption)) (by simp only [pt8, pt0, pt1, pt2, pt3, pt4, pt5, pt6, pt7]; rfl) ?_) | (refine WC.seq ?_) | (refine WC.region ?_) | (refine WO.nil ?_) | (simp only [fl1, fl2, fl3, fl4, fl5, fl6, fl7, fl8, fl9, fl10, Nat.reduceBEq]) | (refine WC.exit ?_) | (refine WC.ret ?_) | (refine WC.em2 rfl (fun hp => ?_) (fun hp => ?_) <;> try (exfalso; first | omega | contradiction)))
      refine ⟨_, rfl, ?_⟩
      simp only [oneRes, gt8, gt0, gt1, gt2, gt3, gt4, gt5, gt6, gt7]
      rw [if_pos (show Has ps ids from hi)]
theorem s62 {pv iv : AV} {ps : List Pipe} {ids : List Int} {sup tol : Int} (hq : PpL pv ps) (hmax : ps.length < 9223372036854775807) (hiv : IntS iv ids) (himax : ids.length < 9223372036854775807) {m : Mem} : borrowE D2 62 [.agg [pv, .int .i64 sup, .int .i64 tol], iv] m = some (.int .i64 (rsE ps ids), m) :=
  borrowE_of (pures_cons (pure3 hq.pureC) (pures_cons hiv.pureA rfl)) ((f62 hq hmax hiv himax).mono fun y m' h => by rw [h]; rfl)

noncomputable def D3 : Env := D2.put 62 (borrowE D2 62)
theorem D3_ok : EnvOk Tryd.prog D3 := Env.put_ok D2_ok (borrowE_ok D2_ok (callable Tryd.func62 (by kernel_rfl)))
end Go.Proofs.YtjbdefmhjmkifaaDoor

