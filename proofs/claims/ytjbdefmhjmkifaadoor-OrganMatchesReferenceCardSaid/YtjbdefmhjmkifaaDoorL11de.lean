import Derived.Test.YtjbdefmhjmkifaaDoorIr11xc10
import Derived.Test.YtjbdefmhjmkifaaDoorL11dd
import Derived.Test.YtjbdefmhjmkifaaDoorL11pb

set_option linter.unusedSimpArgs false
set_option linter.unusedVariables false
namespace Go.Proofs.YtjbdefmhjmkifaaDoor
open Go.Zz
set_option maxRecDepth 100000
set_option maxHeartbeats 8000000
/-- The reference's Range. -/
theorem f30 {pv : AV} {ps : List Pipe} {sup tol id cold hot : Int} (hq : PpL pv ps) (hmax : ps.length < 9223372036854775807) :
    WF D8 (.func 30 [] []) [.agg [pv, .int .i64 sup, .int .i64 tol], .int .i64 id, .int .i64 cold, .int .i64 hot] ⟨[], []⟩ fun y m' => y = rangeV ps sup tol id cold hot := by
  have h24 := fun m => s24 (sup := sup) (tol := tol) (m := m) hq hmax
  have h54 := fun m => s54 (sup := sup) (tol := tol) (id := id) (m := m) hq hmax
  by_cases hok : rangeOk ps sup tol cold hot
  · have er : rangeV ps sup tol id cold hot = if pos ps id < ps.length then .tuple [.agg [.int .i64 (shiftOf (pipeOf ps id) (lacks ps sup (idsOf ps)) cold), .int .i64 (shiftOf (pipeOf ps id) (lacks ps sup [id]) hot)], .int .i64 0] else .tuple [.agg [.int .i64 0, .int .i64 0], .int .i64 4] := if_pos hok
    rw [er]
    obtain ⟨hv, hc, hh, hch⟩ := hok
    rw [decide_eq_true hv] at h24
    by_cases hp0 : pos ps id < ps.length
    · rw [if_pos hp0]
      have hpi : posI ps id = ((pos ps id : Nat) : Int) := if_pos hp0
      rw [hpi] at h54
      obtain ⟨x, hx, c17⟩ := s17 (sup := sup) (tol := tol) hq hv.2.1
      have hlen : (idsOf ps).length ≤ 120 := by rw [idsOf, List.length_map]; exact hv.2.1
      have hall : Has ps (idsOf ps) := (setE_ok.1 (ids_setE hv hc)).2.2.2
      have hone : Has ps [id] := (setE_ok.1 (one_setE hv hc hp0)).2.2.2
      have hat := (hv.at id).2.2
      have hb1 := lacks_bnd (ids := idsOf ps) hv (by omega)
      have hb2 := lacks_bnd (ids := [id]) hv (by simp)
      have c56 := fun m => s56x (m := m) hq hx hv hall (by omega) (hx.byVal _)
      have c57 := fun (m : Mem) (h : Zz.byVal m.heap (.sref 2 0 0 1 1 (some 1)) = some (.sval true 1 ([id].map (.int .i64)))) => s56x (m := m) hq (IntS.mk [id] true) hv hone (by simp) h
      have h59 := fun m => s59 (m := m) (p := pipeOf ps id) (l := lacks ps sup (idsOf ps)) (w := cold) hat hc (by omega)
      have h60 := fun m => s59 (m := m) (p := pipeOf ps id) (l := lacks ps sup [id]) (w := hot) hat hh (by omega)
      have hby : ∀ V : Hp, Zz.look V 2 0 = some [.int .i64 id] → Zz.byVal V (.sref 2 0 0 1 1 (some 1)) = some (.sval true 1 ([id].map (.int .i64))) := fun V h => by
        show Zz.byC V (.sref 2 0 0 1 1 (some 1)) = _
        simp only [Zz.byC, h]
        rfl
      have epp : pipeOf ps id = nth ps (pos ps id) := rfl
      rw [epp] at h59 h60
      generalize lacks ps sup (idsOf ps) = la at *
      generalize lacks ps sup [id] = lb at *
      rw [epp]
      generalize shiftOf (nth ps (pos ps id)) la cold = sa at *
      generalize shiftOf (nth ps (pos ps id)) lb hot = sb at *
      generalize pos ps id = pp at *
      refine WF.fnE rfl (fn_of Tryd.func30 cir30) (by show 4 ≤ 65; decide) ?_
      unfold ir30
      simp only [padTo, List.replicate, List.nil_append, List.append_nil, List.cons_append]
      repeat' (first
        | (refine WO.yes rfl ?_) | (refine WO.opE (by intro; simp (disch := omega) only [go_sem, zeros, Zz.look, List.append_assoc, List.length_append, ov_all6, ov_one0, ov_all2, Nat.reduceAdd, Nat.reduceMul, Nat.reduceSub, Nat.reduceLeDiff, Nat.reduceEqDiff, Int.reduceNeg, Int.reduceAdd, Int.reduceToNat, reduceIte, reduceCtorEq, hq.at, cut10, Pipe.cells]; rfl) (by simp only [pt8, pt0, pt1, pt2, pt3, pt4, pt5, pt6, pt7]; rfl) ?_) | (refine WO.specE rfl rfl (h24 _) (by simp only [pt8, pt0, pt1, pt2, pt3, pt4, pt5, pt6, pt7]; rfl) ?_) | (refine WO.specE rfl rfl (s63) (by simp only [pt8, pt0, pt1, pt2, pt3, pt4, pt5, pt6, pt7]; rfl) ?_) | (refine WO.specE rfl rfl (h54 _) (by simp only [pt8, pt0, pt1, pt2, pt3, pt4, pt5, pt6, pt7]; rfl) ?_) | (refine WT.spec rfl rfl (fun V => c17 _) (by simp only [pt8, pt0, pt1, pt2, pt3, pt4, pt5, pt6, pt7]; rfl) ?_) | (refine WT.spec rfl rfl (fun V => c56 _) (by simp only [pt8, pt0, pt1, pt2, pt3, pt4, pt5, pt6, pt7]; rfl) ?_) | (refine WT.spec rfl rfl (fun V => h59 _) (by simp only [pt8, pt0, pt1, pt2, pt3, pt4, pt5, pt6, pt7]; rfl) ?_) | (refine WT.spec rfl rfl (fun V => h60 _) (by simp only [pt8, pt0, pt1, pt2, pt3, pt4, pt5, pt6, pt7]; rfl) ?_)
        | (refine WT.specG [2] rfl rfl (apart_all (by
            intro j hj
            obtain rfl : j = 2 := by simpa using hj
            simp only [apartL, List.nil_append, List.cons_append, List.getElem?_cons_succ, List.getElem?_cons_zero, Tch.free, and_true, true_and]
            first | done | trivial | omega)) (fun V hVl hVj => c57 _ (hby V (look_eq_iff.2 (hVj 2 (by simp))))) (by simp only [pt8, pt0, pt1, pt2, pt3, pt4, pt5, pt6, pt7]; rfl) ?_) | (refine WC.seq ?_) | (refine WC.region ?_) | (refine WO.nil ?_) | (simp only [fl1, fl2, fl3, fl4, fl5, fl6, fl7, fl8, fl9, fl10, Nat.reduceBEq]) | (refine WC.drawT ?_) | (refine WT.nil ?_) | (refine WT.free rfl (by intro; simp (disch := omega) only [go_sem, zeros, Zz.look, List.append_assoc, List.length_append, ov_all6, ov_one0, ov_all2, Nat.reduceAdd, Nat.reduceMul, Nat.reduceSub, Nat.reduceLeDiff, Nat.reduceEqDiff, Int.reduceNeg, Int.reduceAdd, Int.reduceToNat, reduceIte, reduceCtorEq, hq.at, cut10, Pipe.cells]; rfl) rfl (by simp only [pt8, pt0, pt1, pt2, pt3, pt4, pt5, pt6, pt7]; rfl) ?_) | (refine WT.big rfl rfl (by intro; simp (disch := omega) only [go_sem, zeros, Zz.look, List.append_assoc, List.length_append, ov_all6, ov_one0, ov_all2, Nat.reduceAdd, Nat.reduceMul, Nat.reduceSub, Nat.reduceLeDiff, Nat.reduceEqDiff, Int.reduceNeg, Int.reduceAdd, Int.reduceToNat, reduceIte, reduceCtorEq, hq.at, cut10, Pipe.cells]; rfl) (by simp (disch := omega) only [go_sem, zeros, Zz.look, List.append_assoc, List.length_append, ov_all6, ov_one0, ov_all2, Nat.reduceAdd, Nat.reduceMul, Nat.reduceSub, Nat.reduceLeDiff, Nat.reduceEqDiff, Int.reduceNeg, Int.reduceAdd, Int.reduceToNat, reduceIte, reduceCtorEq, hq.at, cut10, Pipe.cells, touch]; rfl) (by first | exact .inl rfl | exact .inr (apart_nil _) | exact .inr trivial | (right; apply apart_mk; simp only [apartL, List.nil_append, List.cons_append, List.getElem?_cons_succ, List.getElem?_cons_zero, Tch.free, and_true, true_and]; first | done | omega)) (by simp only [pt8, pt0, pt1, pt2, pt3, pt4, pt5, pt6, pt7]; rfl) ?_) | (refine WT.bigN rfl rfl (by intro; simp (disch := omega) only [go_sem, zeros, Zz.look, List.append_assoc, List.length_append, ov_all6, ov_one0, ov_all2, Nat.reduceAdd, Nat.reduceMul, Nat.reduceSub, Nat.reduceLeDiff, Nat.reduceEqDiff, Int.reduceNeg, Int.reduceAdd, Int.reduceToNat, reduceIte, reduceCtorEq, hq.at, cut10, Pipe.cells]; rfl) (by simp (disch := omega) only [go_sem, zeros, Zz.look, List.append_assoc, List.length_append, ov_all6, ov_one0, ov_all2, Nat.reduceAdd, Nat.reduceMul, Nat.reduceSub, Nat.reduceLeDiff, Nat.reduceEqDiff, Int.reduceNeg, Int.reduceAdd, Int.reduceToNat, reduceIte, reduceCtorEq, hq.at, cut10, Pipe.cells, touch]; rfl) (by first | exact .inl rfl | exact .inr (apart_nil _) | exact .inr trivial | (right; apply apart_mk; simp only [apartL, List.nil_append, List.cons_append, List.getElem?_cons_succ, List.getElem?_cons_zero, Tch.free, and_true, true_and]; first | done | omega)) ?_) | (refine WC.no rfl ?_) | (refine WC.skip ?_) | (refine WC.ret ?_) | (refine WO.em2 rfl (by intro hp; simp only [hp, decide_true]; rfl) (by intro hp; simp only [hp, decide_false]; rfl) (fun hp => ?_) (fun hp => ?_) <;> try (exfalso; first | omega | contradiction)) | (refine WC.em2 rfl (fun hp => ?_) (fun hp => ?_) <;> try (exfalso; first | omega | contradiction)))
      all_goals exact ⟨_, rfl, rfl⟩
    · rw [if_neg hp0]
      have hpi : posI ps id = -1 := if_neg hp0
      rw [hpi] at h54
      refine WF.fnE rfl (fn_of Tryd.func30 cir30) (by show 4 ≤ 65; decide) ?_
      unfold ir30
      simp only [padTo, List.replicate, List.nil_append, List.append_nil, List.cons_append]
      repeat' (first | (refine WO.yes rfl ?_) | (refine WO.opE (by intro; simp (disch := omega) only [go_sem, zeros, Zz.look, List.append_assoc, List.length_append, ov_all6, ov_one0, ov_all2, Nat.reduceAdd, Nat.reduceMul, Nat.reduceSub, Nat.reduceLeDiff, Nat.reduceEqDiff, Int.reduceNeg, Int.reduceAdd, Int.reduceToNat, reduceIte, reduceCtorEq]; rfl) (by simp only [pt8, pt0, pt1, pt2, pt3, pt4, pt5, pt6, pt7]; rfl) ?_) | (refine WO.opN (by intro; simp (disch := omega) only [go_sem, zeros, Zz.look, List.append_assoc, List.length_append, ov_all6, ov_one0, ov_all2, Nat.reduceAdd, Nat.reduceMul, Nat.reduceSub, Nat.reduceLeDiff, Nat.reduceEqDiff, Int.reduceNeg, Int.reduceAdd, Int.reduceToNat, reduceIte, reduceCtorEq]; rfl) ?_) | (refine WO.specE rfl rfl (h24 _) (by simp only [pt8, pt0, pt1, pt2, pt3, pt4, pt5, pt6, pt7]; rfl) ?_) | (refine WO.specE rfl rfl (s63) (by simp only [pt8, pt0, pt1, pt2, pt3, pt4, pt5, pt6, pt7]; rfl) ?_) | (refine WO.specE rfl rfl (h54 _) (by simp only [pt8, pt0, pt1, pt2, pt3, pt4, pt5, pt6, pt7]; rfl) ?_) | (refine WC.seq ?_) | (refine WC.region ?_) | (refine WO.nil ?_) | (simp only [fl1, fl2, fl3, fl4, fl5, fl6, fl7, fl8, fl9, fl10, Nat.reduceBEq]) | (refine WC.yes rfl ?_) | (refine WC.skip ?_) | (refine WC.ret ?_) | (refine WO.em2 rfl (by intro hp; simp only [hp, decide_true]; rfl) (by intro hp; simp only [hp, decide_false]; rfl) (fun hp => ?_) (fun hp => ?_) <;> try (exfalso; first | omega | contradiction)) | (refine WC.em2 rfl (fun hp => ?_) (fun hp => ?_) <;> try (exfalso; first | omega | contradiction)))
      all_goals exact ⟨_, rfl, rfl⟩
  · have er : rangeV ps sup tol id cold hot = .tuple [.agg [.int .i64 0, .int .i64 0], .int .i64 1] := if_neg hok
    rw [er]
    have hok2 : ¬ (VO ps sup tol ∧ (-100 ≤ cold ∧ cold ≤ 100) ∧ (-100 ≤ hot ∧ hot ≤ 100) ∧ cold ≤ hot) := hok
    refine WF.fnE rfl (fn_of Tryd.func30 cir30) (by show 4 ≤ 65; decide) ?_
    unfold ir30
    simp only [padTo, List.replicate, List.nil_append, List.append_nil, List.cons_append]
    repeat' (first | (refine WO.yes rfl ?_) | (refine WO.noE rfl (by simp only [pt8, pt0, pt1, pt2, pt3, pt4, pt5, pt6, pt7]; rfl) ?_) | (refine WO.opE (by intro; simp (disch := omega) only [go_sem, zeros, Zz.look, List.append_assoc, List.length_append, ov_all6, ov_one0, ov_all2, Nat.reduceAdd, Nat.reduceMul, Nat.reduceSub, Nat.reduceLeDiff, Nat.reduceEqDiff, Int.reduceNeg, Int.reduceAdd, Int.reduceToNat, reduceIte, reduceCtorEq]; rfl) (by simp only [pt8, pt0, pt1, pt2, pt3, pt4, pt5, pt6, pt7]; rfl) ?_) | (refine WO.opN (by intro; simp (disch := omega) only [go_sem, zeros, Zz.look, List.append_assoc, List.length_append, ov_all6, ov_one0, ov_all2, Nat.reduceAdd, Nat.reduceMul, Nat.reduceSub, Nat.reduceLeDiff, Nat.reduceEqDiff, Int.reduceNeg, Int.reduceAdd, Int.reduceToNat, reduceIte, reduceCtorEq]; rfl) ?_) | (refine WO.specE rfl rfl (h24 _) (by simp only [pt8, pt0, pt1, pt2, pt3, pt4, pt5, pt6, pt7]; rfl) ?_) | (refine WO.specE rfl rfl (s63) (by simp only [pt8, pt0, pt1, pt2, pt3, pt4, pt5, pt6, pt7]; rfl) ?_) | (refine WC.seq ?_) | (refine WC.region ?_) | (refine WO.nil ?_) | (simp only [fl1, fl2, fl3, fl4, fl5, fl6, fl7, fl8, fl9, fl10, Nat.reduceBEq]) | (refine WC.yes rfl ?_) | (refine WC.skip ?_) | (refine WC.ret ?_) | (refine WO.em2 rfl (by intro hp; simp only [hp, decide_true]; rfl) (by intro hp; simp only [hp, decide_false]; rfl) (fun hp => ?_) (fun hp => ?_) <;> try (exfalso; first | omega | contradiction)) | (refine WC.em2 rfl (fun hp => ?_) (fun hp => ?_) <;> try (exfalso; first | omega | contradiction)))
    all_goals first
      | exact ⟨_, rfl, rfl⟩
      | exact absurd ⟨Decidable.of_not_not ‹¬¬VO ps sup tol›, by omega, by omega, by omega⟩ hok
theorem s30 {pv : AV} {ps : List Pipe} {sup tol id cold hot : Int} (hq : PpL pv ps) (hmax : ps.length < 9223372036854775807) {m : Mem} : borrowE D8 30 [.agg [pv, .int .i64 sup, .int .i64 tol], .int .i64 id, .int .i64 cold, .int .i64 hot] m = some (rangeV ps sup tol id cold hot, m) :=
  borrowE_of (pures_cons (pure3 hq.pureC) (pures_cons rfl (pures_cons rfl (pures_cons rfl rfl)))) ((f30 hq hmax).mono fun y m' h => by
    rw [h]
    unfold rangeV
    split
    · split <;> rfl
    · rfl)

noncomputable def D9 : Env := D8.put 30 (borrowE D8 30)
theorem D9_ok : EnvOk Tryd.prog D9 := Env.put_ok D8_ok (borrowE_ok D8_ok (callable Tryd.func30 (by kernel_rfl)))
end Go.Proofs.YtjbdefmhjmkifaaDoor

