import Derived.Test.YtjbdefmhjmkifaaDoorIr11xc10
import Derived.Test.YtjbdefmhjmkifaaDoorL11ca

set_option linter.unusedSimpArgs false
set_option linter.unusedVariables false
namespace Go.Proofs.YtjbdefmhjmkifaaDoor
open Go.Zz
set_option maxRecDepth 100000
set_option maxHeartbeats 4000000
theorem ex31z {T : List AV} (h : T.length = 31) : ∃ f : Nat → AV, T = [f 0, f 1, f 2, f 3, f 4, f 5, f 6, f 7, f 8, f 9, f 10, f 11, f 12, f 13, f 14, f 15, f 16, f 17, f 18, f 19, f 20, f 21, f 22, f 23, f 24, f 25, f 26, f 27, f 28, f 29, f 30] := ⟨gt T, by have := list_gts T; rw [h] at this; exact this⟩
theorem s54 {pv : AV} {ps : List Pipe} {sup tol id : Int} (hq : PpL pv ps) (hmax : ps.length < 9223372036854775807) {m : Mem} : borrowE E38 54 [.agg [pv, .int .i64 sup, .int .i64 tol], .int .i64 id] m = some (.int .i64 (posI ps id), m) :=
  borrowE_of (pures_cons (pure3 hq.pureC) (pures_cons rfl rfl)) ((f54 hq hmax).mono fun y m' h => by rw [h]; rfl)

noncomputable def C1 : Env := E38.put 54 (borrowE E38 54)
theorem C1_ok : EnvOk Tryd.prog C1 := Env.put_ok E38_ok (borrowE_ok E38_ok (callable Tryd.func54 (by kernel_rfl)))
theorem f56 {pv iv : AV} {ps : List Pipe} {ids : List Int} {sup tol : Int} (hq : PpL pv ps) (hiv : IntS iv ids) (hv : VO ps sup tol) (hh : Has ps ids) (hl : ids.length ≤ 1000000) : WF C1 (.func 56 [] []) [.agg [pv, .int .i64 sup, .int .i64 tol], iv] ⟨[], []⟩ fun y m' => y = .int .i64 (lacks ps sup ids) := by
  have hil := hiv.len
  have hv2 := hv.2.1
  have hv3 := hv.2.2.1
  have hmax : ps.length < 9223372036854775807 := by omega
  refine WF.fnE rfl (fn_of Tryd.func56 cir56) (by show 2 ≤ 31; decide) ?_
  unfold ir56
  simp only [padTo, List.replicate, List.nil_append, List.append_nil, List.cons_append]
  repeat' (first | (refine WO.opE (by intro; simp (disch := omega) only [go_sem, zeros, Zz.look, Zz.over, Zz.cut, List.append_assoc, List.length_append, Nat.reduceAdd, Nat.reduceMul, Nat.reduceSub, Nat.reduceLeDiff, Nat.reduceEqDiff, Int.reduceNeg, Int.reduceAdd, Int.reduceToNat, reduceIte, reduceCtorEq]; rfl) (by simp only [pt8, pt0, pt1, pt2, pt3, pt4, pt5, pt6, pt7]; rfl) ?_) | (refine WC.seq ?_) | (refine WC.region ?_) | (refine WO.nil ?_) | (simp only [fl1, fl2, fl3, fl4, fl5, fl6, fl7, fl8, fl9, fl10, Nat.reduceBEq]) | (refine WC.block ?_))
  refine WC.loopI (fun m s => ∃ T i, s = ⟨T, [some ⟨0, [pv, .int .i64 sup, .int .i64 tol]⟩], []⟩ ∧ T.length = 31 ∧ gt T 1 = iv ∧ gt T 2 = .pref 0 0 0 ∧ gt T 5 = .int .i64 (demN ps ids i) ∧ gt T 6 = .int .i64 (i : Nat) ∧ m + i = ids.length) ?_ ids.length _ ⟨_, 0, rfl, rfl, rfl, rfl, rfl, rfl, by omega⟩
  rintro m _ ⟨T, i, rfl, hT, g1, g2, g5, g6, hm⟩
  obtain ⟨f, rfl⟩ := ex31z hT
  clear hT
  replace g1 : f 1 = iv := g1
  replace g2 : f 2 = .pref 0 0 0 := g2
  replace g5 : f 5 = .int .i64 (demN ps ids i) := g5
  replace g6 : f 6 = .int .i64 (i : Nat) := g6
  simp only [g1, g2, g5, g6]
  have hD := demN_bnd hv ids i (by omega)
  by_cases hin : i < ids.length
  · have hpi := hh i hin
    have hp : posI ps (ids.getD i 0) = ((pos ps (ids.getD i 0) : Nat) : Int) := if_pos hpi
    have h54 := fun m => s54 (sup := sup) (tol := tol) (id := ids.getD i 0) (m := m) hq hmax
    rw [hp] at h54
    have hat := hv.at (ids.getD i 0)
    unfold pipeOf at hat
    have hsu := demN_succ (ps := ps) hin
    unfold pipeOf at hsu
    repeat' (first | (refine WO.opE (by intro; simp (disch := omega) only [go_sem, zeros, Zz.look, Zz.over, Zz.cut, List.append_assoc, List.length_append, Nat.reduceAdd, Nat.reduceMul, Nat.reduceSub, Nat.reduceLeDiff, Nat.reduceEqDiff, Int.reduceNeg, Int.reduceAdd, Int.reduceToNat, reduceIte, reduceCtorEq, hq.at, hiv.atI]; rfl) (by simp only [pt8, pt0, pt1, pt2, pt3, pt4, pt5, pt6, pt7]; rfl) ?_) | (refine WO.opE (by intro; exact ev_lenS (by simp only [go_sem]; first | rfl | assumption)) (by simp only [pt8, pt0, pt1, pt2, pt3, pt4, pt5, pt6, pt7]; rfl) ?_) | (refine WT.spec rfl rfl (fun V => h54 _) (by simp only [pt8, pt0, pt1, pt2, pt3, pt4, pt5, pt6, pt7]; rfl) ?_) | (refine WC.seq ?_) | (refine WC.region ?_) | (refine WO.nil ?_) | (simp only [fl1, fl2, fl3, fl4, fl5, fl6, fl7, fl8, fl9, fl10, Nat.reduceBEq]) | (refine WC.drawT ?_) | (refine WT.nil ?_) | (refine WT.free rfl (by intro; simp (disch := omega) only [go_sem, zeros, Zz.look, Zz.over, Zz.cut, List.append_assoc, List.length_append, Nat.reduceAdd, Nat.reduceMul, Nat.reduceSub, Nat.reduceLeDiff, Nat.reduceEqDiff, Int.reduceNeg, Int.reduceAdd, Int.reduceToNat, reduceIte, reduceCtorEq, hq.at, hiv.atI]; rfl) rfl (by simp only [pt8, pt0, pt1, pt2, pt3, pt4, pt5, pt6, pt7]; rfl) ?_) | (refine WT.big rfl rfl (by intro; simp (disch := omega) only [go_sem, zeros, Zz.look, Zz.over, Zz.cut, List.append_assoc, List.length_append, Nat.reduceAdd, Nat.reduceMul, Nat.reduceSub, Nat.reduceLeDiff, Nat.reduceEqDiff, Int.reduceNeg, Int.reduceAdd, Int.reduceToNat, reduceIte, reduceCtorEq, hq.at, hiv.atI]; rfl) (by simp (disch := omega) only [go_sem, zeros, Zz.look, Zz.over, Zz.cut, List.append_assoc, List.length_append, Nat.reduceAdd, Nat.reduceMul, Nat.reduceSub, Nat.reduceLeDiff, Nat.reduceEqDiff, Int.reduceNeg, Int.reduceAdd, Int.reduceToNat, reduceIte, reduceCtorEq, hq.at, hiv.atI, touch]; rfl) (by first | exact .inl rfl | exact .inr (apart_nil _) | (right; apply apart_mk; simp only [apartL, List.nil_append, List.cons_append, List.getElem?_cons_succ, List.getElem?_cons_zero, Tch.free, and_true, true_and]; first | done | omega)) (by simp only [pt8, pt0, pt1, pt2, pt3, pt4, pt5, pt6, pt7]; rfl) ?_) | (refine WC.skip ?_) | (refine WC.block ?_) | (refine WC.em2 rfl (fun hp => ?_) (fun hp => ?_) <;> try (exfalso; first | omega | contradiction)))
    all_goals exact ⟨m - 1, by omega, _, i + 1, rfl, rfl, rfl, rfl, congrArg (AV.int .i64) hsu.symm, rfl, by omega⟩
  · have hi' : i = ids.length := by omega
    subst hi'
    have eD : demN ps ids ids.length = dem ps ids := rfl
    repeat' (first | (refine WO.opE (by intro; simp (disch := omega) only [go_sem, zeros, Zz.look, Zz.over, Zz.cut, List.append_assoc, List.length_append, Nat.reduceAdd, Nat.reduceMul, Nat.reduceSub, Nat.reduceLeDiff, Nat.reduceEqDiff, Int.reduceNeg, Int.reduceAdd, Int.reduceToNat, reduceIte, reduceCtorEq]; rfl) (by simp only [pt8, pt0, pt1, pt2, pt3, pt4, pt5, pt6, pt7]; rfl) ?_) | (refine WO.opE (by intro; exact ev_lenS (by simp only [go_sem]; first | rfl | assumption)) (by simp only [pt8, pt0, pt1, pt2, pt3, pt4, pt5, pt6, pt7]; rfl) ?_) | (refine WC.seq ?_) | (refine WC.region ?_) | (refine WO.nil ?_) | (simp only [fl1, fl2, fl3, fl4, fl5, fl6, fl7, fl8, fl9, fl10, Nat.reduceBEq]) | (refine WC.exit ?_) | (refine WC.ret ?_) | (refine WC.em2 rfl (fun hp => ?_) (fun hp => ?_) <;> try (exfalso; first | omega | contradiction)))
    all_goals
      refine ⟨_, rfl, ?_⟩
      simp only [oneRes, gt8, gt0, gt1, gt2, gt3, gt4, gt5, gt6, gt7]
      unfold lacks
      rw [← eD]
end Go.Proofs.YtjbdefmhjmkifaaDoor

