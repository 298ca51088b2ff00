import Derived.Test.YtjbdefmhjmkifaaDoorIr11xc10
import Derived.Test.YtjbdefmhjmkifaaDoorL11z

set_option linter.unusedSimpArgs false
set_option linter.unusedVariables false
namespace Go.Proofs.YtjbdefmhjmkifaaDoor
open Go.Zz
set_option maxRecDepth 100000
set_option maxHeartbeats 4000000
/-! ### The reference's small parts -/
def posI (ps : List Pipe) (id : Int) : Int := if pos ps id < ps.length then (pos ps id : Int) else -1
theorem f54 {pv : AV} {ps : List Pipe} {sup tol id : Int} (hq : PpL pv ps) (hmax : ps.length < 9223372036854775807) : WF E38 (.func 54 [] []) [.agg [pv, .int .i64 sup, .int .i64 tol], .int .i64 id] ⟨[], []⟩ fun y m' => y = .int .i64 (posI ps id) := by
  have hlen := hq.len
  refine WF.fnE rfl (fn_of Tryd.func54 cir54) (by show 2 ≤ 22; decide) ?_
  unfold ir54
  simp only [padTo, List.replicate, List.nil_append, List.append_nil, List.cons_append]
  repeat' (first | (refine WO.opE (by intro; simp (disch := omega) only [go_sem, zeros, Zz.look, Zz.over, Zz.cut, List.append_assoc, List.length_append, Nat.reduceAdd, Nat.reduceMul, Nat.reduceSub, Nat.reduceLeDiff, Nat.reduceEqDiff, Int.reduceNeg, Int.reduceAdd, Int.reduceToNat, reduceIte, reduceCtorEq]; rfl) (by simp only [pt8, pt0, pt1, pt2, pt3, pt4, pt5, pt6, pt7]; rfl) ?_) | (refine WC.seq ?_) | (refine WC.region ?_) | (refine WO.nil ?_) | (simp only [fl1, fl2, fl3, fl4, fl5, fl6, fl7, fl8, fl9, fl10, Nat.reduceBEq]) | (refine WC.block ?_))
  refine WC.loopI (fun m s => ∃ T i, s = ⟨T, [some ⟨0, [pv, .int .i64 sup, .int .i64 tol]⟩], []⟩ ∧ T.length = 22 ∧ gt T 1 = .int .i64 id ∧ gt T 2 = .pref 0 0 0 ∧ gt T 5 = .int .i64 (i : Nat) ∧ m + i = ps.length ∧ ∀ j, j < i → (nth ps j).id ≠ id) ?_ ps.length _ ⟨_, 0, rfl, rfl, rfl, rfl, rfl, by omega, fun j hj => by omega⟩
  rintro m _ ⟨T, i, rfl, hT, g1, g2, g5, hm, hi⟩
  obtain ⟨f, rfl⟩ := ex22 hT
  clear hT
  replace g1 : f 1 = .int .i64 id := g1
  replace g2 : f 2 = .pref 0 0 0 := g2
  replace g5 : f 5 = .int .i64 (i : Nat) := g5
  simp only [g1, g2, g5]
  by_cases hin : i < ps.length
  · have e0 := hin
    repeat' (first | (refine WO.opE (by intro; simp (disch := omega) only [go_sem, zeros, Zz.look, Zz.over, Zz.cut, List.append_assoc, List.length_append, Nat.reduceAdd, Nat.reduceMul, Nat.reduceSub, Nat.reduceLeDiff, Nat.reduceEqDiff, Int.reduceNeg, Int.reduceAdd, Int.reduceToNat, reduceIte, reduceCtorEq, hq.at]; rfl) (by simp only [pt8, pt0, pt1, pt2, pt3, pt4, pt5, pt6, pt7]; rfl) ?_) | (refine WO.opE (by intro; exact ev_lenS (by simp only [go_sem]; first | rfl | assumption)) (by simp only [pt8, pt0, pt1, pt2, pt3, pt4, pt5, pt6, pt7]; rfl) ?_) | (refine WC.seq ?_) | (refine WC.region ?_) | (refine WO.nil ?_) | (simp only [fl1, fl2, fl3, fl4, fl5, fl6, fl7, fl8, fl9, fl10, Nat.reduceBEq]) | (refine WC.skip ?_) | (refine WC.ret ?_) | (refine WC.block ?_) | (refine WC.em2 rfl (fun hp => ?_) (fun hp => ?_) <;> try (exfalso; first | omega | contradiction)))
    · refine ⟨_, rfl, ?_⟩
      have hp := pos_eq hin (by assumption) hi
      simp only [oneRes, gt8, gt0, gt1, gt2, gt3, gt4, gt5, gt6, gt7]
      unfold posI
      rw [hp, if_pos hin]
    · rename_i hne
      exact ⟨m - 1, by omega, _, i + 1, rfl, rfl, rfl, rfl, rfl, by omega, fun j hj => by
        by_cases e : j = i
        · subst e; assumption
        · exact hi j (by omega)⟩
  · have e0 := hin
    repeat' (first | (refine WO.opE (by intro; simp (disch := omega) only [go_sem, zeros, Zz.look, Zz.over, Zz.cut, List.append_assoc, List.length_append, Nat.reduceAdd, Nat.reduceMul, Nat.reduceSub, Nat.reduceLeDiff, Nat.reduceEqDiff, Int.reduceNeg, Int.reduceAdd, Int.reduceToNat, reduceIte, reduceCtorEq]; rfl) (by simp only [pt8, pt0, pt1, pt2, pt3, pt4, pt5, pt6, pt7]; rfl) ?_) | (refine WO.opE (by intro; exact ev_lenS (by simp only [go_sem]; first | rfl | assumption)) (by simp only [pt8, pt0, pt1, pt2, pt3, pt4, pt5, pt6, pt7]; rfl) ?_) | (refine WC.seq ?_) | (refine WC.region ?_) | (refine WO.nil ?_) | (simp only [fl1, fl2, fl3, fl4, fl5, fl6, fl7, fl8, fl9, fl10, Nat.reduceBEq]) | (refine WC.exit ?_) | (refine WC.ret ?_) | (refine WC.em2 rfl (fun hp => ?_) (fun hp => ?_) <;> try (exfalso; first | omega | contradiction)))
    refine ⟨_, rfl, ?_⟩
    have hp := pos_none (ps := ps) (id := id) fun j hj => hi j (by omega)
    simp only [oneRes, gt8, gt0, gt1, gt2, gt3, gt4, gt5, gt6, gt7]
    unfold posI
    rw [hp, if_neg (by omega)]
theorem f59 {p : Pipe} {l w : Int} (hp : 0 ≤ p.sag ∧ p.sag ≤ 100000000 ∧ 0 ≤ p.warm ∧ p.warm ≤ 100000000) (hw : -100 ≤ w ∧ w ≤ 100) (hl : 0 ≤ l ∧ l ≤ 1000000000) : WF E38 (.func 59 [] []) [.agg p.cells, .int .i64 l, .int .i64 w] ⟨[], []⟩ fun y m' => y = .int .i64 (shiftOf p l w) := by
  have m1 := mul_bnd (a := p.warm) (b := w) (A := 100000000) (B := 100) hp.2.2.1 hp.2.2.2 (by omega) (by omega)
  have m2 := mul_bnd (a := p.sag) (b := l) (A := 100000000) (B := 1000000000) hp.1 hp.2.1 (by omega) (by omega)
  unfold shiftOf
  generalize hA : p.warm * w = a at m1
  generalize hB : p.sag * l = b at m2
  refine WF.fnE rfl (fn_of Tryd.func59 cir59) (by show 3 ≤ 16; decide) ?_
  unfold ir59
  simp only [padTo, List.replicate, List.nil_append, List.append_nil, List.cons_append]
  repeat' (first | (refine WO.opE (by intro; simp (disch := omega) only [go_sem, zeros, Zz.look, List.append_assoc, List.length_append, Nat.reduceAdd, Nat.reduceMul, Nat.reduceSub, Nat.reduceLeDiff, Nat.reduceEqDiff, Int.reduceNeg, Int.reduceAdd, Int.reduceToNat, reduceIte, reduceCtorEq, Pipe.cells, over10, hA, hB, app_g0, app_g1, app_g2, app_g3, app_g4, app_s0, app_s1, app_s2, app_s3, app_s4]; rfl) (by simp only [pt8, pt0, pt1, pt2, pt3, pt4, pt5, pt6, pt7]; rfl) ?_) | (refine WC.seq ?_) | (refine WC.region ?_) | (refine WO.nil ?_) | (simp only [fl1, fl2, fl3, fl4, fl5, fl6, fl7, fl8, fl9, fl10, Nat.reduceBEq]) | (refine WC.ret ?_))
  all_goals exact ⟨_, rfl, rfl⟩
theorem f60 {a b lo hi : Int} : WF E38 (.func 60 [] []) [.agg [.int .i64 a, .int .i64 b], .int .i64 lo, .int .i64 hi] ⟨[], []⟩ fun y m' => y = .int .i64 (sur a b lo hi) := by
  refine WF.fnE rfl (fn_of Tryd.func60 cir60) (by show 3 ≤ 27; decide) ?_
  unfold ir60
  simp only [padTo, List.replicate, List.nil_append, List.append_nil, List.cons_append]
  repeat' (first | (refine WO.yes rfl ?_) | (refine WO.noE rfl (by simp only [pt8, pt0, pt1, pt2, pt3, pt4, pt5, pt6, pt7]; rfl) ?_) | (refine WO.opE (by intro; simp (disch := omega) only [go_sem, zeros, Zz.look, Zz.over, Zz.cut, List.append_assoc, List.length_append, Nat.reduceAdd, Nat.reduceMul, Nat.reduceSub, Nat.reduceLeDiff, Nat.reduceEqDiff, Int.reduceNeg, Int.reduceAdd, Int.reduceToNat, reduceIte, reduceCtorEq]; rfl) (by simp only [pt8, pt0, pt1, pt2, pt3, pt4, pt5, pt6, pt7]; rfl) ?_) | (refine WC.seq ?_) | (refine WC.region ?_) | (refine WO.nil ?_) | (simp only [fl1, fl2, fl3, fl4, fl5, fl6, fl7, fl8, fl9, fl10, Nat.reduceBEq]) | (refine WC.yes rfl ?_) | (refine WC.no rfl ?_) | (refine WC.skip ?_) | (refine WC.ret ?_) | (refine WO.em2 rfl (by intro hp; simp only [hp, decide_true]; rfl) (by intro hp; simp only [hp, decide_false]; rfl) (fun hp => ?_) (fun hp => ?_) <;> try (exfalso; first | omega | contradiction)) | (refine WC.em2 rfl (fun hp => ?_) (fun hp => ?_) <;> try (exfalso; first | omega | contradiction)))
  all_goals
    refine ⟨_, rfl, ?_⟩
    simp only [oneRes, gt8, gt0, gt1, gt2, gt3, gt4, gt5, gt6, gt7, sur]
    first | rfl | (congr 1; split <;> first | omega | (split <;> omega))
/-- One list before another. -/
def befI : List Int → List Int → Bool
  | [], [] => false
  | [], _ :: _ => true
  | _ :: _, [] => false
  | a :: l, b :: r => if a ≠ b then decide (a < b) else befI l r
end Go.Proofs.YtjbdefmhjmkifaaDoor

