import Derived.Test.YtndaljjljmmlcaaAbsI
import Derived.Test.YtndaljjljmmlcaaL16E

set_option linter.unusedSimpArgs false
set_option linter.unusedVariables false
namespace Go.Proofs.Ytndaljjljmmlcaa
open Go.Zz
set_option maxRecDepth 100000
/-- The reference's Same. -/
theorem f16 {a b : AV} {xs ys : List Int} (ha : IntS a xs) (hb : IntS b ys) (h1 : xs.length < 9223372036854775808) (h2 : ys.length < 9223372036854775808) : WF E14 (.func 16 [] []) [a, b] ⟨[], []⟩ fun y m' => y = .bool (decide (xs = ys)) := by
  have hla := ha.len
  have hlb := hb.len
  refine WF.fnE rfl (fn_of Try.func16 cir16) (by show 2 ≤ 26; decide) ?_
  unfold ir16
  simp only [padTo, List.replicate, List.nil_append, List.append_nil, List.cons_append]
  repeat' (first | (refine WO.yes rfl ?_) | (refine WO.noE rfl (by simp only [pt8, pt0, pt1, pt2, pt3, pt4, pt5, pt6, pt7]; rfl) ?_) | (refine WO.opE (by intro; simp (disch := omega) only [go_sem, Zz.look, Zz.over, Zz.cut, Nat.reduceAdd, Nat.reduceMul, Nat.reduceSub, Nat.reduceLeDiff, Nat.reduceEqDiff, Int.reduceNeg, Int.reduceAdd, Int.reduceToNat, reduceIte, reduceCtorEq, tab_k, tab_f, tab_b, Nat.mul_one, ia_sref, nilEqAV, lk0, lk1, lk2, lk3, st0, st1, st2, st3]; rfl) (by simp only [pt8, pt0, pt1, pt2, pt3, pt4, pt5, pt6, pt7]; rfl) ?_) | (refine WO.opN (by intro; simp (disch := omega) only [go_sem, Zz.look, Zz.over, Zz.cut, Nat.reduceAdd, Nat.reduceMul, Nat.reduceSub, Nat.reduceLeDiff, Nat.reduceEqDiff, Int.reduceNeg, Int.reduceAdd, Int.reduceToNat, reduceIte, reduceCtorEq, tab_k, tab_f, tab_b, Nat.mul_one, ia_sref, nilEqAV, lk0, lk1, lk2, lk3, st0, st1, st2, st3]; rfl) ?_) | (refine WO.opE (by intro; exact ev_lenS (by simp only [go_sem]; first | rfl | assumption)) (by simp only [pt8, pt0, pt1, pt2, pt3, pt4, pt5, pt6, pt7]; rfl) ?_) | (refine WO.opE (by intro; exact ev_lenS (by simp only [go_sem]; exact hla)) (by simp only [pt8, pt0, pt1, pt2, pt3, pt4, pt5, pt6, pt7]; rfl) ?_) | (refine WO.opE (by intro; exact ev_lenS (by simp only [go_sem]; exact hlb)) (by simp only [pt8, pt0, pt1, pt2, pt3, pt4, pt5, pt6, pt7]; rfl) ?_) | (refine WC.seq ?_) | (refine WC.region ?_) | (refine WO.nil ?_) | (simp only [fl1, fl2, fl3, fl4, fl5, fl6, fl7, fl8, fl9, fl10, Nat.reduceBEq]) | (refine WC.calm rfl ?_) | (refine WC.drawT ?_) | (refine WT.nil ?_) | (refine WT.yes rfl ?_) | (refine WT.no rfl (by simp only [pt8, pt0, pt1, pt2, pt3, pt4, pt5, pt6, pt7]; rfl) ?_) | (refine WT.free rfl (by intro; simp (disch := omega) only [go_sem, Zz.look, Zz.over, Zz.cut, Nat.reduceAdd, Nat.reduceMul, Nat.reduceSub, Nat.reduceLeDiff, Nat.reduceEqDiff, Int.reduceNeg, Int.reduceAdd, Int.reduceToNat, reduceIte, reduceCtorEq, tab_k, tab_f, tab_b, Nat.mul_one, ia_sref, nilEqAV, lk0, lk1, lk2, lk3, st0, st1, st2, st3]; rfl) rfl (by simp only [pt8, pt0, pt1, pt2, pt3, pt4, pt5, pt6, pt7]; rfl) ?_) | (refine WT.big rfl rfl (by intro; simp (disch := omega) only [go_sem, Zz.look, Zz.over, Zz.cut, Nat.reduceAdd, Nat.reduceMul, Nat.reduceSub, Nat.reduceLeDiff, Nat.reduceEqDiff, Int.reduceNeg, Int.reduceAdd, Int.reduceToNat, reduceIte, reduceCtorEq, tab_k, tab_f, tab_b, Nat.mul_one, ia_sref, nilEqAV, lk0, lk1, lk2, lk3, st0, st1, st2, st3]; rfl) (by simp (disch := omega) only [go_sem, Zz.look, Zz.over, Zz.cut, Nat.reduceAdd, Nat.reduceMul, Nat.reduceSub, Nat.reduceLeDiff, Nat.reduceEqDiff, Int.reduceNeg, Int.reduceAdd, Int.reduceToNat, reduceIte, reduceCtorEq, tab_k, tab_f, tab_b, Nat.mul_one, ia_sref, nilEqAV, lk0, lk1, lk2, lk3, st0, st1, st2, st3, touch]; rfl) (by first | exact .inl rfl | exact .inr (apart_nil _) | (right; apply apart_mk; simp only [apartL, List.nil_append, List.cons_append, List.getElem?_cons_succ, List.getElem?_cons_zero, Tch.free, and_true, true_and]; first | done | omega)) (by simp only [pt8, pt0, pt1, pt2, pt3, pt4, pt5, pt6, pt7]; rfl) ?_) | (refine WT.bigN rfl rfl (by intro; simp (disch := omega) only [go_sem, Zz.look, Zz.over, Zz.cut, Nat.reduceAdd, Nat.reduceMul, Nat.reduceSub, Nat.reduceLeDiff, Nat.reduceEqDiff, Int.reduceNeg, Int.reduceAdd, Int.reduceToNat, reduceIte, reduceCtorEq, tab_k, tab_f, tab_b, Nat.mul_one, ia_sref, nilEqAV, lk0, lk1, lk2, lk3, st0, st1, st2, st3]; rfl) (by simp (disch := omega) only [go_sem, Zz.look, Zz.over, Zz.cut, Nat.reduceAdd, Nat.reduceMul, Nat.reduceSub, Nat.reduceLeDiff, Nat.reduceEqDiff, Int.reduceNeg, Int.reduceAdd, Int.reduceToNat, reduceIte, reduceCtorEq, tab_k, tab_f, tab_b, Nat.mul_one, ia_sref, nilEqAV, lk0, lk1, lk2, lk3, st0, st1, st2, st3, touch]; rfl) (by first | exact .inl rfl | exact .inr (apart_nil _) | (right; apply apart_mk; simp only [apartL, List.nil_append, List.cons_append, List.getElem?_cons_succ, List.getElem?_cons_zero, Tch.free, and_true, true_and]; first | done | omega)) ?_) | (refine WC.yes rfl ?_) | (refine WC.no rfl ?_) | (refine WC.skip ?_) | (refine WC.exit ?_) | (refine WC.ret ?_) | (refine WC.block ?_) | (refine WT.em2 rfl (by intro hp; simp only [hp, decide_true]; rfl) (by intro hp; simp only [hp, decide_false]; rfl) (fun hp => ?_) (fun hp => ?_) <;> try (exfalso; first | omega | contradiction)) | (refine WO.em2 rfl (by intro hp; simp only [hp, decide_true]; rfl) (by intro hp; simp only [hp, decide_false]; rfl) (fun hp => ?_) (fun hp => ?_) <;> try (exfalso; first | omega | contradiction)) | (refine WC.em2 rfl (fun hp => ?_) (fun hp => ?_) <;> try (exfalso; first | omega | contradiction)))
  · exact ⟨_, rfl, by simp only [oneRes, gt8, gt0, gt4, AV.bool.injEq]; symm; rw [decide_eq_false_iff_not]; rintro rfl; exact hp rfl⟩
  refine WC.loopI (fun m s => ∃ T H i, s = ⟨T, H, []⟩ ∧ T.length = 26 ∧ gt T 0 = a ∧ gt T 1 = b ∧ gt T 5 = .int .i64 (i : Nat) ∧ m + i = xs.length ∧ ∀ j, j < i → xs.getD j 0 = ys.getD j 0) ?_ xs.length _ ⟨_, _, 0, rfl, rfl, rfl, rfl, rfl, by omega, fun j hj => by omega⟩
  rintro m _ ⟨T, H, i, rfl, hT, g0, g1, g5, hm, ih⟩
  obtain ⟨f, rfl⟩ := ex26 hT
  clear hT
  replace g0 : f 0 = a := g0
  replace g1 : f 1 = b := g1
  replace g5 : f 5 = .int .i64 (i : Nat) := g5
  simp only [g0, g1, g5]
  repeat' (first | (refine WO.yes rfl ?_) | (refine WO.noE rfl (by simp only [pt8, pt0, pt1, pt2, pt3, pt4, pt5, pt6, pt7]; rfl) ?_) | (refine WO.opE (by intro; simp (disch := omega) only [go_sem, zeros, Zz.cut, List.append_assoc, List.length_append, Nat.reduceAdd, Nat.reduceMul, Nat.reduceSub, Nat.reduceLeDiff, Nat.reduceEqDiff, Int.reduceNeg, Int.reduceAdd, Int.reduceToNat, reduceIte, reduceCtorEq, tab_k, tab_f, tab_b, Nat.mul_one, ia_sref, nilEqAV, lk0, lk1, lk2, lk3, st0, st1, st2, st3, ha.atI, hb.atI]; rfl) (by simp only [pt8, pt0, pt1, pt2, pt3, pt4, pt5, pt6, pt7]; rfl) ?_) | (refine WO.opN (by intro; simp (disch := omega) only [go_sem, zeros, Zz.cut, List.append_assoc, List.length_append, Nat.reduceAdd, Nat.reduceMul, Nat.reduceSub, Nat.reduceLeDiff, Nat.reduceEqDiff, Int.reduceNeg, Int.reduceAdd, Int.reduceToNat, reduceIte, reduceCtorEq, tab_k, tab_f, tab_b, Nat.mul_one, ia_sref, nilEqAV, lk0, lk1, lk2, lk3, st0, st1, st2, st3, ha.atI, hb.atI]; rfl) ?_) | (refine WO.opE (by intro; exact ev_lenS (by simp only [go_sem]; first | rfl | assumption)) (by simp only [pt8, pt0, pt1, pt2, pt3, pt4, pt5, pt6, pt7]; rfl) ?_) | (refine WO.opE (by intro; exact ev_lenS (by simp only [go_sem]; exact hla)) (by simp only [pt8, pt0, pt1, pt2, pt3, pt4, pt5, pt6, pt7]; rfl) ?_) | (refine WO.opE (by intro; exact ev_lenS (by simp only [go_sem]; exact hlb)) (by simp only [pt8, pt0, pt1, pt2, pt3, pt4, pt5, pt6, pt7]; rfl) ?_) | (refine WC.seq ?_) | (refine WC.region ?_) | (refine WO.nil ?_) | (simp only [fl1, fl2, fl3, fl4, fl5, fl6, fl7, fl8, fl9, fl10, Nat.reduceBEq]) | (refine WC.calm rfl ?_) | (refine WC.drawT ?_) | (refine WT.nil ?_) | (refine WT.yes rfl ?_) | (refine WT.no rfl (by simp only [pt8, pt0, pt1, pt2, pt3, pt4, pt5, pt6, pt7]; rfl) ?_) | (refine WT.free rfl (by intro; simp (disch := omega) only [go_sem, zeros, Zz.cut, List.append_assoc, List.length_append, Nat.reduceAdd, Nat.reduceMul, Nat.reduceSub, Nat.reduceLeDiff, Nat.reduceEqDiff, Int.reduceNeg, Int.reduceAdd, Int.reduceToNat, reduceIte, reduceCtorEq, tab_k, tab_f, tab_b, Nat.mul_one, ia_sref, nilEqAV, lk0, lk1, lk2, lk3, st0, st1, st2, st3, ha.atI, hb.atI]; rfl) rfl (by simp only [pt8, pt0, pt1, pt2, pt3, pt4, pt5, pt6, pt7]; rfl) ?_) | (refine WT.big rfl rfl (by intro; simp (disch := omega) only [go_sem, zeros, Zz.cut, List.append_assoc, List.length_append, Nat.reduceAdd, Nat.reduceMul, Nat.reduceSub, Nat.reduceLeDiff, Nat.reduceEqDiff, Int.reduceNeg, Int.reduceAdd, Int.reduceToNat, reduceIte, reduceCtorEq, tab_k, tab_f, tab_b, Nat.mul_one, ia_sref, nilEqAV, lk0, lk1, lk2, lk3, st0, st1, st2, st3, ha.atI, hb.atI]; rfl) (by simp (disch := omega) only [go_sem, zeros, Zz.cut, List.append_assoc, List.length_append, Nat.reduceAdd, Nat.reduceMul, Nat.reduceSub, Nat.reduceLeDiff, Nat.reduceEqDiff, Int.reduceNeg, Int.reduceAdd, Int.reduceToNat, reduceIte, reduceCtorEq, tab_k, tab_f, tab_b, Nat.mul_one, ia_sref, nilEqAV, lk0, lk1, lk2, lk3, st0, st1, st2, st3, ha.atI, hb.atI, touch]; rfl) (by first | exact .inl rfl | exact .inr (apart_nil _) | (right; apply apart_mk; simp only [apartL, List.nil_append, List.cons_append, List.getElem?_cons_succ, List.getElem?_cons_zero, Tch.free, and_true, true_and]; first | done | omega)) (by simp only [pt8, pt0, pt1, pt2, pt3, pt4, pt5, pt6, pt7]; rfl) ?_) | (refine WT.bigN rfl rfl (by intro; simp (disch := omega) only [go_sem, zeros, Zz.cut, List.append_assoc, List.length_append, Nat.reduceAdd, Nat.reduceMul, Nat.reduceSub, Nat.reduceLeDiff, Nat.reduceEqDiff, Int.reduceNeg, Int.reduceAdd, Int.reduceToNat, reduceIte, reduceCtorEq, tab_k, tab_f, tab_b, Nat.mul_one, ia_sref, nilEqAV, lk0, lk1, lk2, lk3, st0, st1, st2, st3, ha.atI, hb.atI]; rfl) (by simp (disch := omega) only [go_sem, zeros, Zz.cut, List.append_assoc, List.length_append, Nat.reduceAdd, Nat.reduceMul, Nat.reduceSub, Nat.reduceLeDiff, Nat.reduceEqDiff, Int.reduceNeg, Int.reduceAdd, Int.reduceToNat, reduceIte, reduceCtorEq, tab_k, tab_f, tab_b, Nat.mul_one, ia_sref, nilEqAV, lk0, lk1, lk2, lk3, st0, st1, st2, st3, ha.atI, hb.atI, touch]; rfl) (by first | exact .inl rfl | exact .inr (apart_nil _) | (right; apply apart_mk; simp only [apartL, List.nil_append, List.cons_append, List.getElem?_cons_succ, List.getElem?_cons_zero, Tch.free, and_true, true_and]; first | done | omega)) ?_) | (refine WC.yes rfl ?_) | (refine WC.no rfl ?_) | (refine WC.skip ?_) | (refine WC.exit ?_) | (refine WC.ret ?_) | (refine WC.block ?_) | (refine WT.em2 rfl (by intro hp; simp only [hp, decide_true]; rfl) (by intro hp; simp only [hp, decide_false]; rfl) (fun hp => ?_) (fun hp => ?_) <;> try (exfalso; first | omega | contradiction)) | (refine WO.em2 rfl (by intro hp; simp only [hp, decide_true]; rfl) (by intro hp; simp only [hp, decide_false]; rfl) (fun hp => ?_) (fun hp => ?_) <;> try (exfalso; first | omega | contradiction)) | (refine WC.em2 rfl (fun hp => ?_) (fun hp => ?_) <;> try (exfalso; first | omega | contradiction)))
  · refine ⟨_, rfl, ?_⟩
    simp only [oneRes, gt8, gt0, gt4, AV.bool.injEq]
    symm; rw [decide_eq_false_iff_not]; rintro rfl; exact hp rfl
  · exact ⟨m - 1, by omega, _, _, i + 1, rfl, rfl, rfl, rfl, rfl, by omega, fun j hj => by
      by_cases e : j = i
      · subst e; exact Decidable.of_not_not hp
      · exact ih j (by omega)⟩
  · refine ⟨_, rfl, ?_⟩
    simp only [oneRes, gt8, gt0, gt4, AV.bool.injEq]
    symm; rw [decide_eq_true_iff]
    apply List.ext_getElem (by omega)
    intro j h1 h2
    have := ih j (by omega)
    simpa [List.getD_eq_getElem?_getD, h1, h2] using this
theorem s16 {a b : AV} {xs ys : List Int} (ha : IntS a xs) (hb : IntS b ys) (h1 : xs.length < 9223372036854775808) (h2 : ys.length < 9223372036854775808) {a' b' : AV} {m : Mem} (e1 : byVal m.heap a' = some a) (e2 : byVal m.heap b' = some b) : borrowX E14 16 [a', b'] m = some (.bool (decide (xs = ys)), m) :=
  borrowX_of (byVals_cons e1 (byVals_cons e2 rfl)) ((f16 ha hb h1 h2).mono fun y m' h => by rw [h]; rfl)

noncomputable def E15 : Env := E14.put 16 (borrowX E14 16)
theorem E15_ok : EnvOk Try.prog E15 := Env.put_ok E14_ok (borrowX_ok E14_ok (callable Try.func16 (by kernel_rfl)))

/-- Sizes that agree, as the laws ask. -/
def Agree (n : Int) (rs : List Rg) (xs : List Int) : Prop := (xs.length : Int) = n ∧ (∀ i, i < xs.length → -1000000000000000 ≤ xs.getD i 0 ∧ xs.getD i 0 ≤ 1000000000000000) ∧
  ∀ k, k < rs.length → (nth rs k).lo ≤ xs.getD (nth rs k).b.toNat 0 - xs.getD (nth rs k).a.toNat 0 ∧ xs.getD (nth rs k).b.toNat 0 - xs.getD (nth rs k).a.toNat 0 ≤ (nth rs k).hi

noncomputable def E16 : Env := E15.put 21 (borrowE E15 21)
theorem E16_ok : EnvOk Try.prog E16 := Env.put_ok E15_ok (borrowE_ok E15_ok (callable Try.func21 (by kernel_rfl)))
end Go.Proofs.Ytndaljjljmmlcaa


set_option linter.unusedSimpArgs false
set_option linter.unusedVariables false
namespace Go.Proofs.Ytndaljjljmmlcaa
open Go.Zz
set_option maxRecDepth 100000
theorem rdl_mk (rs : List Rg) (f : Bool) : RdL (.sval f rs.length (rs.map Rg.cells).flatten) rs := by
  refine ⟨fun c hc => ?_, .inr ⟨f, by simp⟩⟩
  obtain ⟨r, _, rfl⟩ := List.mem_map.1 hc
  rfl
noncomputable def E17 : Env := E16.put 25 (borrowE E16 25)
theorem E17_ok : EnvOk Try.prog E17 := Env.put_ok E16_ok (borrowE_ok E16_ok (callable Try.func25 (by kernel_rfl)))
/-- The readings of the examples. -/
def smp (most : Int) : List Rg := [⟨0, 1, 100, 110⟩, ⟨1, 2, 50, 55⟩, ⟨0, 2, 140, most⟩]
theorem s26 {most : Int} {m : Mem} : borrowE E17 26 [.int .i64 most] m = some (.sval true (smp most).length ((smp most).map Rg.cells).flatten, m) := by
  refine borrowE_of rfl ?_
  refine WF.fnE rfl (fn_of Try.func26 cir26) (by show 1 ≤ 8; decide) ?_
  unfold ir26
  simp only [padTo, List.replicate, List.nil_append, List.append_nil, List.cons_append]
  repeat' (first | (refine WO.yes rfl ?_) | (refine WO.noE rfl (by simp only [pt8, pt0, pt1, pt2, pt3, pt4, pt5, pt6, pt7]; rfl) ?_) | (refine WO.opE (by intro; simp (disch := omega) only [go_sem, Zz.look, Zz.over, Zz.cut, Nat.reduceAdd, Nat.reduceMul, Nat.reduceSub, Nat.reduceLeDiff, Nat.reduceEqDiff, Int.reduceNeg, Int.reduceAdd, Int.reduceToNat, reduceIte, reduceCtorEq, tab_k, tab_f, tab_b, Nat.mul_one, ia_sref, nilEqAV, lk0, lk1, lk2, lk3, st0, st1, st2, st3]; rfl) (by simp only [pt8, pt0, pt1, pt2, pt3, pt4, pt5, pt6, pt7]; rfl) ?_) | (refine WO.opN (by intro; simp (disch := omega) only [go_sem, Zz.look, Zz.over, Zz.cut, Nat.reduceAdd, Nat.reduceMul, Nat.reduceSub, Nat.reduceLeDiff, Nat.reduceEqDiff, Int.reduceNeg, Int.reduceAdd, Int.reduceToNat, reduceIte, reduceCtorEq, tab_k, tab_f, tab_b, Nat.mul_one, ia_sref, nilEqAV, lk0, lk1, lk2, lk3, st0, st1, st2, st3]; rfl) ?_) | (refine WO.opE (by intro; exact ev_lenS (by simp only [go_sem]; first | rfl | assumption)) (by simp only [pt8, pt0, pt1, pt2, pt3, pt4, pt5, pt6, pt7]; rfl) ?_) | (refine WC.seq ?_) | (refine WC.region ?_) | (refine WO.nil ?_) | (simp only [fl1, fl2, fl3, fl4, fl5, fl6, fl7, fl8, fl9, fl10, Nat.reduceBEq]) | (refine WC.calm rfl ?_) | (refine WC.drawT ?_) | (refine WC.yes rfl ?_) | (refine WC.no rfl ?_) | (refine WC.skip ?_) | (refine WC.exit ?_) | (refine WC.ret ?_) | (refine WC.block ?_) | (refine WO.em2 rfl (by intro hp; simp only [hp, decide_true]; rfl) (by intro hp; simp only [hp, decide_false]; rfl) (fun hp => ?_) (fun hp => ?_) <;> try (exfalso; first | omega | contradiction)) | (refine WC.em2 rfl (fun hp => ?_) (fun hp => ?_) <;> try (exfalso; first | omega | contradiction)))
  exact ⟨_, rfl, rfl⟩

noncomputable def E18 : Env := E17.put 26 (borrowE E17 26)
theorem E18_ok : EnvOk Try.prog E18 := Env.put_ok E17_ok (borrowE_ok E17_ok (callable Try.func26 (by kernel_rfl)))
end Go.Proofs.Ytndaljjljmmlcaa

